/- A call whose arguments are frozen for the call, and whose result is one new object that the caller owns. -/
import Derived.Test.YtpnekpbehcbmkaaEngP
set_option linter.unusedSimpArgs false
set_option linter.unusedVariables false
set_option linter.unnecessarySimpa false
namespace Go.Eng
open Go.RowKit

theorem Frz.mono {h : AH} {a b : AV} (hf : Frz h true a b) : Frz h false a b := by
  generalize hn : true = n at hf
  induction hf with
  | undef a => exact .undef a
  | bool b => exact .bool b
  | int k m => exact .int k m
  | str s => exact .str s
  | nilptr => exact .nilptr
  | nilfunc => exact .nilfunc
  | nilif => exact .nilif
  | nilmap => exact .nilmap
  | nilsl0 => exact .nilsl0
  | nilsl => exact .nilsl
  | esl0 => exact .esl0
  | esl => exact .esl
  | gptr g o => exact .gptr g o
  | agg cs ds hl hc ih => exact .agg cs ds hl fun i c d h1 h2 => ih i c d h1 h2
  | tup cs ds hl hc ih => exact .tup cs ds hl fun i c d h1 h2 => ih i c d h1 h2
  | psl0 => exact .psl0
  | psl hn' => subst hn; cases hn'
  | pptr hn' => subst hn; cases hn'
  | rsl id off z cs ys ho hs hz hc ih => exact .rsl id off z cs ys ho hs hz fun i y j c d h1 h2 h3 => ih i y j c d h1 h2 h3
  | ptr id off cs ds ho hs hc ih => exact .ptr id off cs ds ho hs fun i c d h1 h2 => ih i c d h1 h2
  | func fn f1 c1 f2 c2 hl1 hl2 h1 h2 ih1 ih2 => exact .func fn f1 c1 f2 c2 hl1 hl2 (fun i c d q1 q2 => ih1 i c d q1 q2) (fun i c d q1 q2 => ih2 i c d q1 q2)
  | iface t a b hb ih => exact .iface t a b (ih)
theorem Fresh.pure {P : Program} {f : Nat} {args : List AV} {v : AV} (hf : Fresh P f args v) (hcl : ∀ a ∈ args, Closed a) : Pure P f args v :=
  Pure.of hcl (hf.mono fun _ _ h => h.mono)

theorem VR.sub {hp : Array Obj} {L L' : Nat → Prop} {β : Bl} (h : ∀ b, L' b → L b) {a : AV} {v : Value} (hv : VR hp L β a v) : VR hp L' β a v :=
  hv.later ⟨fun _ _ h => h, fun b _ hn => ⟨fun hl => hn (h b hl), rfl⟩, fun _ cur _ _ h => ⟨cur, h, rfl⟩⟩

theorem SimH.kill {own : Nat → Prop} {β : Bl} {h : AH} {w : World} (hs : SimH own β h.H h.nx w) (id : Nat) : SimH own β (h.kill id).H h.nx w := by
  have hsub : ∀ b, live β (h.kill id).H b → live β h.H b := by
    rintro b ⟨i, o, base, h1, h2⟩
    rw [get_kill] at h1
    split at h1
    · cases h1
    · exact ⟨i, o, base, h1, h2⟩
  refine ⟨hs.fresh, hs.lt, hs.ownlt, fun i o hi => ?_, fun i j o o' b x y h1 h2 h3 h4 => ?_⟩
  · rw [get_kill] at hi
    split at hi
    · cases hi
    · obtain ⟨b, base, q1, q2, q3⟩ := hs.obj i o hi
      have hw : ∀ b, (own b ∨ live β (h.kill id).H b) → (own b ∨ live β h.H b) := fun b hb => hb.imp_right (hsub b)
      refine ⟨b, base, q1, q2, ?_⟩
      cases o with
      | cells cs => obtain ⟨cur, e, r1, r2, r3⟩ := q3; exact ⟨cur, e, r1, r2, fun i c v k1 k2 => (r3 i c v k1 k2).sub hw⟩
      | map kvs => obtain ⟨r0, es, clock, r1, r2, r3⟩ := q3; exact ⟨r0, es, clock, r1, r2, fun i kv e k1 k2 => ⟨(r3 i kv e k1 k2).1.sub hw, (r3 i kv e k1 k2).2.1.sub hw, (r3 i kv e k1 k2).2.2⟩⟩
      | siter s pos => exact q3
      | glob g cs => obtain ⟨r0, r00, cur, e, fz, r1, r2, r3⟩ := q3; exact ⟨r0, r00, cur, e, fz, r1, r2, fun i c v k1 k2 => (r3 i c v k1 k2).sub hw⟩
  · rw [get_kill] at h1 h2
    split at h1
    · cases h1
    split at h2
    · cases h2
    exact hs.inj i j o o' b x y h1 h2 h3 h4

/-- the result: one slice into the new object, alone or with a further value -/
inductive Hole (h' : AH) (id nid : Nat) : AV → AV → Prop where
  | one (off len z : Nat) : Hole h' id nid (.rsl id off len z) (.rsl nid off len z)
  | two (off len z : Nat) (y' y : AV) (hy : Frz h' true y' y) : Hole h' id nid (.tup [.rsl id off len z, y']) (.tup [.rsl nid off len z, y])

theorem frameO {P : Program} {f : Nat} {args pargs : List AV} {h : AH} {R : AV → AH → Prop} {v : AV} {cs2 : List AV} (hc : CallsA P f pargs emp R)
    (hR : ∀ v' h', R v' h' → ∃ id cs, h'.cellsAt id = some cs ∧ FrzL (h'.kill id) true cs cs2 ∧ Hole (h'.kill id) id h.nx v' v)
    (hlen : args.length = pargs.length) (hfz : ∀ (i : Nat) (a b : AV), args[i]? = some a → pargs[i]? = some b → Frz h false a b) : CallD P f args h v (h.add (.cells cs2)) := by
  refine ⟨hc.1, fun own β w cargs hs hRL => ?_⟩
  have hp : RL w.heap (LL (fun _ => False) noB emp.H) noB pargs cargs.toList := by
    refine ⟨hlen ▸ hRL.1, fun i d v h1 h2 => ?_⟩
    obtain ⟨a, ha⟩ := get_of_len hlen h1
    exact VR.frz hs (fun b _ hl => hl.elim (fun h => h) (live_emp _ b)) (fun _ b _ hl => hl.elim (fun h => h) (live_emp _ b)) (hfz i a d ha h1) (hRL.2 i a v ha h2)
  refine (hc.2 (fun _ => False) noB w cargs (simH_emp fun b hb => hb.elim) hp).mono ?_
  rintro e w' ⟨cv, v0, h0, β0, rfl, hq, hs0, hv0, ht⟩
  obtain ⟨id, cs, hcs, hfc, hhole⟩ := hR v0 h0 hq
  obtain ⟨b, base, hb, _, cur, et, hcur, hcl, hcell⟩ := hs0.obj id _ (cellsAt_get hcs)
  have hlive : live β0 h0.H b := ⟨id, _, base, cellsAt_get hcs, hb⟩
  have hnew : w.heap.size ≤ b := (ht.live b hlive).resolve_left (live_emp _ b)
  have hblt : b < w'.heap.size := hs0.lt id b base hb
  have hkeep : ∀ b, b < w.heap.size → w'.heap[b]? = w.heap[b]? := fun b hb => ht.keep b hb (live_emp _ b)
  have hnx : β h.nx = none := hs.fresh _ (Nat.le_refl _)
  obtain ⟨β', hβ'⟩ : ∃ β', β' = upd β h.nx b base := ⟨_, rfl⟩
  have hgood : ∀ {i x}, β i = some x → β' i = some x := fun {i x} hi => by
    have : i ≠ h.nx := fun e => by rw [e, hnx] at hi; cases hi
    rw [hβ', upd_ne _ _ _ this]; exact hi
  have hself : β' h.nx = some (b, base) := by rw [hβ']; exact upd_same _ _ _ _
  have hlv : ∀ b', live β' (h.add (.cells cs2)).H b' → live β h.H b' ∨ b' = b := by
    rintro b' ⟨i, o, ba, h1, h2⟩
    rw [get_add] at h1
    by_cases hi : i = h.nx
    · subst hi; rw [hself] at h2; cases h2; exact .inr rfl
    · rw [if_neg hi] at h1; rw [hβ', upd_ne _ _ _ hi] at h2; exact .inl ⟨i, o, ba, h1, h2⟩
  have hT : Trans own β h w β' (h.add (.cells cs2)) w' := by
    refine ⟨fun i x hx => hgood hx, fun i hi => by rw [hβ', upd_ne _ _ _ (by omega)], by simp, ht.size, fun b' hb' _ => hkeep b' hb', fun b' hl => ?_, fun b' cur e fz hc => ⟨cur, by rw [hkeep b' (lt_of_get hc)]; exact hc, rfl⟩, ht.os, ht.tape, ht.output⟩
    rcases hlv b' hl with h1 | rfl
    · exact .inl h1
    · exact .inr hnew
  have hk0 : SimH (fun _ => False) β0 (h0.kill id).H h0.nx w' := hs0.kill id
  have hksub : ∀ b', live β0 (h0.kill id).H b' → b' ≠ b ∧ live β0 h0.H b' := by
    rintro b' ⟨i, o, ba, h1, h2⟩
    rw [get_kill] at h1
    split at h1
    · cases h1
    · rename_i hi
      refine ⟨fun e => ?_, i, o, ba, h1, h2⟩
      subst e
      exact hi (hs0.inj i id _ _ _ ba base h1 (cellsAt_get hcs) h2 hb)
  have hnotL : ∀ b', live β0 (h0.kill id).H b' → ¬ LL own β' (h.add (.cells cs2)).H b' := by
    intro b' hl hL
    obtain ⟨hne, hl0⟩ := hksub b' hl
    have hge : w.heap.size ≤ b' := (ht.live b' hl0).resolve_left (live_emp _ b')
    rcases hL with h1 | h1
    · have := hs.ownlt b' h1; omega
    · rcases hlv b' h1 with h2 | h2
      · obtain ⟨i, o, ba, _, h3⟩ := h2
        have := hs.lt i b' ba h3; omega
      · exact hne h2
  have frz2 : ∀ {a a' : AV} {u : Value}, Frz (h0.kill id) true a a' → VR w'.heap (LL (fun _ => False) β0 h0.H) β0 a u → VR w'.heap (LL own β' (h.add (.cells cs2)).H) β' a' u := fun {a a' u} hf hu =>
    VR.frz hk0 hnotL (fun hh => by cases hh) hf (hu.sub fun b' hb' => hb'.imp_right fun hl => (hksub b' hl).2)
  have hfc' := (FrzL_iff _ _ _ _).1 hfc
  have hS : SimH own β' (h.add (.cells cs2)).H (h.add (.cells cs2)).nx w' := by
    refine ⟨fun i hi => ?_, fun i b' ba hi => ?_, fun b' hb' => Nat.lt_of_lt_of_le (hs.ownlt b' hb') ht.size, fun i o hg => ?_, fun i j o o' b' x y h1 h2 h3 h4 => ?_⟩
    · simp at hi
      rw [hβ', upd_ne _ _ _ (by omega)]; exact hs.fresh i (by omega)
    · by_cases h1 : i = h.nx
      · subst h1; rw [hself] at hi; cases hi; exact hblt
      · rw [hβ', upd_ne _ _ _ h1] at hi; exact Nat.lt_of_lt_of_le (hs.lt i b' ba hi) ht.size
    · rw [get_add] at hg
      by_cases h1 : i = h.nx
      · rw [if_pos h1] at hg; cases hg; subst h1
        refine ⟨b, base, hself, fun ho => ?_, cur, et, hcur, by rw [← hfc'.1]; exact hcl, fun i c u k1 k2 => ?_⟩
        · have := hs.ownlt b ho; omega
        · obtain ⟨c0, hc0⟩ := get_of_len hfc'.1 k1
          exact frz2 (hfc'.2 i c0 c hc0 k1) (hcell i c0 u hc0 k2)
      · rw [if_neg h1] at hg
        obtain ⟨b', ba, q1, q2, q3⟩ := hs.obj i o hg
        exact ⟨b', ba, hgood q1, q2, OR.later hT.later (hkeep b' (hs.lt i b' ba q1)) q3⟩
    · rw [get_add] at h1 h2
      by_cases hi : i = h.nx <;> by_cases hj : j = h.nx
      · rw [hi, hj]
      · subst hi; rw [hself] at h3; cases h3
        rw [hβ', upd_ne _ _ _ hj] at h4
        have := hs.lt j b y h4; omega
      · subst hj; rw [hself] at h4; cases h4
        rw [hβ', upd_ne _ _ _ hi] at h3
        have := hs.lt i b x h3; omega
      · rw [if_neg hi] at h1; rw [if_neg hj] at h2
        rw [hβ', upd_ne _ _ _ hi] at h3; rw [hβ', upd_ne _ _ _ hj] at h4
        exact hs.inj i j o o' b' x y h1 h2 h3 h4
  have hslot : ∀ {off len z : Nat} {u : Value}, VR w'.heap (LL (fun _ => False) β0 h0.H) β0 (.rsl id off len z) u → VR w'.heap (LL own β' (h.add (.cells cs2)).H) β' (.rsl h.nx off len z) u := by
    intro off len z u hu
    cases hu with
    | rsl _ _ _ _ b2 base2 cap cur2 e2 g1 g2 g3 g4 g5 => rw [hb] at g1; cases g1; exact .rsl _ _ _ _ b base cap cur2 e2 hself g2 g3 g4 g5
    | rsl0 _ _ _ b2 base2 o g1 => rw [hb] at g1; cases g1; exact .rsl0 _ _ _ b base o hself
  refine ⟨cv, v, _, β', rfl, ⟨rfl, rfl⟩, hS, ?_, hT⟩
  cases hhole with
  | one off len z => exact hslot hv0
  | two off len z y' y hy =>
    cases hv0 with
    | tup _ vs hl hvs =>
      refine .tup _ vs (by simpa using hl) fun i c u k1 k2 => ?_
      match i with
      | 0 => simp at k1; subst k1; exact hslot (hvs 0 _ u (by simp) k2)
      | 1 => simp at k1; subst k1; exact frz2 hy (hvs 1 _ u (by simp) k2)
      | i + 2 => simp at k1
theorem recOk_rd {V C : AH} {x : Nat} (h : V.H.get x = C.H.get x) : recOk (.read x) (.eff V C) = true := by
  show obEq _ _ = true
  rw [h]; exact obEq_refl _
theorem recOk_rd' {V C : AH} {x : Nat} (h : V.H.get x = C.H.get x) : recOk (.eff V C) (.read x) = true := by
  show obEq _ _ = true
  rw [h]; exact obEq_refl _
@[simp] theorem recOk_read_set (h : AH) (x j : Nat) (o : AObj) (hx : x ≠ j) : recOk (.read x) (.eff h (h.set j o)) = true := recOk_rd (by rw [get_set, if_neg hx])
@[simp] theorem recOk_read_add (h : AH) (x : Nat) (o : AObj) (hx : x ≠ h.nx) : recOk (.read x) (.eff h (h.add o)) = true := recOk_rd (by rw [get_add, if_neg hx])
@[simp] theorem recOk_set_read (h : AH) (x j : Nat) (o : AObj) (hx : x ≠ j) : recOk (.eff h (h.set j o)) (.read x) = true := recOk_rd' (by rw [get_set, if_neg hx])
@[simp] theorem recOk_add_read (h : AH) (x : Nat) (o : AObj) (hx : x ≠ h.nx) : recOk (.eff h (h.add o)) (.read x) = true := recOk_rd' (by rw [get_add, if_neg hx])
end Go.Eng
