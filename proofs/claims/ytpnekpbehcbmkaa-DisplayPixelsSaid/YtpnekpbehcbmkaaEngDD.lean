/- A call that ends with one new object and changed old ones: what else it has made is forgotten, what the new object holds is frozen. -/
import Derived.Test.YtpnekpbehcbmkaaEngBB
set_option linter.unusedSimpArgs false
set_option linter.unusedVariables false
set_option linter.unnecessarySimpa false
namespace Go.Eng
open Go.RowKit

/-- VR.frz, where the objects that are frozen are some of those that are owned -/
theorem VR.frzs {own : Nat → Prop} {β : Bl} {h hg : AH} {nx : Nat} {w : World} (hs : SimH own β h.H nx w) (hsub : ∀ i o, hg.H.get i = some o → h.H.get i = some o) {L2 : Nat → Prop} {β2 : Bl} {n : Bool} (h1 : ∀ b, live β hg.H b → ¬ L2 b) (h2 : n = false → ∀ b, ¬ LL own β h.H b → ¬ L2 b)
    {a a' : AV} (hf : Frz hg n a a') : ∀ {v : Value}, VR w.heap (LL own β h.H) β a v → VR w.heap L2 β2 a' v := by
  induction hf with
  | undef a => intro v hv; exact .undef v
  | bool b => intro v hv; cases hv; exact .bool b
  | int k m => intro v hv; cases hv; exact .int k m
  | str s => intro v hv; cases hv; exact .str s
  | nilptr => intro v hv; cases hv; exact .nilptr
  | nilfunc => intro v hv; cases hv; exact .nilfunc
  | nilif => intro v hv; cases hv; exact .nilif
  | nilmap => intro v hv; cases hv; exact .nilmap
  | nilsl0 => intro v hv; cases hv; exact .nilsl
  | nilsl => intro v hv; cases hv; exact .psl0 _ _
  | esl0 => intro v hv; cases hv; exact .esl _
  | esl => intro v hv; cases hv; exact .psl0 _ _
  | gptr g o => intro v hv; cases hv; exact .gptr g o
  | agg cs ds hl hc ih =>
    intro v hv
    cases hv with
    | agg _ vs hl2 hv =>
      refine .agg ds vs (hl ▸ hl2) fun i d v hd hv' => ?_
      obtain ⟨c, hc'⟩ := get_of_len hl hd
      exact ih i c d hc' hd (hv i c v hc' hv')
  | tup cs ds hl hc ih =>
    intro v hv
    cases hv with
    | tup _ vs hl2 hv =>
      refine .tup ds vs (hl ▸ hl2) fun i d v hd hv' => ?_
      obtain ⟨c, hc'⟩ := get_of_len hl hd
      exact ih i c d hc' hd (hv i c v hc' hv')
  | psl0 => intro v hv; cases hv <;> exact .psl0 _ _
  | psl hn xs ys hl hx hc ih =>
    intro v hv
    cases hv with
    | psl0 a cap => cases ys with
      | nil => exact .psl0 a cap
      | cons y ys => simp at hl
    | psl _ z b o cap cur e fz hb hL hs' hz hcap hv =>
      rw [hl]
      refine .psl ys z b o cap cur e fz hb (h2 hn b hL) (hl ▸ hs') (fun i y hy => ?_) (hl ▸ hcap) fun i y j d v hy hd hv' => ?_
      · obtain ⟨x, hx'⟩ := get_of_len hl hy
        rw [← hx i x y hx' hy]; exact hz i x hx'
      · obtain ⟨x, hx'⟩ := get_of_len hl hy
        obtain ⟨c, hc'⟩ := get_of_len (hx i x y hx' hy) hd
        exact ih i x y j c d hx' hy hc' hd (hv i x j c v hx' hc' hv')
  | pptr hn cs ds hl hc ih =>
    intro v hv
    cases hv with
    | pptr _ b o cur e fz hb hL hs' hv =>
      refine .pptr ds b o cur e fz hb (h2 hn b hL) (hl ▸ hs') fun i d v hd hv' => ?_
      obtain ⟨c, hc'⟩ := get_of_len hl hd
      exact ih i c d hc' hd (hv i c v hc' hv')
  | rsl id off z cs ys ho hs' hz hc ih =>
    intro v hv
    obtain ⟨b, base, hb, hnb, cur, e, hcur, hcs, hcell⟩ := hs.obj id _ (hsub _ _ (cellsAt_get ho))
    have hlive : live β hg.H b := ⟨id, _, base, cellsAt_get ho, hb⟩
    generalize hlen : ys.length = len at hv
    cases hv with
    | rsl _ _ _ _ b' base' cap cur' e' hb' hcur' hcap hm hs2 =>
      rw [hb] at hb'; cases hb'
      rw [hcur] at hcur'; cases hcur'
      subst hlen
      refine .psl ys z b (base + off) cap cur e (0, 0) hcur (h1 b hlive) (by omega) hz hcap fun i y j d v hy hd hv' => ?_
      have hi : i < ys.length := (List.getElem?_eq_some_iff.1 hy).1
      have hj : j < z := by rw [← hz i y hy]; exact (List.getElem?_eq_some_iff.1 hd).1
      have hb1 : i * z + z ≤ ys.length * z := by
        have := Nat.mul_le_mul_right z (show i + 1 ≤ ys.length by omega)
        rw [Nat.succ_mul] at this; exact this
      have hlt : off + i * z + j < cs.length := by omega
      exact ih i y j cs[off + i * z + j] d hy hd (by simp [hlt]) (hcell (off + i * z + j) _ v (by simp [hlt]) (by rw [← hv']; congr 1; omega))
    | rsl0 _ _ _ b' base' o hb' =>
      cases ys with
      | nil => exact .psl0 _ _
      | cons y ys => simp at hlen
  | ptr id off cs ds ho hs' hc ih =>
    intro v hv
    obtain ⟨b, base, hb, hnb, cur, e, hcur, hcs, hcell⟩ := hs.obj id _ (hsub _ _ (cellsAt_get ho))
    have hlive : live β hg.H b := ⟨id, _, base, cellsAt_get ho, hb⟩
    cases hv with
    | ptr _ _ b' base' hb' =>
      rw [hb] at hb'; cases hb'
      refine .pptr ds b (base + off) cur e (0, 0) hcur (h1 b hlive) (by omega) fun i d v hd hv' => ?_
      have hi : i < ds.length := (List.getElem?_eq_some_iff.1 hd).1
      have hlt : off + i < cs.length := by omega
      exact ih i cs[off + i] d (by simp [hlt]) hd (hcell (off + i) _ v (by simp [hlt]) (by rw [← hv']; congr 1; omega))
  | func fn f1 c1 f2 c2 hl1 hl2 g1 g2 ih1 ih2 =>
    intro v hv
    cases hv with
    | func _ _ _ u1 u2 k1 k2 q1 q2 =>
      refine .func fn f2 c2 u1 u2 (hl1 ▸ k1) (hl2 ▸ k2) (fun i d v hd hv' => ?_) (fun i d v hd hv' => ?_)
      · obtain ⟨c, hc'⟩ := get_of_len hl1 hd
        exact ih1 i c d hc' hd (q1 i c v hc' hv')
      · obtain ⟨c, hc'⟩ := get_of_len hl2 hd
        exact ih2 i c d hc' hd (q2 i c v hc' hv')
  | iface t a b hb ih =>
    intro v hv
    cases hv with
    | iface _ _ v hv => exact .iface t b v (ih hv)

/-- the objects from n on, without one of them -/
def newer (h : AH) (n id : Nat) : Nat → AH
  | 0 => h.kill id
  | k + 1 => (newer h n id k).kill k
theorem get_newer (h : AH) (n id : Nat) : ∀ (k i : Nat), (newer h n id k).H.get i = if i < k ∨ i = id then none else h.H.get i
  | 0, i => by
    show (h.kill id).H.get i = _
    rw [get_kill]; simp
  | k + 1, i => by
    show ((newer h n id k).kill k).H.get i = _
    rw [get_kill, get_newer h n id k i]
    by_cases h1 : i = k
    · subst h1; simp
    · rw [if_neg h1]
      by_cases h2 : i < k ∨ i = id
      · rw [if_pos h2, if_pos (by omega)]
      · rw [if_neg h2, if_neg (by omega)]
def rest (h : AH) (n id : Nat) : AH := newer h n id n
theorem get_rest (h : AH) (n id i : Nat) : (rest h n id).H.get i = if i < n ∨ i = id then none else h.H.get i := get_newer h n id n i
theorem cellsAt_rest {h : AH} {n id i : Nat} (h1 : n ≤ i) (h2 : i ≠ id) : (rest h n id).cellsAt i = h.cellsAt i := by
  refine cellsAt_congr ?_
  rw [get_rest, if_neg (by omega)]

/-- the heap that is left: the old objects, one new one -/
def settled (g : AH) (n : Nat) (cs : List AV) : AH := ⟨g.H.put n (.cells cs), n + 1⟩
theorem get_settled (g : AH) (n : Nat) (cs : List AV) (i : Nat) : (settled g n cs).H.get i = if i = n then some (.cells cs) else g.H.get i := PM.get_put _ _ _ _

theorem settle {P : Program} {f : Nat} {args : List AV} {h g : AH} {B : Nat} {R : AV → AH → Prop} {cs2 : List AV} {off len z : Nat} (hc : CallsA P f args h R)
    (hR : ∀ v' h', R v' h' → h'.nx ≤ h.nx + B ∧ (∀ i, i < h.nx → g.H.get i = h'.H.get i) ∧ (∀ i o, g.H.get i = some o → i < h.nx) ∧
      ∃ id cs, h.nx ≤ id ∧ h'.cellsAt id = some cs ∧ FrzL (rest h' h.nx id) false cs cs2 ∧ v' = .rsl id off len z) : CallD P f args h (.rsl (h.nx + B) off len z) (settled g (h.nx + B) cs2) := by
  refine ⟨hc.1, fun own β w cargs hs hRL => (hc.2 own β w cargs hs hRL).mono ?_⟩
  rintro e w' ⟨cv, v0, h0, β0, rfl, hq, hs0, hv0, ht⟩
  obtain ⟨hB, hold, hlow, id, cs, hid, hcs, hfc, rfl⟩ := hR v0 h0 hq
  obtain ⟨b, base, hb, hnown, cur, et, hcur, hcl, hcell⟩ := hs0.obj id _ (cellsAt_get hcs)
  have hlive : live β0 h0.H b := ⟨id, _, base, cellsAt_get hcs, hb⟩
  have hblt : b < w'.heap.size := hs0.lt id b base hb
  obtain ⟨N, hN⟩ : ∃ N, N = h.nx + B := ⟨_, rfl⟩
  rw [← hN] at hB ⊢
  have hnx : β0 N = none := hs0.fresh _ hB
  obtain ⟨β', hβ'⟩ : ∃ β', β' = upd β0 N b base := ⟨_, rfl⟩
  have hgood : ∀ {i x}, β0 i = some x → β' i = some x := fun {i x} hi => by
    have : i ≠ N := fun e => by rw [e, hnx] at hi; cases hi
    rw [hβ', upd_ne _ _ _ this]; exact hi
  have hself : β' N = some (b, base) := by rw [hβ']; exact upd_same _ _ _ _
  have hne : ∀ i, i ≠ N → β' i = β0 i := fun i hi => by rw [hβ', upd_ne _ _ _ hi]
  have hlv : ∀ b', live β' (settled g N cs2).H b' → (∃ i o ba, i < h.nx ∧ h0.H.get i = some o ∧ β0 i = some (b', ba)) ∨ b' = b := by
    rintro b' ⟨i, o, ba, h1, h2⟩
    rw [get_settled] at h1
    by_cases hi : i = N
    · subst hi; rw [hself] at h2; cases h2; exact .inr rfl
    · rw [if_neg hi] at h1; rw [hne i hi] at h2
      have hl := hlow i o h1
      rw [hold i hl] at h1
      exact .inl ⟨i, o, ba, hl, h1, h2⟩
  have hlv0 : ∀ b', live β' (settled g N cs2).H b' → live β0 h0.H b' := by
    intro b' hl
    rcases hlv b' hl with ⟨i, o, ba, _, h1, h2⟩ | rfl
    · exact ⟨i, o, ba, h1, h2⟩
    · exact hlive
  have hL : ∀ b', LL own β' (settled g N cs2).H b' → LL own β0 h0.H b' := fun b' hb' => hb'.imp_right (hlv0 b')
  have hLat : Later w'.heap (LL own β0 h0.H) β0 w'.heap (LL own β' (settled g N cs2).H) β' :=
    ⟨fun i x hx => hgood hx, fun b' _ hn => ⟨fun hl => hn (hL b' hl), rfl⟩, fun _ cur _ _ hcu => ⟨cur, hcu, rfl⟩⟩
  have hT : Trans own β h w β' (settled g N cs2) w' := by
    refine ⟨fun i x hx => hgood (ht.ext i x hx), fun i hi => ?_, by show h.nx ≤ N + 1; omega, ht.size, ht.keep, fun b' hl => ht.live b' (hlv0 b' hl), ht.shape, ht.os, ht.tape, ht.output⟩
    rw [hne i (by omega)]; exact ht.low i hi
  have hsub : ∀ i o, (rest h0 h.nx id).H.get i = some o → h0.H.get i = some o := fun i o hi => by
    rw [get_rest] at hi
    split at hi
    · cases hi
    · exact hi
  have hnotL : ∀ b', live β0 (rest h0 h.nx id).H b' → ¬ LL own β' (settled g N cs2).H b' := by
    rintro b' ⟨i, o, ba, h1, h2⟩ hl
    rw [get_rest] at h1
    split at h1
    · cases h1
    rename_i hi
    rcases hl with ho | hl
    · obtain ⟨b2, base2, k1, k2, _⟩ := hs0.obj i o h1
      rw [h2] at k1; cases k1; exact k2 ho
    · rcases hlv b' hl with ⟨j, o2, ba2, hj, h3, h4⟩ | rfl
      · have := hs0.inj i j o o2 b' ba ba2 h1 h3 h2 h4
        omega
      · have := hs0.inj i id o _ b' ba base h1 (cellsAt_get hcs) h2 hb
        omega
  have hfc' := (FrzL_iff _ _ _ _).1 hfc
  have hS : SimH own β' (settled g N cs2).H (settled g N cs2).nx w' := by
    refine ⟨fun i hi => ?_, fun i b' ba hi => ?_, hs0.ownlt, fun i o hg => ?_, fun i j o o' b' x y h1 h2 h3 h4 => ?_⟩
    · have hi' : N + 1 ≤ i := hi
      rw [hne i (by omega)]; exact hs0.fresh i (by omega)
    · by_cases h1 : i = N
      · subst h1; rw [hself] at hi; cases hi; exact hblt
      · rw [hne i h1] at hi; exact hs0.lt i b' ba hi
    · rw [get_settled] at hg
      by_cases h1 : i = N
      · rw [if_pos h1] at hg; cases hg; subst h1
        refine ⟨b, base, hself, hnown, cur, et, hcur, by rw [← hfc'.1]; exact hcl, fun i c u k1 k2 => ?_⟩
        obtain ⟨c0, hc0⟩ := get_of_len hfc'.1 k1
        exact VR.frzs hs0 hsub hnotL (fun _ b' hn hl => hn (hL b' hl)) (hfc'.2 i c0 c hc0 k1) (hcell i c0 u hc0 k2)
      · rw [if_neg h1] at hg
        have hl := hlow i o hg
        rw [hold i hl] at hg
        obtain ⟨b', ba, q1, q2, q3⟩ := hs0.obj i o hg
        exact ⟨b', ba, hgood q1, q2, OR.later hLat rfl q3⟩
    · rw [get_settled] at h1 h2
      have old : ∀ {i o b' x}, i ≠ N → g.H.get i = some o → β' i = some (b', x) → i < h.nx ∧ h0.H.get i = some o ∧ β0 i = some (b', x) := fun {i o b' x} hi h1 h3 => by
        have hl := hlow i o h1
        rw [hold i hl] at h1; rw [hne i hi] at h3
        exact ⟨hl, h1, h3⟩
      by_cases hi : i = N <;> by_cases hj : j = N
      · rw [hi, hj]
      · subst hi; rw [hself] at h3; cases h3
        rw [if_neg hj] at h2
        obtain ⟨k1, k2, k3⟩ := old hj h2 h4
        have := hs0.inj j id o' _ b y base k2 (cellsAt_get hcs) k3 hb
        omega
      · subst hj; rw [hself] at h4; cases h4
        rw [if_neg hi] at h1
        obtain ⟨k1, k2, k3⟩ := old hi h1 h3
        have := hs0.inj i id o _ b x base k2 (cellsAt_get hcs) k3 hb
        omega
      · rw [if_neg hi] at h1; rw [if_neg hj] at h2
        obtain ⟨_, k2, k3⟩ := old hi h1 h3
        obtain ⟨_, m2, m3⟩ := old hj h2 h4
        exact hs0.inj i j o o' b' x y k2 m2 k3 m3
  refine ⟨cv, _, _, β', rfl, ⟨rfl, rfl⟩, hS, ?_, hT⟩
  cases hv0 with
  | rsl _ _ _ _ b2 base2 cap cur2 e2 g1 g2 g3 g4 g5 => rw [hb] at g1; cases g1; exact .rsl _ _ _ _ b base cap cur2 e2 hself g2 g3 g4 g5
  | rsl0 _ _ _ b2 base2 o g1 => rw [hb] at g1; cases g1; exact .rsl0 _ _ _ b base o hself
/-- the same where the result is the empty slice -/
theorem settle0 {P : Program} {f : Nat} {args : List AV} {h g : AH} {B : Nat} {R : AV → AH → Prop} (hc : CallsA P f args h R)
    (hR : ∀ v' h', R v' h' → h'.nx ≤ h.nx + B ∧ (∀ i, i < h.nx → g.H.get i = h'.H.get i) ∧ (∀ i o, g.H.get i = some o → i < h.nx) ∧ v' = .nilsl) : CallD P f args h .nilsl ⟨g.H, h.nx + B⟩ := by
  refine ⟨hc.1, fun own β w cargs hs hRL => (hc.2 own β w cargs hs hRL).mono ?_⟩
  rintro e w' ⟨cv, v0, h0, β0, rfl, hq, hs0, hv0, ht⟩
  obtain ⟨hB, hold, hlow, rfl⟩ := hR v0 h0 hq
  have hlv0 : ∀ b', live β0 g.H b' → live β0 h0.H b' := by
    rintro b' ⟨i, o, ba, h1, h2⟩
    have hl := hlow i o h1
    rw [hold i hl] at h1
    exact ⟨i, o, ba, h1, h2⟩
  have hLat : Later w'.heap (LL own β0 h0.H) β0 w'.heap (LL own β0 g.H) β0 :=
    ⟨fun i x hx => hx, fun b' _ hn => ⟨fun hl => hn (hl.imp_right (hlv0 b')), rfl⟩, fun _ cur _ _ hcu => ⟨cur, hcu, rfl⟩⟩
  have hS : SimH own β0 g.H (h.nx + B) w' := by
    refine ⟨fun i hi => hs0.fresh i (by omega), hs0.lt, hs0.ownlt, fun i o hg => ?_, fun i j o o' b' x y h1 h2 h3 h4 => ?_⟩
    · have hl := hlow i o hg
      rw [hold i hl] at hg
      obtain ⟨b', ba, q1, q2, q3⟩ := hs0.obj i o hg
      exact ⟨b', ba, q1, q2, OR.later hLat rfl q3⟩
    · have l1 := hlow i o h1
      have l2 := hlow j o' h2
      rw [hold i l1] at h1; rw [hold j l2] at h2
      exact hs0.inj i j o o' b' x y h1 h2 h3 h4
  refine ⟨cv, _, ⟨g.H, h.nx + B⟩, β0, rfl, ⟨rfl, rfl⟩, hS, ?_, ⟨ht.ext, ht.low, by show h.nx ≤ h.nx + B; omega, ht.size, ht.keep, fun b' hl => ht.live b' (hlv0 b' hl), ht.shape, ht.os, ht.tape, ht.output⟩⟩
  cases hv0; exact .nilsl
/-- what is frozen stays so where further objects stand -/
theorem Frz.ext {h h' : AH} (he : ∀ i cs, h.cellsAt i = some cs → h'.cellsAt i = some cs) {n : Bool} {a b : AV} (hf : Frz h n a b) : Frz h' n a b := by
  induction hf with
  | undef a => exact .undef a
  | bool b => exact .bool b
  | int k m => exact .int k m
  | str s => exact .str s
  | nilptr => exact .nilptr
  | nilfunc => exact .nilfunc
  | nilif => exact .nilif
  | nilmap => exact .nilmap
  | nilsl0 => exact .nilsl0
  | nilsl => exact .nilsl
  | esl0 => exact .esl0
  | esl => exact .esl
  | gptr g o => exact .gptr g o
  | agg cs ds hl hc ih => exact .agg cs ds hl fun i c d h1 h2 => ih i c d h1 h2
  | tup cs ds hl hc ih => exact .tup cs ds hl fun i c d h1 h2 => ih i c d h1 h2
  | psl0 => exact .psl0
  | psl hn xs ys hl hx hc ih => exact .psl hn xs ys hl hx fun i x y j c d h1 h2 h3 h4 => ih i x y j c d h1 h2 h3 h4
  | pptr hn cs ds hl hc ih => exact .pptr hn cs ds hl fun i c d h1 h2 => ih i c d h1 h2
  | rsl id off z cs ys ho hs hz hc ih => exact .rsl id off z cs ys (he _ _ ho) hs hz fun i y j c d h1 h2 h3 => ih i y j c d h1 h2 h3
  | ptr id off cs ds ho hs hc ih => exact .ptr id off cs ds (he _ _ ho) hs fun i c d h1 h2 => ih i c d h1 h2
  | func fn f1 c1 f2 c2 hl1 hl2 h1 h2 ih1 ih2 => exact .func fn f1 c1 f2 c2 hl1 hl2 (fun i c d q1 q2 => ih1 i c d q1 q2) (fun i c d q1 q2 => ih2 i c d q1 q2)
  | iface t a b hb ih => exact .iface t a b (ih)
theorem FrzL.ext {h h' : AH} (he : ∀ i cs, h.cellsAt i = some cs → h'.cellsAt i = some cs) {n : Bool} {a b : List AV} (hf : FrzL h n a b) : FrzL h' n a b := by
  rw [FrzL_iff] at hf ⊢
  exact ⟨hf.1, fun i c d h1 h2 => (hf.2 i c d h1 h2).ext he⟩
theorem FrzL.app {h : AH} {n : Bool} {a b c d : List AV} (h1 : FrzL h n a b) (h2 : FrzL h n c d) : FrzL h n (a ++ c) (b ++ d) := by
  rw [FrzL_iff] at h1 h2 ⊢
  refine ⟨by simp [h1.1, h2.1], fun i x y hx hy => ?_⟩
  by_cases hi : i < a.length
  · rw [List.getElem?_append_left hi] at hx
    rw [List.getElem?_append_left (by have := h1.1; omega)] at hy
    exact h1.2 i x y hx hy
  · rw [List.getElem?_append_right (by omega)] at hx
    rw [List.getElem?_append_right (by have := h1.1; omega), ← h1.1] at hy
    exact h2.2 _ x y hx hy
/-- nothing stands beyond the next number -/
def WF (h : AH) : Prop := ∀ i, h.nx ≤ i → h.H.get i = none
theorem WF.add {h : AH} (hw : WF h) (o : AObj) : WF (h.add o) := fun i hi => by
  simp at hi
  rw [get_add, if_neg (by omega)]; exact hw i (by omega)
theorem WF.set {h : AH} (hw : WF h) (j : Nat) (hj : j < h.nx) (o : AObj) : WF (h.set j o) := fun i hi => by
  simp at hi
  rw [get_set, if_neg (by omega)]; exact hw i (by omega)
theorem WF.kill {h : AH} (hw : WF h) (j : Nat) : WF (h.kill j) := fun i hi => by
  simp at hi
  rw [get_kill]; split
  · rfl
  · exact hw i (by omega)
theorem WF.bump {h : AH} (hw : WF h) (n : Nat) (hn : h.nx ≤ n) : WF ⟨h.H, n⟩ := fun i hi => hw i (by have : n ≤ i := hi; omega)
end Go.Eng
