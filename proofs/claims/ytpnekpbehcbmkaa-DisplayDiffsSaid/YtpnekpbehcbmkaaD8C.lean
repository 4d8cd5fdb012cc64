/- A call that ends with one new object and changed old ones: what else it has made is forgotten, what the new object holds is frozen. What the reader of numbers of the laws answers, and what it does to its object. What the reader of numbers of the laws answers, and what it does to its object. The commands that the laws make, as a plain function of the numbers. -/
import Derived.Test.YtpnekpbehcbmkaaEngBB
import Derived.Test.YtpnekpbehcbmkaaD7W
set_option linter.unusedSimpArgs false
set_option linter.unusedVariables false
set_option linter.unnecessarySimpa false
noncomputable section
namespace Go.Eng
open Go.RowKit
/-- VR.frz, where the objects that are frozen are some of those that are owned -/
theorem VR.frzs {own : Nat → Prop} {β : Bl} {h hg : AH} {nx : Nat} {w : World} (hs : SimH own β h.H nx w) (hsub : ∀ i o, hg.H.get i = some o → h.H.get i = some o) {L2 : Nat → Prop} {β2 : Bl} {n : Bool} (h1 : ∀ b, live β hg.H b → ¬ L2 b) (h2 : n = false → ∀ b, ¬ LL own β h.H b → ¬ L2 b)
    {a a' : AV} (hf : Frz hg n a a') : ∀ {v : Value}, VR w.heap (LL own β h.H) β a v → VR w.heap L2 β2 a' v := by
  induction hf with
  | undef a => intro v hv; exact .undef v
  | bool b => intro v hv; cases hv; exact .bool b
  | int k m => intro v hv; cases hv; exact .int k m
  | str s => intro v hv; cases hv; exact .str s
  | nilptr => intro v hv; cases hv; exact .nilptr
  | nilfunc => intro v hv; cases hv; exact .nilfunc
  | nilif => intro v hv; cases hv; exact .nilif
  | nilmap => intro v hv; cases hv; exact .nilmap
  | nilsl0 => intro v hv; cases hv; exact .nilsl
  | nilsl => intro v hv; cases hv; exact .psl0 _ _
  | esl0 => intro v hv; cases hv; exact .esl _
  | esl => intro v hv; cases hv; exact .psl0 _ _
  | gptr g o => intro v hv; cases hv; exact .gptr g o
  | agg cs ds hl hc ih =>
    intro v hv
    cases hv with
    | agg _ vs hl2 hv =>
      refine .agg ds vs (hl ▸ hl2) fun i d v hd hv' => ?_
      obtain ⟨c, hc'⟩ := get_of_len hl hd
      exact ih i c d hc' hd (hv i c v hc' hv')
  | tup cs ds hl hc ih =>
    intro v hv
    cases hv with
    | tup _ vs hl2 hv =>
      refine .tup ds vs (hl ▸ hl2) fun i d v hd hv' => ?_
      obtain ⟨c, hc'⟩ := get_of_len hl hd
      exact ih i c d hc' hd (hv i c v hc' hv')
  | psl0 => intro v hv; cases hv <;> exact .psl0 _ _
  | psl hn xs ys hl hx hc ih =>
    intro v hv
    cases hv with
    | psl0 a cap => cases ys with
      | nil => exact .psl0 a cap
      | cons y ys => simp at hl
    | psl _ z b o cap cur e fz hb hL hs' hz hcap hv =>
      rw [hl]
      refine .psl ys z b o cap cur e fz hb (h2 hn b hL) (hl ▸ hs') (fun i y hy => ?_) (hl ▸ hcap) fun i y j d v hy hd hv' => ?_
      · obtain ⟨x, hx'⟩ := get_of_len hl hy
        rw [← hx i x y hx' hy]; exact hz i x hx'
      · obtain ⟨x, hx'⟩ := get_of_len hl hy
        obtain ⟨c, hc'⟩ := get_of_len (hx i x y hx' hy) hd
        exact ih i x y j c d hx' hy hc' hd (hv i x j c v hx' hc' hv')
  | pptr hn cs ds hl hc ih =>
    intro v hv
    cases hv with
    | pptr _ b o cur e fz hb hL hs' hv =>
      refine .pptr ds b o cur e fz hb (h2 hn b hL) (hl ▸ hs') fun i d v hd hv' => ?_
      obtain ⟨c, hc'⟩ := get_of_len hl hd
      exact ih i c d hc' hd (hv i c v hc' hv')
  | rsl id off z cs ys ho hs' hz hc ih =>
    intro v hv
    obtain ⟨b, base, hb, hnb, cur, e, hcur, hcs, hcell⟩ := hs.obj id _ (hsub _ _ (cellsAt_get ho))
    have hlive : live β hg.H b := ⟨id, _, base, cellsAt_get ho, hb⟩
    generalize hlen : ys.length = len at hv
    cases hv with
    | rsl _ _ _ _ b' base' cap cur' e' hb' hcur' hcap hm hs2 =>
      rw [hb] at hb'; cases hb'
      rw [hcur] at hcur'; cases hcur'
      subst hlen
      refine .psl ys z b (base + off) cap cur e (0, 0) hcur (h1 b hlive) (by omega) hz hcap fun i y j d v hy hd hv' => ?_
      have hi : i < ys.length := (List.getElem?_eq_some_iff.1 hy).1
      have hj : j < z := by rw [← hz i y hy]; exact (List.getElem?_eq_some_iff.1 hd).1
      have hb1 : i * z + z ≤ ys.length * z := by
        have := Nat.mul_le_mul_right z (show i + 1 ≤ ys.length by omega)
        rw [Nat.succ_mul] at this; exact this
      have hlt : off + i * z + j < cs.length := by omega
      exact ih i y j cs[off + i * z + j] d hy hd (by simp [hlt]) (hcell (off + i * z + j) _ v (by simp [hlt]) (by rw [← hv']; congr 1; omega))
    | rsl0 _ _ _ b' base' o hb' =>
      cases ys with
      | nil => exact .psl0 _ _
      | cons y ys => simp at hlen
  | ptr id off cs ds ho hs' hc ih =>
    intro v hv
    obtain ⟨b, base, hb, hnb, cur, e, hcur, hcs, hcell⟩ := hs.obj id _ (hsub _ _ (cellsAt_get ho))
    have hlive : live β hg.H b := ⟨id, _, base, cellsAt_get ho, hb⟩
    cases hv with
    | ptr _ _ b' base' hb' =>
      rw [hb] at hb'; cases hb'
      refine .pptr ds b (base + off) cur e (0, 0) hcur (h1 b hlive) (by omega) fun i d v hd hv' => ?_
      have hi : i < ds.length := (List.getElem?_eq_some_iff.1 hd).1
      have hlt : off + i < cs.length := by omega
      exact ih i cs[off + i] d (by simp [hlt]) hd (hcell (off + i) _ v (by simp [hlt]) (by rw [← hv']; congr 1; omega))
  | func fn f1 c1 f2 c2 hl1 hl2 g1 g2 ih1 ih2 =>
    intro v hv
    cases hv with
    | func _ _ _ u1 u2 k1 k2 q1 q2 =>
      refine .func fn f2 c2 u1 u2 (hl1 ▸ k1) (hl2 ▸ k2) (fun i d v hd hv' => ?_) (fun i d v hd hv' => ?_)
      · obtain ⟨c, hc'⟩ := get_of_len hl1 hd
        exact ih1 i c d hc' hd (q1 i c v hc' hv')
      · obtain ⟨c, hc'⟩ := get_of_len hl2 hd
        exact ih2 i c d hc' hd (q2 i c v hc' hv')
  | iface t a b hb ih =>
    intro v hv
    cases hv with
    | iface _ _ v hv => exact .iface t b v (ih hv)

/-- the objects from n on, without one of them -/
def newer (h : AH) (n id : Nat) : Nat → AH
  | 0 => h.kill id
  | k + 1 => (newer h n id k).kill k
theorem get_newer (h : AH) (n id : Nat) : ∀ (k i : Nat), (newer h n id k).H.get i = if i < k ∨ i = id then none else h.H.get i
  | 0, i => by
    show (h.kill id).H.get i = _
    rw [get_kill]; simp
  | k + 1, i => by
    show ((newer h n id k).kill k).H.get i = _
    rw [get_kill, get_newer h n id k i]
    by_cases h1 : i = k
    · subst h1; simp
    · rw [if_neg h1]
      by_cases h2 : i < k ∨ i = id
      · rw [if_pos h2, if_pos (by omega)]
      · rw [if_neg h2, if_neg (by omega)]
def rest (h : AH) (n id : Nat) : AH := newer h n id n
theorem get_rest (h : AH) (n id i : Nat) : (rest h n id).H.get i = if i < n ∨ i = id then none else h.H.get i := get_newer h n id n i
theorem cellsAt_rest {h : AH} {n id i : Nat} (h1 : n ≤ i) (h2 : i ≠ id) : (rest h n id).cellsAt i = h.cellsAt i := by
  refine cellsAt_congr ?_
  rw [get_rest, if_neg (by omega)]

/-- the heap that is left: the old objects, one new one -/
def settled (g : AH) (n : Nat) (cs : List AV) : AH := ⟨g.H.put n (.cells cs), n + 1⟩
theorem get_settled (g : AH) (n : Nat) (cs : List AV) (i : Nat) : (settled g n cs).H.get i = if i = n then some (.cells cs) else g.H.get i := PM.get_put _ _ _ _

theorem settle {P : Program} {f : Nat} {args : List AV} {h g : AH} {B : Nat} {R : AV → AH → Prop} {cs2 : List AV} {off len z : Nat} (hc : CallsA P f args h R)
    (hR : ∀ v' h', R v' h' → h'.nx ≤ h.nx + B ∧ (∀ i, i < h.nx → g.H.get i = h'.H.get i) ∧ (∀ i o, g.H.get i = some o → i < h.nx) ∧
      ∃ id cs, h.nx ≤ id ∧ h'.cellsAt id = some cs ∧ FrzL (rest h' h.nx id) false cs cs2 ∧ v' = .rsl id off len z) : CallD P f args h (.rsl (h.nx + B) off len z) (settled g (h.nx + B) cs2) := by
  refine ⟨hc.1, fun own β w cargs hs hRL => (hc.2 own β w cargs hs hRL).mono ?_⟩
  rintro e w' ⟨cv, v0, h0, β0, rfl, hq, hs0, hv0, ht⟩
  obtain ⟨hB, hold, hlow, id, cs, hid, hcs, hfc, rfl⟩ := hR v0 h0 hq
  obtain ⟨b, base, hb, hnown, cur, et, hcur, hcl, hcell⟩ := hs0.obj id _ (cellsAt_get hcs)
  have hlive : live β0 h0.H b := ⟨id, _, base, cellsAt_get hcs, hb⟩
  have hblt : b < w'.heap.size := hs0.lt id b base hb
  obtain ⟨N, hN⟩ : ∃ N, N = h.nx + B := ⟨_, rfl⟩
  rw [← hN] at hB ⊢
  have hnx : β0 N = none := hs0.fresh _ hB
  obtain ⟨β', hβ'⟩ : ∃ β', β' = upd β0 N b base := ⟨_, rfl⟩
  have hgood : ∀ {i x}, β0 i = some x → β' i = some x := fun {i x} hi => by
    have : i ≠ N := fun e => by rw [e, hnx] at hi; cases hi
    rw [hβ', upd_ne _ _ _ this]; exact hi
  have hself : β' N = some (b, base) := by rw [hβ']; exact upd_same _ _ _ _
  have hne : ∀ i, i ≠ N → β' i = β0 i := fun i hi => by rw [hβ', upd_ne _ _ _ hi]
  have hlv : ∀ b', live β' (settled g N cs2).H b' → (∃ i o ba, i < h.nx ∧ h0.H.get i = some o ∧ β0 i = some (b', ba)) ∨ b' = b := by
    rintro b' ⟨i, o, ba, h1, h2⟩
    rw [get_settled] at h1
    by_cases hi : i = N
    · subst hi; rw [hself] at h2; cases h2; exact .inr rfl
    · rw [if_neg hi] at h1; rw [hne i hi] at h2
      have hl := hlow i o h1
      rw [hold i hl] at h1
      exact .inl ⟨i, o, ba, hl, h1, h2⟩
  have hlv0 : ∀ b', live β' (settled g N cs2).H b' → live β0 h0.H b' := by
    intro b' hl
    rcases hlv b' hl with ⟨i, o, ba, _, h1, h2⟩ | rfl
    · exact ⟨i, o, ba, h1, h2⟩
    · exact hlive
  have hL : ∀ b', LL own β' (settled g N cs2).H b' → LL own β0 h0.H b' := fun b' hb' => hb'.imp_right (hlv0 b')
  have hLat : Later w'.heap (LL own β0 h0.H) β0 w'.heap (LL own β' (settled g N cs2).H) β' :=
    ⟨fun i x hx => hgood hx, fun b' _ hn => ⟨fun hl => hn (hL b' hl), rfl⟩, fun _ cur _ _ hcu => ⟨cur, hcu, rfl⟩⟩
  have hT : Trans own β h w β' (settled g N cs2) w' := by
    refine ⟨fun i x hx => hgood (ht.ext i x hx), fun i hi => ?_, by show h.nx ≤ N + 1; omega, ht.size, ht.keep, fun b' hl => ht.live b' (hlv0 b' hl), ht.shape, ht.os, ht.tape, ht.output⟩
    rw [hne i (by omega)]; exact ht.low i hi
  have hsub : ∀ i o, (rest h0 h.nx id).H.get i = some o → h0.H.get i = some o := fun i o hi => by
    rw [get_rest] at hi
    split at hi
    · cases hi
    · exact hi
  have hnotL : ∀ b', live β0 (rest h0 h.nx id).H b' → ¬ LL own β' (settled g N cs2).H b' := by
    rintro b' ⟨i, o, ba, h1, h2⟩ hl
    rw [get_rest] at h1
    split at h1
    · cases h1
    rename_i hi
    rcases hl with ho | hl
    · obtain ⟨b2, base2, k1, k2, _⟩ := hs0.obj i o h1
      rw [h2] at k1; cases k1; exact k2 ho
    · rcases hlv b' hl with ⟨j, o2, ba2, hj, h3, h4⟩ | rfl
      · have := hs0.inj i j o o2 b' ba ba2 h1 h3 h2 h4
        omega
      · have := hs0.inj i id o _ b' ba base h1 (cellsAt_get hcs) h2 hb
        omega
  have hfc' := (FrzL_iff _ _ _ _).1 hfc
  have hS : SimH own β' (settled g N cs2).H (settled g N cs2).nx w' := by
    refine ⟨fun i hi => ?_, fun i b' ba hi => ?_, hs0.ownlt, fun i o hg => ?_, fun i j o o' b' x y h1 h2 h3 h4 => ?_⟩
    · have hi' : N + 1 ≤ i := hi
      rw [hne i (by omega)]; exact hs0.fresh i (by omega)
    · by_cases h1 : i = N
      · subst h1; rw [hself] at hi; cases hi; exact hblt
      · rw [hne i h1] at hi; exact hs0.lt i b' ba hi
    · rw [get_settled] at hg
      by_cases h1 : i = N
      · rw [if_pos h1] at hg; cases hg; subst h1
        refine ⟨b, base, hself, hnown, cur, et, hcur, by rw [← hfc'.1]; exact hcl, fun i c u k1 k2 => ?_⟩
        obtain ⟨c0, hc0⟩ := get_of_len hfc'.1 k1
        exact VR.frzs hs0 hsub hnotL (fun _ b' hn hl => hn (hL b' hl)) (hfc'.2 i c0 c hc0 k1) (hcell i c0 u hc0 k2)
      · rw [if_neg h1] at hg
        have hl := hlow i o hg
        rw [hold i hl] at hg
        obtain ⟨b', ba, q1, q2, q3⟩ := hs0.obj i o hg
        exact ⟨b', ba, hgood q1, q2, OR.later hLat rfl q3⟩
    · rw [get_settled] at h1 h2
      have old : ∀ {i o b' x}, i ≠ N → g.H.get i = some o → β' i = some (b', x) → i < h.nx ∧ h0.H.get i = some o ∧ β0 i = some (b', x) := fun {i o b' x} hi h1 h3 => by
        have hl := hlow i o h1
        rw [hold i hl] at h1; rw [hne i hi] at h3
        exact ⟨hl, h1, h3⟩
      by_cases hi : i = N <;> by_cases hj : j = N
      · rw [hi, hj]
      · subst hi; rw [hself] at h3; cases h3
        rw [if_neg hj] at h2
        obtain ⟨k1, k2, k3⟩ := old hj h2 h4
        have := hs0.inj j id o' _ b y base k2 (cellsAt_get hcs) k3 hb
        omega
      · subst hj; rw [hself] at h4; cases h4
        rw [if_neg hi] at h1
        obtain ⟨k1, k2, k3⟩ := old hi h1 h3
        have := hs0.inj i id o _ b x base k2 (cellsAt_get hcs) k3 hb
        omega
      · rw [if_neg hi] at h1; rw [if_neg hj] at h2
        obtain ⟨_, k2, k3⟩ := old hi h1 h3
        obtain ⟨_, m2, m3⟩ := old hj h2 h4
        exact hs0.inj i j o o' b' x y k2 m2 k3 m3
  refine ⟨cv, _, _, β', rfl, ⟨rfl, rfl⟩, hS, ?_, hT⟩
  cases hv0 with
  | rsl _ _ _ _ b2 base2 cap cur2 e2 g1 g2 g3 g4 g5 => rw [hb] at g1; cases g1; exact .rsl _ _ _ _ b base cap cur2 e2 hself g2 g3 g4 g5
  | rsl0 _ _ _ b2 base2 o g1 => rw [hb] at g1; cases g1; exact .rsl0 _ _ _ b base o hself
/-- the same where the result is the empty slice -/
theorem settle0 {P : Program} {f : Nat} {args : List AV} {h g : AH} {B : Nat} {R : AV → AH → Prop} (hc : CallsA P f args h R)
    (hR : ∀ v' h', R v' h' → h'.nx ≤ h.nx + B ∧ (∀ i, i < h.nx → g.H.get i = h'.H.get i) ∧ (∀ i o, g.H.get i = some o → i < h.nx) ∧ v' = .nilsl) : CallD P f args h .nilsl ⟨g.H, h.nx + B⟩ := by
  refine ⟨hc.1, fun own β w cargs hs hRL => (hc.2 own β w cargs hs hRL).mono ?_⟩
  rintro e w' ⟨cv, v0, h0, β0, rfl, hq, hs0, hv0, ht⟩
  obtain ⟨hB, hold, hlow, rfl⟩ := hR v0 h0 hq
  have hlv0 : ∀ b', live β0 g.H b' → live β0 h0.H b' := by
    rintro b' ⟨i, o, ba, h1, h2⟩
    have hl := hlow i o h1
    rw [hold i hl] at h1
    exact ⟨i, o, ba, h1, h2⟩
  have hLat : Later w'.heap (LL own β0 h0.H) β0 w'.heap (LL own β0 g.H) β0 :=
    ⟨fun i x hx => hx, fun b' _ hn => ⟨fun hl => hn (hl.imp_right (hlv0 b')), rfl⟩, fun _ cur _ _ hcu => ⟨cur, hcu, rfl⟩⟩
  have hS : SimH own β0 g.H (h.nx + B) w' := by
    refine ⟨fun i hi => hs0.fresh i (by omega), hs0.lt, hs0.ownlt, fun i o hg => ?_, fun i j o o' b' x y h1 h2 h3 h4 => ?_⟩
    · have hl := hlow i o hg
      rw [hold i hl] at hg
      obtain ⟨b', ba, q1, q2, q3⟩ := hs0.obj i o hg
      exact ⟨b', ba, q1, q2, OR.later hLat rfl q3⟩
    · have l1 := hlow i o h1
      have l2 := hlow j o' h2
      rw [hold i l1] at h1; rw [hold j l2] at h2
      exact hs0.inj i j o o' b' x y h1 h2 h3 h4
  refine ⟨cv, _, ⟨g.H, h.nx + B⟩, β0, rfl, ⟨rfl, rfl⟩, hS, ?_, ⟨ht.ext, ht.low, by show h.nx ≤ h.nx + B; omega, ht.size, ht.keep, fun b' hl => ht.live b' (hlv0 b' hl), ht.shape, ht.os, ht.tape, ht.output⟩⟩
  cases hv0; exact .nilsl
/-- what is frozen stays so where further objects stand -/
theorem Frz.ext {h h' : AH} (he : ∀ i cs, h.cellsAt i = some cs → h'.cellsAt i = some cs) {n : Bool} {a b : AV} (hf : Frz h n a b) : Frz h' n a b := by
  induction hf with
  | undef a => exact .undef a
  | bool b => exact .bool b
  | int k m => exact .int k m
  | str s => exact .str s
  | nilptr => exact .nilptr
  | nilfunc => exact .nilfunc
  | nilif => exact .nilif
  | nilmap => exact .nilmap
  | nilsl0 => exact .nilsl0
  | nilsl => exact .nilsl
  | esl0 => exact .esl0
  | esl => exact .esl
  | gptr g o => exact .gptr g o
  | agg cs ds hl hc ih => exact .agg cs ds hl fun i c d h1 h2 => ih i c d h1 h2
  | tup cs ds hl hc ih => exact .tup cs ds hl fun i c d h1 h2 => ih i c d h1 h2
  | psl0 => exact .psl0
  | psl hn xs ys hl hx hc ih => exact .psl hn xs ys hl hx fun i x y j c d h1 h2 h3 h4 => ih i x y j c d h1 h2 h3 h4
  | pptr hn cs ds hl hc ih => exact .pptr hn cs ds hl fun i c d h1 h2 => ih i c d h1 h2
  | rsl id off z cs ys ho hs hz hc ih => exact .rsl id off z cs ys (he _ _ ho) hs hz fun i y j c d h1 h2 h3 => ih i y j c d h1 h2 h3
  | ptr id off cs ds ho hs hc ih => exact .ptr id off cs ds (he _ _ ho) hs fun i c d h1 h2 => ih i c d h1 h2
  | func fn f1 c1 f2 c2 hl1 hl2 h1 h2 ih1 ih2 => exact .func fn f1 c1 f2 c2 hl1 hl2 (fun i c d q1 q2 => ih1 i c d q1 q2) (fun i c d q1 q2 => ih2 i c d q1 q2)
  | iface t a b hb ih => exact .iface t a b (ih)
theorem FrzL.ext {h h' : AH} (he : ∀ i cs, h.cellsAt i = some cs → h'.cellsAt i = some cs) {n : Bool} {a b : List AV} (hf : FrzL h n a b) : FrzL h' n a b := by
  rw [FrzL_iff] at hf ⊢
  exact ⟨hf.1, fun i c d h1 h2 => (hf.2 i c d h1 h2).ext he⟩
theorem FrzL.app {h : AH} {n : Bool} {a b c d : List AV} (h1 : FrzL h n a b) (h2 : FrzL h n c d) : FrzL h n (a ++ c) (b ++ d) := by
  rw [FrzL_iff] at h1 h2 ⊢
  refine ⟨by simp [h1.1, h2.1], fun i x y hx hy => ?_⟩
  by_cases hi : i < a.length
  · rw [List.getElem?_append_left hi] at hx
    rw [List.getElem?_append_left (by have := h1.1; omega)] at hy
    exact h1.2 i x y hx hy
  · rw [List.getElem?_append_right (by omega)] at hx
    rw [List.getElem?_append_right (by have := h1.1; omega), ← h1.1] at hy
    exact h2.2 _ x y hx hy
/-- nothing stands beyond the next number -/
def WF (h : AH) : Prop := ∀ i, h.nx ≤ i → h.H.get i = none
theorem WF.add {h : AH} (hw : WF h) (o : AObj) : WF (h.add o) := fun i hi => by
  simp at hi
  rw [get_add, if_neg (by omega)]; exact hw i (by omega)
theorem WF.set {h : AH} (hw : WF h) (j : Nat) (hj : j < h.nx) (o : AObj) : WF (h.set j o) := fun i hi => by
  simp at hi
  rw [get_set, if_neg (by omega)]; exact hw i (by omega)
theorem WF.kill {h : AH} (hw : WF h) (j : Nat) : WF (h.kill j) := fun i hi => by
  simp at hi
  rw [get_kill]; split
  · rfl
  · exact hw i (by omega)
theorem WF.bump {h : AH} (hw : WF h) (n : Nat) (hn : h.nx ≤ n) : WF ⟨h.H, n⟩ := fun i hi => hw i (by have : n ≤ i := hi; omega)
end Go.Eng
end
noncomputable section
namespace Go.Proofs.Ytpnekpbehcbmkaa
open Go.Eng
/-! The reader of numbers of the laws: what it answers, and what it does to its object. -/
def ints (L : List Int) : AV := .psl (L.map fun x => [I x])
def srcC (L : List Int) (a : Nat) : List AV := [ints L, I a]
def nxA (L : List Int) (a : Nat) : Nat := if a < L.length then a + 1 else a
def nV (L : List Int) (a : Nat) (n : Int) : Int := if a < L.length then (if 0 ≤ (L.getD a 0).tmod n then (L.getD a 0).tmod n else (L.getD a 0).tmod n + n) else 0
def nH (h : AH) (id : Nat) (L : List Int) (a : Nat) : AH := if a < L.length then ⟨(h.set id (.cells (srcC L (a + 1)))).H, h.nx + 27⟩ else ⟨h.H, h.nx + 14⟩
def OkL (L : List Int) : Prop := L.length ≤ 4000
theorem tmod_lt {x n : Int} (hn : 1 ≤ n) : x.tmod n < n := Int.tmod_lt_of_pos x (by omega)
theorem tmod_gt {x n : Int} (hn : 1 ≤ n) : -n < x.tmod n := by
  have h1 := Int.tmod_lt_of_pos (-x) (show 0 < n by omega)
  have h2 : (-x).tmod n = -(x.tmod n) := Int.neg_tmod x n
  omega
theorem nV_ge (L : List Int) (a : Nat) {n : Int} (hn : 1 ≤ n) : 0 ≤ nV L a n := by
  unfold nV
  have := tmod_gt (x := L.getD a 0) hn
  split <;> (try split) <;> omega
theorem nV_lt (L : List Int) (a : Nat) {n : Int} (hn : 1 ≤ n) : nV L a n < n := by
  unfold nV
  have := tmod_lt (x := L.getD a 0) hn
  split <;> (try split) <;> omega
theorem nxA_le (L : List Int) {a : Nat} (h : a ≤ L.length) : nxA L a ≤ L.length := by unfold nxA; split <;> omega
theorem nx_nH (h : AH) (id : Nat) (L : List Int) (a : Nat) : h.nx ≤ (nH h id L a).nx ∧ (nH h id L a).nx ≤ h.nx + 27 := by unfold nH; split <;> simp
theorem get_nH (h : AH) (id : Nat) (L : List Int) (a : Nat) {i : Nat} (hi : i ≠ id) : (nH h id L a).H.get i = h.H.get i := by
  unfold nH; split
  · show (h.set _ _).H.get i = _
    rw [get_set, if_neg hi]
  · rfl
theorem cells_nH {h : AH} {id : Nat} {L : List Int} {a : Nat} (hc : h.cellsAt id = some (srcC L a)) : (nH h id L a).cellsAt id = some (srcC L (nxA L a)) := by
  unfold nH nxA; split
  · exact cellsAt_set_self _ _ _ _ rfl
  · exact hc
theorem kLen_ints (h : AH) (L : List Int) : kLen h (ints L) = some (I L.length, h) := by simp [ints]
theorem kIdx_ints (h : AH) (L : List Int) (a : Nat) (ha : a < L.length) : kIdxA h 1 (ints L) (I a) = some (.pptr [I (L.getD a 0)], h) := kIdxA_psl (by simp [ha]) rfl
theorem n_d {h : AH} {id : Nat} {L : List Int} {a : Nat} {n : Int} (hc : h.cellsAt id = some (srcC L a)) (ha : a ≤ L.length) (hL : OkL L) (h1 : 1 ≤ n) (h2 : n ≤ 100000) : CallD Try.prog 20 [.ptr id 0, I n] h (I (nV L a n)) (nH h id L a) := by
  refine C20 (tb_ok []) ?_
  have hb1 := nV_ge L a h1
  have hb2 := nV_lt L a h1
  have t1 := tmod_gt (x := L.getD a 0) h1
  have t2 := tmod_lt (x := L.getD a 0) h1
  unfold OkL at hL
  have hc' : h.cellsAt id = some [ints L, I a] := hc
  by_cases hlt : a < L.length
  · simp (disch := first | (simp; done) | omega | (simp only [nx_add, nx_set, nx_kill, nx_mk, nx_emp]; omega) | fail) [g20]
    refine ⟨fun vs h' => vs = [.ptr id 0, I n, .bool false] ∧ h' = ⟨h.H, h.nx + 14⟩, ?_, ?_⟩
    · simp (disch := first | (simp; done) | omega | (simp only [nx_add, nx_set, nx_kill, nx_mk, nx_emp]; omega) | fail) [g20_a1, hc', kLen_ints]
      simp (disch := first | (simp; done) | omega | (simp only [nx_add, nx_set, nx_kill, nx_mk, nx_emp]; omega) | fail) [g20_s1, hc', kLen_ints]
      omega
    · rintro vs h' ⟨rfl, rfl⟩
      simp (disch := first | (simp; done) | omega | (simp only [nx_add, nx_set, nx_kill, nx_mk, nx_emp]; omega) | fail) [g20_j4, hc', kLen_ints]
      simp (disch := first | (simp; done) | omega | (simp only [nx_add, nx_set, nx_kill, nx_mk, nx_emp]; omega) | fail) [g20_s3, hc', kIdx_ints _ _ _ hlt]
      have hxe : L[a] = L.getD a 0 := by simp [List.getD, hlt]
      have hv : nV L a n = if 0 ≤ (L.getD a 0).tmod n then (L.getD a 0).tmod n else (L.getD a 0).tmod n + n := by unfold nV; rw [if_pos hlt]
      have hh : nH h id L a = ⟨(h.set id (.cells (srcC L (a + 1)))).H, h.nx + 27⟩ := by unfold nH; rw [if_pos hlt]
      have hn0 : n ≠ 0 := by omega
      rw [hxe, hv, hh]
      generalize L.getD a 0 = x at *
      simp (disch := first | (simp; done) | omega | (simp only [nx_add, nx_set, nx_kill, nx_mk, nx_emp]; omega) | fail) [kArith_rem, hn0, hc']
      simp (disch := first | (simp; done) | omega | (simp only [nx_add, nx_set, nx_kill, nx_mk, nx_emp]; omega) | fail) [g20_s2, hc']
      refine ⟨fun vs h' => vs = [I (if 0 ≤ x.tmod n then x.tmod n else x.tmod n + n)] ∧ h' = ⟨(h.set id (.cells (srcC L (a + 1)))).H, h.nx + 27⟩, ?_, ?_⟩
      · by_cases h0 : 0 ≤ x.tmod n
        · have h0' : ¬ x.tmod n < 0 := by omega
          simp (disch := first | (simp; done) | omega | (simp only [nx_add, nx_set, nx_kill, nx_mk, nx_emp]; omega) | fail) [g20_a2, h0, h0']
          rfl
        · have h0' : x.tmod n < 0 := by omega
          simp (disch := first | (simp; done) | omega | (simp only [nx_add, nx_set, nx_kill, nx_mk, nx_emp]; omega) | fail) [g20_a2, h0, h0']
          rfl
      · rintro vs h' ⟨rfl, rfl⟩
        simp (disch := first | (simp; done) | omega | (simp only [nx_add, nx_set, nx_kill, nx_mk, nx_emp]; omega) | fail) [g20_j3]
  · simp (disch := first | (simp; done) | omega | (simp only [nx_add, nx_set, nx_kill, nx_mk, nx_emp]; omega) | fail) [g20]
    refine ⟨fun vs h' => vs = [.ptr id 0, I n, .bool true] ∧ h' = ⟨h.H, h.nx + 14⟩, ?_, ?_⟩
    · simp (disch := first | (simp; done) | omega | (simp only [nx_add, nx_set, nx_kill, nx_mk, nx_emp]; omega) | fail) [g20_a1, hc', kLen_ints]
      simp (disch := first | (simp; done) | omega | (simp only [nx_add, nx_set, nx_kill, nx_mk, nx_emp]; omega) | fail) [g20_s1, hc', kLen_ints]
      omega
    · rintro vs h' ⟨rfl, rfl⟩
      simp (disch := first | (simp; done) | omega | (simp only [nx_add, nx_set, nx_kill, nx_mk, nx_emp]; omega) | fail) [g20_j4, hc', kLen_ints, nV, nH, hlt]
/-- what a call that reads numbers does to the heap: only the reader's object turns -/
structure Upd (h h1 : AH) (id : Nat) : Prop where
  lo : h.nx ≤ h1.nx
  hi : h1.nx ≤ h.nx + 60
  get : ∀ i, i ≠ id → i < h.nx → h1.H.get i = h.H.get i
  wf : (∀ i, h.nx ≤ i → h.H.get i = none) → ∀ i, h1.nx ≤ i → h1.H.get i = none
theorem upd_nH {h : AH} {id : Nat} {L : List Int} {a : Nat} (hid : id < h.nx) : Upd h (nH h id L a) id := by
  have := nx_nH h id L a
  refine ⟨this.1, by omega, fun i hi _ => get_nH h id L a hi, fun hw i hi => ?_⟩
  rw [get_nH h id L a (by omega)]
  exact hw i (by omega)
def e20 : QE Try.prog := ⟨20, fun args h Q => ∃ id L a n, args = [.ptr id 0, I n] ∧ (h.cellsAt id = some (srcC L a) ∧ a ≤ L.length ∧ OkL L ∧ 1 ≤ n ∧ n ≤ 100000) ∧ Q (I (nV L a n)) (nH h id L a), fun args h Q ⟨id, L, a, n, h1, ⟨h2, h3, h4, h5, h6⟩, h7⟩ => by
  subst h1; exact ⟨_, _, n_d h2 h3 h4 h5 h6, h7⟩⟩
theorem e20_h {tl : List (QE Try.prog)} {id : Nat} {L : List Int} {a : Nat} {n : Int} {h : AH} {Q : AV → AH → Prop} (hx : h.cellsAt id = some (srcC L a) ∧ a ≤ L.length ∧ OkL L ∧ 1 ≤ n ∧ n ≤ 100000) (hq : Q (I (nV L a n)) (nH h id L a)) : tb (e20 :: tl) 20 [.ptr id 0, I n] h Q := by
  rw [tb_here e20 tl 20 _ _ _ rfl]
  exact ⟨id, L, a, n, rfl, hx, hq⟩
@[simp ↓] theorem e20_t (tl : List (QE Try.prog)) (f : Nat) (args : List AV) (h : AH) (Q : AV → AH → Prop) (hf : 20 ≠ f) : tb (e20 :: tl) f args h Q = tb tl f args h Q := tb_there e20 tl f args h Q hf
/-- the reader stands -/
structure Src (h : AH) (id : Nat) (L : List Int) (a : Nat) : Prop where
  c : h.cellsAt id = some (srcC L a)
  le : a ≤ L.length
  ok : OkL L
  lt : id < h.nx
theorem Src.nH {h : AH} {id : Nat} {L : List Int} {a : Nat} (hs : Src h id L a) : Src (nH h id L a) id L (nxA L a) :=
  ⟨cells_nH hs.c, nxA_le L hs.le, hs.ok, Nat.lt_of_lt_of_le hs.lt (nx_nH h id L a).1⟩
theorem N_step {tl : List (QE Try.prog)} {id : Nat} {L : List Int} {a : Nat} {n : Int} {h : AH} {Q : AV → AH → Prop} (hs : Src h id L a) (h1 : 1 ≤ n) (h2 : n ≤ 100000)
    (hq : ∀ h1, Src h1 id L (nxA L a) → Upd h h1 id → Q (I (nV L a n)) h1) : tb (e20 :: tl) 20 [.ptr id 0, I n] h Q :=
  e20_h ⟨hs.c, hs.le, hs.ok, h1, h2⟩ (hq _ hs.nH (upd_nH hs.lt))
theorem r_d {h : AH} {id : Nat} {L : List Int} {a : Nat} {lo hi : Int} (hc : h.cellsAt id = some (srcC L a)) (ha : a ≤ L.length) (hL : OkL L) (h0 : -10000 ≤ lo) (h1 : lo ≤ hi) (h2 : hi ≤ 10000) : CallD Try.prog 21 [.ptr id 0, I lo, I hi] h (I (lo + nV L a (hi - lo + 1))) (nH h id L a) := by
  refine C21 (tb_ok [e20]) ?_
  have hb1 := nV_ge L a (show 1 ≤ hi - lo + 1 by omega)
  have hb2 := nV_lt L a (show 1 ≤ hi - lo + 1 by omega)
  simp (disch := first | (simp; done) | omega | (simp only [nx_add, nx_set, nx_kill, nx_mk, nx_emp]; omega) | fail) [g21]
  refine e20_h ⟨hc, ha, hL, by omega, by omega⟩ ?_
  simp (disch := first | (simp; done) | omega | (simp only [nx_add, nx_set, nx_kill, nx_mk, nx_emp]; omega) | fail)
def e21 : QE Try.prog := ⟨21, fun args h Q => ∃ id L a lo hi, args = [.ptr id 0, I lo, I hi] ∧ (h.cellsAt id = some (srcC L a) ∧ a ≤ L.length ∧ OkL L ∧ -10000 ≤ lo ∧ lo ≤ hi ∧ hi ≤ 10000) ∧ Q (I (lo + nV L a (hi - lo + 1))) (nH h id L a), fun args h Q ⟨id, L, a, lo, hi, h1, ⟨h2, h3, h4, h5, h6, h7⟩, h8⟩ => by
  subst h1; exact ⟨_, _, r_d h2 h3 h4 h5 h6 h7, h8⟩⟩
@[simp ↓] theorem e21_t (tl : List (QE Try.prog)) (f : Nat) (args : List AV) (h : AH) (Q : AV → AH → Prop) (hf : 21 ≠ f) : tb (e21 :: tl) f args h Q = tb tl f args h Q := tb_there e21 tl f args h Q hf
theorem R_step {tl : List (QE Try.prog)} {id : Nat} {L : List Int} {a : Nat} {lo hi m : Int} {h : AH} {Q : AV → AH → Prop} (hs : Src h id L a) (h0 : -10000 ≤ lo) (h1 : lo ≤ hi) (h2 : hi ≤ 10000) (hm : m = hi - lo + 1)
    (hq : ∀ h1, Src h1 id L (nxA L a) → Upd h h1 id → Q (I (lo + nV L a m)) h1) : tb (e21 :: tl) 21 [.ptr id 0, I lo, I hi] h Q := by
  rw [tb_here e21 tl 21 _ _ _ rfl]
  subst hm
  exact ⟨id, L, a, lo, hi, rfl, ⟨hs.c, hs.le, hs.ok, h0, h1, h2⟩, hq _ hs.nH (upd_nH hs.lt)⟩
/-! A new reader. -/
def newL (l : List Int) : List Int := l.take 4000
theorem newL_ok (l : List Int) : OkL (newL l) := by unfold OkL newL; simp; omega
theorem kSl_ints (l : List Int) (hl : 4000 ≤ l.length) (h : AH) : kSl h 1 (ints l) none (some (I 4000)) none = some (ints (newL l), h) := by
  have hall : (l.map fun x => [I x]).all (fun x => x.length == 1) = true := by simp
  have q2 : (4000 : Int) ≤ l.length := by omega
  simp [kSl, aslice, asl, alen, abd, aidx, ints, q2, newL]
theorem new_d {h : AH} {l : List Int} (hl : SmX l) : CallD Try.prog 18 [ints l] h (.ptr h.nx 0) (h.add (.cells (srcC (newL l) 0))) := by
  refine C18 (tb_ok []) ?_
  unfold SmX at hl
  simp (disch := first | (simp; done) | omega | (simp only [nx_add, nx_set, nx_kill, nx_mk, nx_emp]; omega) | fail) [g18, kLen_ints]
  refine ⟨fun vs h' => vs = [ints (newL l)] ∧ h' = h, ?_, ?_⟩
  · by_cases h1 : 4000 < l.length
    · have h1' : ¬ (l.length : Int) ≤ 4000 := by omega
      simp (disch := first | (simp; done) | omega | (simp only [nx_add, nx_set, nx_kill, nx_mk, nx_emp]; omega) | fail) [g18_a1, h1', kSl_ints l (by omega)]
    · have : newL l = l := by unfold newL; rw [List.take_of_length_le (by omega)]
      have h1' : ¬ (4000 : Int) < l.length := by omega
      simp (disch := first | (simp; done) | omega | (simp only [nx_add, nx_set, nx_kill, nx_mk, nx_emp]; omega) | fail) [g18_a1, h1', this]
  · rintro vs h' ⟨rfl, rfl⟩
    simp (disch := first | (simp; done) | omega | (simp only [nx_add, nx_set, nx_kill, nx_mk, nx_emp]; omega) | fail) [g18_j2, ints]
    rfl
end Go.Proofs.Ytpnekpbehcbmkaa
end
noncomputable section
namespace Go.Proofs.Ytpnekpbehcbmkaa
open Go.Eng
def wV (L : List Int) (a : Nat) : List UInt8 := if nV L a 2 = 0 then [] else [UInt8.ofNat (97 + nV L (nxA L a) 4).toNat]
def wA (L : List Int) (a : Nat) : Nat := if nV L a 2 = 0 then nxA L a else nxA L (nxA L a)
def wH (h : AH) (id : Nat) (L : List Int) (a : Nat) : AH := if nV L a 2 = 0 then (nH h id L a).add (.cells []) else (nH ((nH h id L a).add (.cells [.int .u8 0])) id L (nxA L a)).set (nH h id L a).nx (.cells [.int .u8 (97 + nV L (nxA L a) 4)])
theorem w_d {h : AH} {id : Nat} {L : List Int} {a : Nat} (hs : Src h id L a) : CallD Try.prog 50 [.ptr id 0, I 1] h (.str (wV L a)) (wH h id L a) := by
  refine C50 (tb_ok [e20]) ?_
  have hb1 := nV_ge L a (show (1 : Int) ≤ 2 by omega)
  have hb2 := nV_lt L a (show (1 : Int) ≤ 2 by omega)
  simp (disch := first | (simp; done) | omega | (simp only [nx_add, nx_set, nx_kill, nx_mk, nx_emp]; omega) | fail) [g50]
  refine e20_h ⟨hs.c, hs.le, hs.ok, by omega, by omega⟩ ?_
  have hs1 := hs.nH
  have hn1 := nx_nH h id L a
  have hlt := hs.lt
  by_cases h0 : nV L a 2 = 0
  · have hw : wH h id L a = (nH h id L a).add (.cells []) := by unfold wH; rw [if_pos h0]
    have hv : wV L a = [] := by unfold wV; rw [if_pos h0]
    rw [hw, hv, h0]
    generalize nH h id L a = h1 at *
    refine wk_of (v := .rsl h1.nx 0 0 1) (h := h1.add (.cells [])) rfl ?_
    refine ⟨fun m vs h' => m = 0 ∧ vs = [.ptr id 0, I 0, .rsl h1.nx 0 0 1, I 0] ∧ h' = h1.add (.cells []), 0, ?_, ?_⟩
    · simp
    · rintro m vs h' ⟨rfl, rfl, rfl⟩
      simp (disch := first | (simp; done) | omega | (simp only [nx_add, nx_set, nx_kill, nx_mk, nx_emp]; omega) | fail) [g50_l1]
      simp (disch := first | (simp; done) | omega | (simp only [nx_add, nx_set, nx_kill, nx_mk, nx_emp]; omega) | fail) [g50_j3, g50_c2]
      simp [kX, acells, alen, bytesI, cut]
  · have h0' : nV L a 2 = 1 := by omega
    have hw : wH h id L a = (nH ((nH h id L a).add (.cells [.int .u8 0])) id L (nxA L a)).set (nH h id L a).nx (.cells [.int .u8 (97 + nV L (nxA L a) 4)]) := by unfold wH; rw [if_neg h0]
    have hv : wV L a = [UInt8.ofNat (97 + nV L (nxA L a) 4).toNat] := by unfold wV; rw [if_neg h0]
    have hx1 := nV_ge L (nxA L a) (show (1 : Int) ≤ 4 by omega)
    have hx2 := nV_lt L (nxA L a) (show (1 : Int) ≤ 4 by omega)
    rw [hw, hv, h0']
    generalize nH h id L a = h1 at *
    have hltx : id < h1.nx := by omega
    have hsA : Src (h1.add (.cells [.int .u8 0])) id L (nxA L a) := ⟨by rw [cellsAt_add_ne _ _ _ (by omega)]; exact hs1.c, hs1.le, hs1.ok, by simp; omega⟩
    have hcA : (h1.add (.cells [.int .u8 0])).cellsAt h1.nx = some [.int .u8 0] := cellsAt_add_self _ _ _ rfl
    refine wk_of (v := .rsl h1.nx 0 1 1) (h := h1.add (.cells [.int .u8 0])) rfl ?_
    generalize h1.add (.cells [.int .u8 0]) = hA at *
    have hcB : (nH hA id L (nxA L a)).cellsAt h1.nx = some [.int .u8 0] := by rw [cellsAt_congr (get_nH hA id L _ (by omega))]; exact hcA
    refine ⟨fun m vs h' => (m = 1 ∧ vs = [.ptr id 0, I 1, .rsl h1.nx 0 1 1, I 0] ∧ h' = hA) ∨ (m = 0 ∧ vs = [.ptr id 0, I 1, .rsl h1.nx 0 1 1, I 1] ∧ h' = (nH hA id L (nxA L a)).set h1.nx (.cells [.int .u8 (97 + nV L (nxA L a) 4)])), 1, ?_, ?_⟩
    · simp
    · rintro m vs h' (⟨rfl, rfl, rfl⟩ | ⟨rfl, rfl, rfl⟩)
      · simp (disch := first | (simp; done) | omega | (simp only [nx_add, nx_set, nx_kill, nx_mk, nx_emp]; omega) | fail) [g50_l1]
        refine e20_h ⟨hsA.c, hsA.le, hsA.ok, by omega, by omega⟩ ?_
        generalize nH h' id L (nxA L a) = hB at *
        generalize nV L (nxA L a) 4 = x at *
        simp (disch := first | (simp; done) | omega | (simp only [nx_add, nx_set, nx_kill, nx_mk, nx_emp]; omega) | fail) [g50_s1]
        have hwr : IntKind.u8.wrap (97 + x) = 97 + x := by
          obtain rfl | rfl | rfl | rfl : x = 0 ∨ x = 1 ∨ x = 2 ∨ x = 3 := by omega
          all_goals rfl
        rw [hwr, kIdxA_rsl (i := 0) (by omega) (by simp)]
        simp (disch := first | (simp; done) | omega | (simp only [nx_add, nx_set, nx_kill, nx_mk, nx_emp]; omega) | fail) [hcB]
      · simp (disch := first | (simp; done) | omega | (simp only [nx_add, nx_set, nx_kill, nx_mk, nx_emp]; omega) | fail) [g50_l1]
        simp (disch := first | (simp; done) | omega | (simp only [nx_add, nx_set, nx_kill, nx_mk, nx_emp]; omega) | fail) [g50_j3, g50_c2]
        simp [kX, acells, alen, bytesI, cut]
/-- a word is read, too -/
theorem upd_wH {h : AH} {id : Nat} {L : List Int} {a : Nat} (hs : Src h id L a) : Upd h (wH h id L a) id := by
  have u1 := upd_nH (h := h) (L := L) (a := a) hs.lt
  have hn1 := nx_nH h id L a
  have hlt := hs.lt
  unfold wH
  split
  · refine ⟨by simp; omega, by simp; omega, fun i hi hl => ?_, fun hw i hi => ?_⟩
    · rw [get_add, if_neg (by omega)]; exact u1.get i hi hl
    · simp at hi
      rw [get_add, if_neg (by omega)]; exact u1.wf hw i (by omega)
  · generalize nH h id L a = h1 at *
    have u2 := upd_nH (h := h1.add (.cells [.int .u8 0])) (L := L) (a := nxA L a) (id := id) (by simp; omega)
    have hn2 := nx_nH (h1.add (.cells [.int .u8 0])) id L (nxA L a)
    simp at hn2
    refine ⟨by simp; omega, by simp; omega, fun i hi hl => ?_, fun hw i hi => ?_⟩
    · rw [get_set, if_neg (by omega), u2.get i hi (by simp; omega), get_add, if_neg (by omega)]; exact u1.get i hi hl
    · simp at hi
      rw [get_set, if_neg (by omega)]
      refine u2.wf (fun j hj => ?_) i hi
      simp at hj
      rw [get_add, if_neg (by omega)]
      exact u1.wf hw j (by omega)
theorem Src.wH {h : AH} {id : Nat} {L : List Int} {a : Nat} (hs : Src h id L a) : Src (wH h id L a) id L (wA L a) := by
  have hs1 := hs.nH
  have hn1 := nx_nH h id L a
  have hlt := hs.lt
  have hu := upd_wH hs
  refine ⟨?_, ?_, hs.ok, by have := hu.lo; omega⟩
  · unfold Go.Proofs.Ytpnekpbehcbmkaa.wH wA
    split
    · rw [cellsAt_add_ne _ _ _ (by omega)]; exact hs1.c
    · rw [cellsAt_set_ne _ _ _ _ (by omega)]
      exact cells_nH (by rw [cellsAt_add_ne _ _ _ (by omega)]; exact hs1.c)
  · unfold wA; split
    · exact hs1.le
    · exact nxA_le _ hs1.le
def e50 : QE Try.prog := ⟨50, fun args h Q => ∃ id L a, args = [.ptr id 0, I 1] ∧ Src h id L a ∧ Q (.str (wV L a)) (wH h id L a), fun args h Q ⟨id, L, a, h1, h2, h3⟩ => by
  subst h1; exact ⟨_, _, w_d h2, h3⟩⟩
theorem W_step {tl : List (QE Try.prog)} {id : Nat} {L : List Int} {a : Nat} {h : AH} {Q : AV → AH → Prop} (hs : Src h id L a)
    (hq : ∀ h1, Src h1 id L (wA L a) → Upd h h1 id → Q (.str (wV L a)) h1) : tb (e50 :: tl) 50 [.ptr id 0, I 1] h Q := by
  rw [tb_here e50 tl 50 _ _ _ rfl]
  exact ⟨id, L, a, rfl, hs, hq _ hs.wH (upd_wH hs)⟩
end Go.Proofs.Ytpnekpbehcbmkaa
end
noncomputable section
namespace Go.Proofs.Ytpnekpbehcbmkaa
open Go.Eng
/-! The commands that the laws make: a plain function of the numbers. -/
def zTf : Tf := ⟨0, false, 0, 0, 0⟩
def zLn : Ln := ⟨0, 0, 0, 0, 0, 0, 0, 0, 0, []⟩
def clipC (r : Rect) : Cmd := ⟨1, r, zTf, 0, [], zLn⟩
def tfC (t : Tf) : Cmd := ⟨2, zR, t, 0, [], zLn⟩
def popC : Cmd := ⟨3, zR, zTf, 0, [], zLn⟩
def filC (r : Rect) (col : Int) : Cmd := ⟨4, r, zTf, col, [], zLn⟩
def imgC (r : Rect) (s : List UInt8) : Cmd := ⟨6, r, zTf, 0, s, zLn⟩
def glLn (x : Int) (g : List Gl) : Ln := ⟨0, 0, 0, x, 0, 0, 0, 0, 0, g⟩
def glC (r : Rect) (col x : Int) (g : List Gl) : Cmd := ⟨5, r, zTf, col, [], glLn x g⟩
def gM (L : List Int) : Nat → List Gl → Nat → List Gl × Nat
  | 0, g, a => (g, a)
  | k + 1, g, a => gM L k (g ++ [⟨97, 0, 0, 0, nV L a 40, nV L (nxA L a) 12, 0, 0⟩]) (nxA L (nxA L a))
def at4 (L : List Int) (a : Nat) : Nat := nxA L (nxA L (nxA L (nxA L a)))
def rM (L : List Int) (a : Nat) : Rect := ⟨-20 + nV L a 61, -20 + nV L (nxA L a) 61, nV L (nxA L (nxA L a)) 40, nV L (nxA L (nxA L (nxA L a))) 40⟩
def tM (L : List Int) (a : Nat) : Tf := ⟨nV L a 4, decide (nV L (nxA L a) 2 = 1), 1 + nV L (nxA L (nxA L a)) 3, -20 + nV L (nxA L (nxA L (nxA L a))) 41, -20 + nV L (at4 L a) 41⟩
/-- one round: what is appended, how many brackets are open, where the reader stands -/
def sM (L : List Int) (o a : Nat) : List Cmd × Nat × Nat :=
  if nV L (at4 L a) 9 = 0 then ([clipC (rM L a)], o + 1, nxA L (at4 L a))
  else if nV L (at4 L a) 9 = 1 then ([tfC (tM L (nxA L (at4 L a)))], o + 1, nxA L (at4 L (nxA L (at4 L a))))
  else if nV L (at4 L a) 9 = 2 ∨ nV L (at4 L a) 9 = 3 then (if 0 < o then ([popC], o - 1, nxA L (at4 L a)) else ([], o, nxA L (at4 L a)))
  else if nV L (at4 L a) 9 = 4 then ([imgC (rM L a) (wV L (nxA L (at4 L a)))], o, wA L (nxA L (at4 L a)))
  else if nV L (at4 L a) 9 = 5 then
    ([glC (rM L a) (nV L (gM L (nV L (nxA L (nxA L (at4 L a))) 4).toNat [] (nxA L (nxA L (nxA L (at4 L a))))).2 3) (nV L (nxA L (at4 L a)) 5) (gM L (nV L (nxA L (nxA L (at4 L a))) 4).toNat [] (nxA L (nxA L (nxA L (at4 L a))))).1], o, nxA L (gM L (nV L (nxA L (nxA L (at4 L a))) 4).toNat [] (nxA L (nxA L (nxA L (at4 L a))))).2)
  else ([filC (rM L a) (nV L (nxA L (at4 L a)) 4)], o, nxA L (nxA L (at4 L a)))
def lM (L : List Int) : Nat → List Cmd → Nat → Nat → List Cmd × Nat × Nat
  | 0, l, o, a => (l, o, a)
  | i + 1, l, o, a => lM L i (l ++ (sM L o a).1) (sM L o a).2.1 (sM L o a).2.2
/-- the list -/
def cM (L : List Int) (a : Nat) (n : Int) : List Cmd × Nat :=
  ((lM L (nV L a (n + 1)).toNat [] 0 (nxA L a)).1 ++ List.replicate (lM L (nV L a (n + 1)).toNat [] 0 (nxA L a)).2.1 popC, (lM L (nV L a (n + 1)).toNat [] 0 (nxA L a)).2.2)
def flatC (l : List Cmd) : List AV := (l.map Cmd.enc).flatten
/-- old objects stand, but for the reader's -/
structure Gr (h h1 : AH) (id c : Nat) : Prop where
  lo : h.nx ≤ h1.nx
  hi : h1.nx ≤ h.nx + c
  get : ∀ i, i ≠ id → i < h.nx → h1.H.get i = h.H.get i
  wf : WF h1
theorem Gr.refl {h : AH} {id : Nat} (hw : WF h) : Gr h h id 0 := ⟨by omega, by omega, fun _ _ _ => rfl, hw⟩
theorem Gr.upd {h h1 h2 : AH} {id c : Nat} (g : Gr h h1 id c) (u : Upd h1 h2 id) : Gr h h2 id (c + 60) :=
  ⟨by have := g.lo; have := u.lo; omega, by have := g.hi; have := u.hi; omega, fun i hi hl => by rw [u.get i hi (by have := g.lo; omega), g.get i hi hl], u.wf g.wf⟩
theorem Gr.add {h h1 : AH} {id c : Nat} (g : Gr h h1 id c) (o : AObj) : Gr h (h1.add o) id (c + 1) :=
  ⟨by have := g.lo; simp; omega, by have := g.hi; simp; omega, fun i hi hl => by rw [get_add, if_neg (by have := g.lo; omega), g.get i hi hl], g.wf.add o⟩
theorem Gr.set {h h1 : AH} {id c j : Nat} (g : Gr h h1 id c) (o : AObj) (hj : h.nx ≤ j) (hj1 : j < h1.nx) : Gr h (h1.set j o) id c :=
  ⟨by have := g.lo; simpa, by have := g.hi; simpa, fun i hi hl => by rw [get_set, if_neg (by omega), g.get i hi hl], g.wf.set j hj1 o⟩
theorem Gr.bump {h h1 : AH} {id c : Nat} (g : Gr h h1 id c) (n : Nat) (hn : h1.nx ≤ n) (d : Nat) (hd : n ≤ h1.nx + d) : Gr h ⟨h1.H, n⟩ id (c + d) :=
  ⟨by have := g.lo; show h.nx ≤ n; omega, by have := g.hi; show n ≤ _; omega, g.get, g.wf.bump n hn⟩
def LV (h0 h : AH) (lv : AV) (l : List Cmd) : Prop :=
  (lv = .nilsl ∧ l = []) ∨ ∃ id cs, lv = .rsl id 0 l.length 22 ∧ l ≠ [] ∧ h0.nx ≤ id ∧ id < h.nx ∧ h.cellsAt id = some cs ∧ FrzL (rest h h0.nx id) false cs (flatC l)
structure St (h0 h : AH) (sid : Nat) (L : List Int) (a : Nat) (lv : AV) (l : List Cmd) (c : Nat) : Prop where
  src : Src h sid L a
  slt : sid < h0.nx
  gr : Gr h0 h sid c
  list : LV h0 h lv l
theorem wdp_of {h h' : AH} {x : Option (AV × AH)} {v : AV} {c : Rec} {k : AV → Rec → AH → Prop} (hr : x = some (v, h')) (hk : k v c h) : wdp h x c k := by subst hr; exact hk
theorem wda_of {r : Nat} {h : AH} {x : Option (List AV × (Nat → AV))} {cs : List AV} {mk : Nat → AV} {k : AV → Rec → AH → Prop} (hr : x = some (cs, mk)) (hk : k (mk r) (.alloc r cs) (h.set r (.cells cs))) : wda r h x k := by subst hr; exact hk
theorem wde_of {h h' : AH} {x : Option (AV × AH)} {v : AV} {k : AV → Rec → AH → Prop} (hr : x = some (v, h')) (hn : h.nx ≤ h'.nx) (hk : k v (.eff h h') h') : wde h x k := by subst hr; exact ⟨hn, hk⟩
theorem app_step {h0 h h' : AH} {sid : Nat} {L : List Int} {a a' c d t : Nat} {lv : AV} {l : List Cmd} {tc : List AV} {x : Cmd} (hst : St h0 h sid L a lv l c) (hg : Gr h h' sid d) (hs : Src h' sid L a')
    (ht : h.nx ≤ t) (ht' : t < h'.nx) (htc : h'.cellsAt t = some tc) (hlen : tc.length = 22) (ho : ones tc = true) (hf : FrzL (rest h' h.nx t) false tc x.enc) (hl : l.length ≤ 1000) :
    ∃ lv' h'', kApp h' 22 200 lv (.rsl t 0 1 22) = some (lv', h'') ∧ h'.nx ≤ h''.nx ∧ St h0 h'' sid L a' lv' (l ++ [x]) (c + d + 1) := by
  have hlo := hst.gr.lo
  have hlo' := hg.lo
  have hhi := hst.gr.hi
  have hhi' := hg.hi
  have hslt := hst.slt
  have hcut : cut tc 0 22 = some tc := by
    have := cut_zero_app (α := tc) (b := []) (n := 22) hlen
    rwa [List.append_nil] at this
  have hlow : ∀ i cs, (rest h' h.nx t).cellsAt i = some cs → h.nx ≤ i ∧ i ≠ t ∧ i < h'.nx ∧ h'.cellsAt i = some cs := by
    intro i cs hi
    have hgi := cellsAt_get hi
    rw [get_rest] at hgi
    split at hgi
    · cases hgi
    · rename_i hn
      refine ⟨by omega, by omega, ?_, ?_⟩
      · refine Nat.lt_of_not_le fun hle => ?_
        rw [hg.wf i hle] at hgi; cases hgi
      · rw [← hi]; exact (cellsAt_rest (by omega) (by omega)).symm
  rcases hst.list with ⟨rfl, rfl⟩ | ⟨id, cs, rfl, hne, hid, hidl, hcs, hfc⟩
  · refine ⟨.rsl h'.nx 0 1 22, h'.add (.cells tc), ?_, by simp, ?_⟩
    · rw [kApp_nr _ _ _ _ _ _ (by omega)]
      simp [htc, hcut, ho]
    · refine ⟨⟨?_, hs.le, hs.ok, by have := hs.lt; simp; omega⟩, hslt, ?_, .inr ⟨h'.nx, tc, rfl, by simp, by omega, by simp, by simp, ?_⟩⟩
      · rw [cellsAt_add_ne _ _ _ (by have := hs.lt; omega)]; exact hs.c
      · refine ⟨by simp; omega, by simp; omega, fun i hi hl => ?_, hg.wf.add _⟩
        rw [get_add, if_neg (by omega), hg.get i hi (by omega), hst.gr.get i hi hl]
      · have : flatC ([] ++ [x]) = x.enc := by simp [flatC]
        rw [this]
        refine hf.ext fun i cs hi => ?_
        obtain ⟨k1, k2, k3, k4⟩ := hlow i cs hi
        rw [cellsAt_rest (by omega) (by omega), cellsAt_add_ne _ _ _ (by omega)]; exact k4
  · have hcs' : h'.cellsAt id = some cs := by rw [← hcs]; exact cellsAt_congr (hg.get id (by omega) hidl)
    have hlcs : cs.length = l.length * 22 := by rw [((FrzL_iff _ _ _ _).1 hfc).1]; unfold flatC; exact flat_len Cmd.len l
    have hcut' : cut cs 0 (l.length * 22) = some cs := by
      have := cut_zero_app (α := cs) (b := []) (n := l.length * 22) hlcs
      rwa [List.append_nil] at this
    have hro : roomy (l.length + 1) 200 = true := roomy_ok _ _ (by omega) (by omega)
    refine ⟨.rsl h'.nx 0 (l.length + 1) 22, (h'.kill id).add (.cells (cs ++ tc)), ?_, by simp, ?_⟩
    · rw [kApp_rr]
      simp [htc, hcut, ho, hcs', hcut', hro]
    · refine ⟨⟨?_, hs.le, hs.ok, by have := hs.lt; simp; omega⟩, hslt, ?_, .inr ⟨h'.nx, cs ++ tc, by simp, by simp, by omega, by simp, by simp, ?_⟩⟩
      · rw [cellsAt_add_ne _ _ _ (by have := hs.lt; simp; omega), cellsAt_kill_ne _ _ _ (by omega)]; exact hs.c
      · refine ⟨by simp; omega, by simp; omega, fun i hi hl => ?_, (hg.wf.kill id).add _⟩
        rw [get_add, if_neg (by simp; omega), get_kill, if_neg (by omega), hg.get i hi (by omega), hst.gr.get i hi hl]
      · have hfl : flatC (l ++ [x]) = flatC l ++ x.enc := by simp [flatC]
        rw [hfl]
        refine FrzL.app (hfc.ext fun i cs hi => ?_) (hf.ext fun i cs hi => ?_)
        · have hgi := cellsAt_get hi
          rw [get_rest] at hgi
          split at hgi
          · cases hgi
          · rename_i hn
            have hlt : i < h.nx := Nat.lt_of_not_le fun hle => by rw [hst.gr.wf i hle] at hgi; cases hgi
            rw [cellsAt_rest (by omega) (by omega), cellsAt_add_ne _ _ _ (by simp; omega), cellsAt_kill_ne _ _ _ (by omega), ← hi, cellsAt_rest (by omega) (by omega)]
            exact cellsAt_congr (hg.get i (by omega) hlt)
        · obtain ⟨k1, k2, k3, k4⟩ := hlow i cs hi
          rw [cellsAt_rest (by omega) (by omega), cellsAt_add_ne _ _ _ (by simp; omega), cellsAt_kill_ne _ _ _ (by omega)]; exact k4
theorem nil_frz (H : AH) (c : Cmd) (hc : c.line.gl = []) : FrzL H false (c.enc.take 21 ++ [.nilsl]) c.enc := by
  have h2 : c.enc = c.enc.take 21 ++ [gls []] := by rw [← hc]; rfl
  have h1 : FrzL H false (c.enc.take 21) (c.enc.take 21) := by
    rw [FrzL_iff]
    refine ⟨rfl, fun i x y hx hy => ?_⟩
    rw [hx] at hy; cases hy
    exact c.pls x (List.mem_of_mem_take (List.mem_of_getElem? hx)) H
  have h3 : FrzL H false [AV.nilsl] [gls []] := by
    rw [FrzL_iff]
    refine ⟨rfl, fun i x y hx hy => ?_⟩
    match i with
    | 0 => simp at hx hy; subst hx; subst hy; exact .nilsl
    | i + 1 => simp at hx
  have := h1.app h3
  rwa [← h2] at this
end Go.Proofs.Ytpnekpbehcbmkaa
end
