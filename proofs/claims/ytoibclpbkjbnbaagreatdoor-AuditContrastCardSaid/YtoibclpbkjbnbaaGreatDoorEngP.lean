/- The iterator of slices.Backward keeps its contract. Pure contracts: a function that is run where no object is owned may be called wherever its arguments are frozen. How the words of the printed functions are simplified. -/
import Derived.RangeFuncBox
import Derived.RangeFuncLeaves
import Derived.Shelf.Abstract
import Derived.WalkKit
import Derived.OwnWalkIn
import Derived.TacticsInMore
import Derived.LoopNIn
import Derived.LoopIn
import Derived.Test.YtoibclpbkjbnbaaGreatDoorEngW
import Derived.Test.YtoibclpbkjbnbaaGreatDoorProg
import Derived.Test.YtoibclpbkjbnbaaGreatDoorEngOX
set_option linter.unusedSimpArgs false
set_option linter.unusedVariables false
set_option linter.unnecessarySimpa false
noncomputable section
namespace Go.Proofs.YtoibclpbkjbnbaaGreatDoor
open Go.RowKit Go.Shelf Go.Eng
attribute [local go_sem] Oper.semAt_some
set_option maxRecDepth 100000 in
set_option maxHeartbeats 2000000 in
theorem back126 : BackOk Tryz.prog 126 := by
  refine ⟨⟨_, Tryz.func126, rfl, by decide⟩, ?_⟩
  intro l bx len J Jx W hlen hmem hY h0
  refine callsIn_wide.1 (?_ : CallsIn Fence.wide 1 Tryz.prog 126 _ W _)
  refine callsIn_of_wp Tryz.func126 rfl trivial ?_ rfl
  simp only [Tryz.ntmps126, List.size_toArray, List.length_cons, List.length_nil, Nat.reduceAdd, Nat.reduceSub, Array.replicate_succ, Array.replicate_zero, List.push_toArray, List.append_toArray, List.nil_append, List.cons_append]
  have hlen' : len ≤ 9223372036854775807 := hlen
  rcases hmem 0 W h0 with ⟨hz, hc⟩ | ⟨b, o, cap, hc, hel⟩
  · subst hz
    gi_wp2
    gi_loopw [3] (fun i wr => i = .int .i64 (-1) ∧ J 0 wr) (fun _ _ => 0)
    case atStart => exact ⟨rfl, h0⟩
    case round =>
      obtain ⟨rfl, hJs⟩ := hrel
      gi_wp2
      go_end0
      exact ⟨⟨_, rfl⟩, .inl hJs⟩
  · gi_wp2
    gi_loopw [3] (fun i wr => ∃ k : Nat, k ≤ len ∧ i = .int .i64 ((len : Int) - 1 - k) ∧ J k wr) (fun i _ => ((intOf i) + 1).toNat)
    case atStart => exact ⟨0, Nat.zero_le _, by simp, h0⟩
    case round =>
      obtain ⟨k, hk, rfl, hJs⟩ := hrel
      by_cases hlt : k < len
      · rcases hmem k wr hJs with ⟨hz, hc2⟩ | ⟨b2, o2, cap2, hc2, hel2⟩
        · omega
        · obtain ⟨v, hv⟩ := hel2 (len - 1 - k) (by omega)
          obtain ⟨fn, tmps, assign, body, hy, hR⟩ := hY k wr b2 o2 cap2 v hlt hJs hc2 hv
          have e1 : ((len - 1 - k : Nat) : Int) = (len : Int) - 1 - k := by omega
          rw [e1] at hy
          gi_wp2
          refine hR.mono ?_
          rintro e W3 (⟨rfl, hJ3⟩ | ⟨rfl, hJx3⟩)
          · gi_wp2
            go_roundw
            case rel => exact ⟨k + 1, by omega, by simp; omega, hJ3⟩
            case measure => simp [intOf]; omega
          · gi_wp2
            refine bodyPost_ret (results_none rfl _ _ _) rfl ?_
            exact ⟨⟨_, rfl⟩, .inr hJx3⟩
      · obtain rfl : k = len := by omega
        gi_wp2
        go_end0
        exact ⟨⟨_, rfl⟩, .inl hJs⟩
end Go.Proofs.YtoibclpbkjbnbaaGreatDoor
end
noncomputable section
namespace Go.Eng
def emp : AH := ⟨.leaf, 0⟩
def noB : Bl := fun _ => none

/-- a value in which nothing owned occurs -/
def Closed (a : AV) : Prop := ∀ (hp : Array Obj) (L : Nat → Prop) (β : Bl) (v : Value), VR hp L β a v → VR hp L noB a v

theorem Closed.bool (b : Bool) : Closed (.bool b) := fun _ _ _ _ h => by cases h; exact .bool b
theorem Closed.int (k : IntKind) (n : Int) : Closed (.int k n) := fun _ _ _ _ h => by cases h; exact .int k n
theorem Closed.str (s : List UInt8) : Closed (.str s) := fun _ _ _ _ h => by cases h; exact .str s
theorem Closed.nilptr : Closed .nilptr := fun _ _ _ _ h => by cases h; exact .nilptr
theorem Closed.nilsl : Closed .nilsl := fun _ _ _ _ h => by cases h; exact .nilsl
theorem Closed.esl : Closed .esl := fun _ _ _ _ h => by cases h; exact .esl _
theorem Closed.nilfunc : Closed .nilfunc := fun _ _ _ _ h => by cases h; exact .nilfunc
theorem Closed.nilif : Closed .nilif := fun _ _ _ _ h => by cases h; exact .nilif
theorem Closed.nilmap : Closed .nilmap := fun _ _ _ _ h => by cases h; exact .nilmap
theorem Closed.gptr (g o : Nat) : Closed (.gptr g o) := fun _ _ _ _ h => by cases h; exact .gptr g o
theorem Closed.agg {cs : List AV} (hc : ∀ c ∈ cs, Closed c) : Closed (.agg cs) := fun _ _ _ _ h => by
  cases h with
  | agg _ vs hl h => exact .agg cs vs hl fun i c v h1 h2 => hc c (List.mem_of_getElem? h1) _ _ _ _ (h i c v h1 h2)
theorem Closed.psl {xs : List (List AV)} (hc : ∀ x ∈ xs, ∀ c ∈ x, Closed c) : Closed (.psl xs) := fun _ _ _ _ h => by
  cases h with
  | psl0 a cap => exact .psl0 a cap
  | psl _ z b o cap cur e fz hb hL hs hz hcap h => exact .psl xs z b o cap cur e fz hb hL hs hz hcap fun i x j c v h1 h2 h3 => hc x (List.mem_of_getElem? h1) c (List.mem_of_getElem? h2) _ _ _ _ (h i x j c v h1 h2 h3)
theorem Closed.pptr {cs : List AV} (hc : ∀ c ∈ cs, Closed c) : Closed (.pptr cs) := fun _ _ _ _ h => by
  cases h with
  | pptr _ b o cur e fz hb hL hs h => exact .pptr cs b o cur e fz hb hL hs fun i c v h1 h2 => hc c (List.mem_of_getElem? h1) _ _ _ _ (h i c v h1 h2)
theorem Closed.func {fn : Fn} {f1 c1 : List AV} (h1 : ∀ c ∈ f1, Closed c) (h2 : ∀ c ∈ c1, Closed c) : Closed (.func fn f1 c1) := fun _ _ _ _ h => by
  cases h with
  | func _ _ _ f2 c2 hl1 hl2 g1 g2 => exact .func fn f1 c1 f2 c2 hl1 hl2 (fun i c v q1 q2 => h1 c (List.mem_of_getElem? q1) _ _ _ _ (g1 i c v q1 q2)) (fun i c v q1 q2 => h2 c (List.mem_of_getElem? q1) _ _ _ _ (g2 i c v q1 q2))

/-- A value and what it is when all objects that it reaches are frozen; n: nothing is reached that was frozen before. -/
inductive Frz (h : AH) (n : Bool) : AV → AV → Prop where
  | undef (a : AV) : Frz h n a .undef
  | bool (b : Bool) : Frz h n (.bool b) (.bool b)
  | int (k : IntKind) (m : Int) : Frz h n (.int k m) (.int k m)
  | str (s : List UInt8) : Frz h n (.str s) (.str s)
  | nilptr : Frz h n .nilptr .nilptr
  | nilfunc : Frz h n .nilfunc .nilfunc
  | nilif : Frz h n .nilif .nilif
  | nilmap : Frz h n .nilmap .nilmap
  | nilsl0 : Frz h n .nilsl .nilsl
  | nilsl : Frz h n .nilsl (.psl [])
  | esl0 : Frz h n .esl .esl
  | esl : Frz h n .esl (.psl [])
  | gptr (g o : Nat) : Frz h n (.gptr g o) (.gptr g o)
  | agg (cs ds : List AV) (hl : cs.length = ds.length) (hc : ∀ (i : Nat) (c d : AV), cs[i]? = some c → ds[i]? = some d → Frz h n c d) : Frz h n (.agg cs) (.agg ds)
  | tup (cs ds : List AV) (hl : cs.length = ds.length) (hc : ∀ (i : Nat) (c d : AV), cs[i]? = some c → ds[i]? = some d → Frz h n c d) : Frz h n (.tup cs) (.tup ds)
  | psl0 : Frz h n (.psl []) (.psl [])
  | psl (hn : n = false) (xs ys : List (List AV)) (hl : xs.length = ys.length) (hx : ∀ (i : Nat) (x y : List AV), xs[i]? = some x → ys[i]? = some y → x.length = y.length)
      (hc : ∀ (i : Nat) (x y : List AV) (j : Nat) (c d : AV), xs[i]? = some x → ys[i]? = some y → x[j]? = some c → y[j]? = some d → Frz h n c d) : Frz h n (.psl xs) (.psl ys)
  | pptr (hn : n = false) (cs ds : List AV) (hl : cs.length = ds.length) (hc : ∀ (i : Nat) (c d : AV), cs[i]? = some c → ds[i]? = some d → Frz h n c d) : Frz h n (.pptr cs) (.pptr ds)
  | rsl (id off z : Nat) (cs : List AV) (ys : List (List AV)) (ho : h.cellsAt id = some cs) (hs : off + ys.length * z ≤ cs.length) (hz : ∀ (i : Nat) (y : List AV), ys[i]? = some y → y.length = z)
      (hc : ∀ (i : Nat) (y : List AV) (j : Nat) (c d : AV), ys[i]? = some y → y[j]? = some d → cs[off + i * z + j]? = some c → Frz h n c d) : Frz h n (.rsl id off ys.length z) (.psl ys)
  | ptr (id off : Nat) (cs ds : List AV) (ho : h.cellsAt id = some cs) (hs : off + ds.length ≤ cs.length) (hc : ∀ (i : Nat) (c d : AV), cs[off + i]? = some c → ds[i]? = some d → Frz h n c d) : Frz h n (.ptr id off) (.pptr ds)
  | func (fn : Fn) (f1 c1 f2 c2 : List AV) (hl1 : f1.length = f2.length) (hl2 : c1.length = c2.length) (h1 : ∀ (i : Nat) (c d : AV), f1[i]? = some c → f2[i]? = some d → Frz h n c d) (h2 : ∀ (i : Nat) (c d : AV), c1[i]? = some c → c2[i]? = some d → Frz h n c d) : Frz h n (.func fn f1 c1) (.func fn f2 c2)
  | iface (t : TypeId) (a b : AV) (hb : Frz h n a b) : Frz h n (.iface t a) (.iface t b)

theorem get_of_len {α β : Type} {l : List α} {m : List β} (h : l.length = m.length) {i : Nat} {x : β} (hx : m[i]? = some x) : ∃ y, l[i]? = some y := by
  have : i < m.length := (List.getElem?_eq_some_iff.1 hx).1
  exact ⟨l[i], by simp [h ▸ this]⟩

theorem cellsAt_get {h : AH} {id : Nat} {cs : List AV} (hc : h.cellsAt id = some cs) : h.H.get id = some (.cells cs) := by
  unfold AH.cellsAt at hc
  split at hc
  · rename_i o ho; cases hc; exact ho
  · cases hc

/-- What is frozen is related wherever the blocks of the objects, and what was frozen before, are not to be written. -/
theorem VR.frz {own : Nat → Prop} {β : Bl} {h : AH} {nx : Nat} {w : World} (hs : SimH own β h.H nx w) {L2 : Nat → Prop} {β2 : Bl} {n : Bool} (h1 : ∀ b, live β h.H b → ¬ L2 b) (h2 : n = false → ∀ b, ¬ LL own β h.H b → ¬ L2 b)
    {a a' : AV} (hf : Frz h n a a') : ∀ {v : Value}, VR w.heap (LL own β h.H) β a v → VR w.heap L2 β2 a' v := by
  induction hf with
  | undef a => intro v hv; exact .undef v
  | bool b => intro v hv; cases hv; exact .bool b
  | int k m => intro v hv; cases hv; exact .int k m
  | str s => intro v hv; cases hv; exact .str s
  | nilptr => intro v hv; cases hv; exact .nilptr
  | nilfunc => intro v hv; cases hv; exact .nilfunc
  | nilif => intro v hv; cases hv; exact .nilif
  | nilmap => intro v hv; cases hv; exact .nilmap
  | nilsl0 => intro v hv; cases hv; exact .nilsl
  | nilsl => intro v hv; cases hv; exact .psl0 _ _
  | esl0 => intro v hv; cases hv; exact .esl _
  | esl => intro v hv; cases hv; exact .psl0 _ _
  | gptr g o => intro v hv; cases hv; exact .gptr g o
  | agg cs ds hl hc ih =>
    intro v hv
    cases hv with
    | agg _ vs hl2 hv =>
      refine .agg ds vs (hl ▸ hl2) fun i d v hd hv' => ?_
      obtain ⟨c, hc'⟩ := get_of_len hl hd
      exact ih i c d hc' hd (hv i c v hc' hv')
  | tup cs ds hl hc ih =>
    intro v hv
    cases hv with
    | tup _ vs hl2 hv =>
      refine .tup ds vs (hl ▸ hl2) fun i d v hd hv' => ?_
      obtain ⟨c, hc'⟩ := get_of_len hl hd
      exact ih i c d hc' hd (hv i c v hc' hv')
  | psl0 => intro v hv; cases hv <;> exact .psl0 _ _
  | psl hn xs ys hl hx hc ih =>
    intro v hv
    cases hv with
    | psl0 a cap => cases ys with
      | nil => exact .psl0 a cap
      | cons y ys => simp at hl
    | psl _ z b o cap cur e fz hb hL hs' hz hcap hv =>
      rw [hl]
      refine .psl ys z b o cap cur e fz hb (h2 hn b hL) (hl ▸ hs') (fun i y hy => ?_) (hl ▸ hcap) fun i y j d v hy hd hv' => ?_
      · obtain ⟨x, hx'⟩ := get_of_len hl hy
        rw [← hx i x y hx' hy]; exact hz i x hx'
      · obtain ⟨x, hx'⟩ := get_of_len hl hy
        obtain ⟨c, hc'⟩ := get_of_len (hx i x y hx' hy) hd
        exact ih i x y j c d hx' hy hc' hd (hv i x j c v hx' hc' hv')
  | pptr hn cs ds hl hc ih =>
    intro v hv
    cases hv with
    | pptr _ b o cur e fz hb hL hs' hv =>
      refine .pptr ds b o cur e fz hb (h2 hn b hL) (hl ▸ hs') fun i d v hd hv' => ?_
      obtain ⟨c, hc'⟩ := get_of_len hl hd
      exact ih i c d hc' hd (hv i c v hc' hv')
  | rsl id off z cs ys ho hs' hz hc ih =>
    intro v hv
    obtain ⟨b, base, hb, hnb, cur, e, hcur, hcs, hcell⟩ := hs.obj id _ (cellsAt_get ho)
    have hlive : live β h.H b := ⟨id, _, base, cellsAt_get ho, hb⟩
    generalize hlen : ys.length = len at hv
    cases hv with
    | rsl _ _ _ _ b' base' cap cur' e' hb' hcur' hcap hm hs2 =>
      rw [hb] at hb'; cases hb'
      rw [hcur] at hcur'; cases hcur'
      subst hlen
      refine .psl ys z b (base + off) cap cur e (0, 0) hcur (h1 b hlive) (by omega) hz hcap fun i y j d v hy hd hv' => ?_
      have hi : i < ys.length := (List.getElem?_eq_some_iff.1 hy).1
      have hj : j < z := by rw [← hz i y hy]; exact (List.getElem?_eq_some_iff.1 hd).1
      have hb1 : i * z + z ≤ ys.length * z := by
        have := Nat.mul_le_mul_right z (show i + 1 ≤ ys.length by omega)
        rw [Nat.succ_mul] at this; exact this
      have hlt : off + i * z + j < cs.length := by omega
      exact ih i y j cs[off + i * z + j] d hy hd (by simp [hlt]) (hcell (off + i * z + j) _ v (by simp [hlt]) (by rw [← hv']; congr 1; omega))
    | rsl0 _ _ _ b' base' o hb' =>
      cases ys with
      | nil => exact .psl0 _ _
      | cons y ys => simp at hlen
  | ptr id off cs ds ho hs' hc ih =>
    intro v hv
    obtain ⟨b, base, hb, hnb, cur, e, hcur, hcs, hcell⟩ := hs.obj id _ (cellsAt_get ho)
    have hlive : live β h.H b := ⟨id, _, base, cellsAt_get ho, hb⟩
    cases hv with
    | ptr _ _ b' base' hb' =>
      rw [hb] at hb'; cases hb'
      refine .pptr ds b (base + off) cur e (0, 0) hcur (h1 b hlive) (by omega) fun i d v hd hv' => ?_
      have hi : i < ds.length := (List.getElem?_eq_some_iff.1 hd).1
      have hlt : off + i < cs.length := by omega
      exact ih i cs[off + i] d (by simp [hlt]) hd (hcell (off + i) _ v (by simp [hlt]) (by rw [← hv']; congr 1; omega))
  | func fn f1 c1 f2 c2 hl1 hl2 g1 g2 ih1 ih2 =>
    intro v hv
    cases hv with
    | func _ _ _ u1 u2 k1 k2 q1 q2 =>
      refine .func fn f2 c2 u1 u2 (hl1 ▸ k1) (hl2 ▸ k2) (fun i d v hd hv' => ?_) (fun i d v hd hv' => ?_)
      · obtain ⟨c, hc'⟩ := get_of_len hl1 hd
        exact ih1 i c d hc' hd (q1 i c v hc' hv')
      · obtain ⟨c, hc'⟩ := get_of_len hl2 hd
        exact ih2 i c d hc' hd (q2 i c v hc' hv')
  | iface t a b hb ih =>
    intro v hv
    cases hv with
    | iface _ _ v hv => exact .iface t b v (ih hv)

theorem live_emp (β : Bl) (b : Nat) : ¬ live β emp.H b := by
  rintro ⟨id, o, base, h, _⟩; simp [emp, PM.get] at h
theorem simH_emp {own : Nat → Prop} {w : World} (h : ∀ b, own b → b < w.heap.size) : SimH own noB emp.H emp.nx w :=
  ⟨fun _ _ => rfl, fun id b base h => by simp [noB] at h, h, fun id o h => by simp [emp, PM.get] at h, fun id id' o o' b x y h => by simp [emp, PM.get] at h⟩

theorem SimH.ll {own : Nat → Prop} {β : Bl} {H : Hp} {nx : Nat} {w : World} (hs : SimH own β H nx w) {b : Nat} (hb : LL own β H b) : b < w.heap.size := by
  rcases hb with h | ⟨id, o, base, _, h2⟩
  · exact hs.ownlt b h
  · exact hs.lt id b base h2

/-- A function that is run where nothing is owned, on arguments that are frozen here. -/
theorem frame {P : Program} {f : Nat} {args pargs : List AV} {h : AH} {n : Bool} {R : AV → AH → Prop} {v : AV} (hc : CallsA P f pargs emp R) (hR : ∀ v' h', R v' h' → Frz h' n v' v)
    (ha : (n = false ∧ pargs = args ∧ ∀ a ∈ args, Closed a) ∨ (n = true ∧ args.length = pargs.length ∧ ∀ (i : Nat) (a b : AV), args[i]? = some a → pargs[i]? = some b → Frz h false a b)) : CallD P f args h v h := by
  refine ⟨hc.1, fun own β w cargs hs hRL => ?_⟩
  have main : ∀ own' : Nat → Prop, (∀ b, own' b → b < w.heap.size) → RL w.heap (LL own' noB emp.H) noB pargs cargs.toList → (n = false → own' = LL own β h.H) →
      Calls P f cargs w fun e w' => ∃ cv v1 h1 β', e = .returned cv ∧ (v1 = v ∧ h1 = h) ∧ SimH own β' h1.H h1.nx w' ∧ VR w'.heap (LL own β' h1.H) β' v1 cv ∧ Trans own β h w β' h1 w' := by
    intro own' ho hp hn
    refine (hc.2 own' noB w cargs (simH_emp ho) hp).mono ?_
    rintro e w' ⟨cv, v0, h0, β0, rfl, hq, hs0, hv0, ht⟩
    have hkeep : ∀ b, b < w.heap.size → w'.heap[b]? = w.heap[b]? := fun b hb => ht.keep b hb (live_emp _ b)
    have hT : Trans own β h w β h w' := ⟨fun _ _ h => h, fun _ _ => rfl, Nat.le_refl _, ht.size, fun b hb _ => hkeep b hb, fun _ h => .inl h, fun b cur e fz hb => ⟨cur, by rw [hkeep b (lt_of_get hb)]; exact hb, rfl⟩, ht.os, ht.tape, ht.output⟩
    have hS : SimH own β h.H h.nx w' := by
      refine ⟨hs.fresh, fun id b base hb => Nat.lt_of_lt_of_le (hs.lt id b base hb) ht.size, fun b hb => Nat.lt_of_lt_of_le (hs.ownlt b hb) ht.size, fun id o hg => ?_, hs.inj⟩
      obtain ⟨b, base, hb, hnb, hor⟩ := hs.obj id o hg
      refine ⟨b, base, hb, hnb, ?_⟩
      have hlt := hs.lt id b base hb
      cases o with
      | cells cs =>
        obtain ⟨cur, e, q1, q2, q3⟩ := hor
        exact ⟨cur, e, by rw [hkeep b hlt]; exact q1, q2, fun i c v k1 k2 => (q3 i c v k1 k2).later hT.later⟩
      | map kvs =>
        obtain ⟨q0, es, q1, q2, q3⟩ := hor
        exact ⟨q0, es, by rw [hkeep b hlt]; exact q1, q2, fun i kv e k1 k2 => ⟨(q3 i kv e k1 k2).1.later hT.later, (q3 i kv e k1 k2).2.1.later hT.later, (q3 i kv e k1 k2).2.2⟩⟩
      | siter s pos => exact ⟨hor.1, by rw [hkeep b hlt]; exact hor.2⟩
      | glob g cs =>
        obtain ⟨q0, q00, cur, e, fz, q1, q2, q3⟩ := hor
        exact ⟨q0, q00, cur, e, fz, by rw [hkeep b hlt]; exact q1, q2, fun i c v k1 k2 => (q3 i c v k1 k2).later hT.later⟩
    refine ⟨cv, v, h, β, rfl, ⟨rfl, rfl⟩, hS, ?_, hT⟩
    refine VR.frz hs0 (fun b hb hl => ?_) (fun hn' b hb hl => ?_) (hR v0 h0 hq) hv0
    · rcases ht.live b hb with h1 | h1
      · exact live_emp _ b h1
      · have := hs.ll hl; omega
    · have := hn hn'
      subst this
      exact hb (.inl hl)
  rcases ha with ⟨hn, rfl, hcl⟩ | ⟨hn, hlen, hfz⟩
  · refine main (LL own β h.H) (fun b hb => hs.ll hb) ⟨hRL.1, fun i c v h1 h2 => ?_⟩ (fun _ => rfl)
    have := hcl c (List.mem_of_getElem? h1) _ _ _ _ (hRL.2 i c v h1 h2)
    have heq : LL (LL own β h.H) noB emp.H = LL own β h.H := by
      funext b
      apply propext
      exact ⟨fun hx => hx.elim id (fun hl => absurd hl (live_emp _ b)), .inl⟩
    rw [heq]; exact this
  · refine main (fun _ => False) (fun b hb => hb.elim) ⟨hlen ▸ hRL.1, fun i d v h1 h2 => ?_⟩ (fun h => by rw [hn] at h; cases h)
    obtain ⟨a, ha⟩ := get_of_len hlen h1
    exact VR.frz hs (fun b _ hl => hl.elim (fun h => h) (live_emp _ b)) (fun _ b _ hl => hl.elim (fun h => h) (live_emp _ b)) (hfz i a d ha h1) (hRL.2 i a v ha h2)

/-- wherever it is called with these arguments, it returns this value and leaves all objects as they are -/
def Pure (P : Program) (f : Nat) (args : List AV) (v : AV) : Prop := ∀ h, CallD P f args h v h
theorem Pure.of {P : Program} {f : Nat} {args : List AV} {v : AV} (hcl : ∀ a ∈ args, Closed a) (hc : CallsA P f args emp fun v' h' => Frz h' false v' v) : Pure P f args v :=
  fun _ => frame hc (fun _ _ h => h) (.inl ⟨rfl, rfl, hcl⟩)
/-- what it returns reaches nothing that was there before -/
def Fresh (P : Program) (f : Nat) (args : List AV) (v : AV) : Prop := CallsA P f args emp fun v' h' => Frz h' true v' v
theorem Fresh.call {P : Program} {f : Nat} {args pargs : List AV} {v : AV} {h : AH} (hf : Fresh P f pargs v) (hlen : args.length = pargs.length) (ha : ∀ (i : Nat) (a b : AV), args[i]? = some a → pargs[i]? = some b → Frz h false a b) : CallD P f args h v h :=
  frame hf (fun _ _ h => h) (.inr ⟨rfl, hlen, ha⟩)
end Go.Eng
end
noncomputable section
namespace Go.Eng
@[simp ↓] theorem wk_some (v : AV) (h : AH) (k : AV → AH → Prop) : wk (some (v, h)) k = k v h := Eq.trans rfl rfl
@[simp ↓] theorem wif_bool (b : Bool) (x y : Prop) : wif (.bool b) x y = ((b = true → x) ∧ (b = false → y)) := Eq.trans rfl rfl
@[simp ↓] theorem wg_some (b : Bool) (A : (AV → AH → Prop) → Prop) (h : AH) (k : AV → AH → Prop) : wg (some b) A h k = ((b = true → A k) ∧ (b = false → k skipped h)) := Eq.trans rfl rfl
@[simp ↓] theorem wsp_bool (b : Bool) (K : AV → Prop) : wsp (.bool b) K = ((b = true → K (.bool true)) ∧ (b = false → K (.bool false))) := Eq.trans rfl rfl
attribute [simp ↓] xs
@[simp ↓ high] theorem wsp_true (K : AV → Prop) : wsp (.bool true) K = K (.bool true) := by simp [wsp]
@[simp ↓ high] theorem wsp_false (K : AV → Prop) : wsp (.bool false) K = K (.bool false) := by simp [wsp]
@[simp ↓ high] theorem wg_true (A : (AV → AH → Prop) → Prop) (h : AH) (k : AV → AH → Prop) : wg (some true) A h k = A k := by simp [wg]
@[simp ↓ high] theorem wg_false (A : (AV → AH → Prop) → Prop) (h : AH) (k : AV → AH → Prop) : wg (some false) A h k = k skipped h := by simp [wg]
@[simp ↓ high] theorem wif_false (x y : Prop) : wif (.bool false) x y = y := by simp [wif]
@[simp high] theorem gdv_tt : gdv true (.bool true) = some true := Eq.trans rfl rfl
@[simp high] theorem gdv_tf : gdv true (.bool false) = some false := Eq.trans rfl rfl
@[simp high] theorem gdv_ft : gdv false (.bool true) = some false := Eq.trans rfl rfl
@[simp high] theorem gdv_ff : gdv false (.bool false) = some true := Eq.trans rfl rfl
@[simp high] theorem kPick_true (h : AH) (x y : AV) : kPick h (.bool true) x y = some (x, h) := Eq.trans rfl rfl
@[simp high] theorem kPick_false (h : AH) (x y : AV) : kPick h (.bool false) x y = some (y, h) := Eq.trans rfl rfl
@[simp] theorem nthD_zero (a : AV) (l : List AV) : nthD (a :: l) 0 = a := Eq.trans rfl rfl
@[simp] theorem nthD_succ (a : AV) (l : List AV) (n : Nat) : nthD (a :: l) (n + 1) = nthD l n := Eq.trans rfl rfl
@[simp ↓] theorem wcall_func (cl : CL) (g : Nat) (first captured args : List AV) (h : AH) (k : AV → AH → Prop) : wcall cl (.func (.func g) first captured) args h k = cl g (first ++ args ++ captured) h k := Eq.trans rfl rfl
/-! the continuations are left alone until they are reached -/
@[congr] theorem wk_congr {r r' : Option (AV × AH)} {k : AV → AH → Prop} (h : r = r') : wk r k = wk r' k := by rw [h]
@[congr] theorem wif_congr {c c' : AV} {x y : Prop} (h : c = c') : wif c x y = wif c' x y := by rw [h]
@[congr] theorem wg_congr {g g' : Option Bool} {A : (AV → AH → Prop) → Prop} {h : AH} {k : AV → AH → Prop} (hg : g = g') : wg g A h k = wg g' A h k := by rw [hg]
@[simp] theorem kArith_eql (h : AH) (k : IntKind) (a b : Int) : kArith h .eql (.int k a) (.int k b) = some (.bool (a == b), h) := by simp [kArith, aarith, isShift, iarith]
@[simp] theorem kArith_neq (h : AH) (k : IntKind) (a b : Int) : kArith h .neq (.int k a) (.int k b) = some (.bool (a != b), h) := by simp [kArith, aarith, isShift, iarith]
@[simp] theorem kArith_lss (h : AH) (k : IntKind) (a b : Int) : kArith h .lss (.int k a) (.int k b) = some (.bool (decide (a < b)), h) := by simp [kArith, aarith, isShift, iarith]
@[simp] theorem kArith_leq (h : AH) (k : IntKind) (a b : Int) : kArith h .leq (.int k a) (.int k b) = some (.bool (decide (a ≤ b)), h) := by simp [kArith, aarith, isShift, iarith]
@[simp] theorem kArith_gtr (h : AH) (k : IntKind) (a b : Int) : kArith h .gtr (.int k a) (.int k b) = some (.bool (decide (b < a)), h) := by simp [kArith, aarith, isShift, iarith]
@[simp] theorem kArith_geq (h : AH) (k : IntKind) (a b : Int) : kArith h .geq (.int k a) (.int k b) = some (.bool (decide (b ≤ a)), h) := by simp [kArith, aarith, isShift, iarith]
theorem wrap64 {n : Int} (h1 : -9223372036854775808 ≤ n) (h2 : n ≤ 9223372036854775807) : IntKind.i64.wrap n = n := by
  unfold IntKind.wrap
  show (if (true && decide (n % 18446744073709551616 ≥ 9223372036854775808)) = true then n % 18446744073709551616 - 18446744073709551616 else n % 18446744073709551616) = n
  simp only [Bool.true_and, decide_eq_true_eq]
  split <;> omega
@[simp] theorem kArith_add (h : AH) (a b : Int) (h1 : -9223372036854775808 ≤ a + b) (h2 : a + b ≤ 9223372036854775807) : kArith h .add (.int .i64 a) (.int .i64 b) = some (.int .i64 (a + b), h) := by simp [kArith, aarith, isShift, iarith, wrap64 h1 h2]
@[simp] theorem kArith_mul (h : AH) (a b : Int) (h1 : -9223372036854775808 ≤ a * b) (h2 : a * b ≤ 9223372036854775807) : kArith h .mul (.int .i64 a) (.int .i64 b) = some (.int .i64 (a * b), h) := by simp [kArith, aarith, isShift, iarith, wrap64 h1 h2]
theorem kArith_quo (h : AH) (a b : Int) (hb : b ≠ 0) (h1 : -9223372036854775808 ≤ a.tdiv b) (h2 : a.tdiv b ≤ 9223372036854775807) : kArith h .quo (.int .i64 a) (.int .i64 b) = some (.int .i64 (a.tdiv b), h) := by simp [kArith, aarith, isShift, iarith, hb, wrap64 h1 h2]
theorem kArith_rem (h : AH) (k : IntKind) (a b : Int) (hb : b ≠ 0) : kArith h .rem (.int k a) (.int k b) = some (.int k (a.tmod b), h) := by simp [kArith, aarith, isShift, iarith, hb]
@[simp] theorem kUn_not (h : AH) (b : Bool) : kUn h .not (.bool b) = some (.bool !b, h) := Eq.trans rfl rfl
@[simp] theorem kEqs_bool (h : AH) (neg a b : Bool) : kEqs h neg (.bool a) (.bool b) = some (.bool (if neg then !(a == b) else a == b), h) := Eq.trans rfl rfl
/-! ## results -/
@[simp] theorem Frz_bool (h : AH) (n a b : Bool) : Frz h n (.bool a) (.bool b) ↔ a = b := ⟨fun h => by cases h; rfl, fun h => by subst h; exact .bool _⟩
@[simp] theorem Frz_int (h : AH) (n : Bool) (k : IntKind) (a b : Int) : Frz h n (.int k a) (.int k b) ↔ a = b := ⟨fun h => by cases h; rfl, fun h => by subst h; exact .int _ _⟩
/-! ## tables of contracts -/
structure QE (P : Program) where
  f : Nat
  q : List AV → AH → (AV → AH → Prop) → Prop
  ok : ∀ args h Q, q args h Q → ∃ v h', CallD P f args h v h' ∧ Q v h'
def tb {P : Program} : List (QE P) → CL
  | [], _, _, _, _ => False
  | e :: l, f, args, h, Q => cond (Nat.beq e.f f) (e.q args h Q) (tb l f args h Q)
theorem tb_ok {P : Program} : ∀ l : List (QE P), CLOk P (tb l)
  | [], _, _, _, _, h => h.elim
  | e :: l, f, args, h, Q, hq => by
    unfold tb at hq
    cases hb : Nat.beq e.f f with
    | true =>
      rw [hb] at hq
      obtain rfl := Nat.eq_of_beq_eq_true hb
      exact e.ok args h Q hq
    | false => rw [hb] at hq; exact tb_ok l f args h Q hq
theorem tb_here {P : Program} (e : QE P) (l : List (QE P)) (f : Nat) (args : List AV) (h : AH) (Q : AV → AH → Prop) (hf : e.f = f) : tb (e :: l) f args h Q = e.q args h Q := by
  subst hf; simp [tb]
theorem tb_there {P : Program} (e : QE P) (l : List (QE P)) (f : Nat) (args : List AV) (h : AH) (Q : AV → AH → Prop) (hf : e.f ≠ f) : tb (e :: l) f args h Q = tb l f args h Q := by
  have : Nat.beq e.f f = false := by cases hb : Nat.beq e.f f with | false => rfl | true => exact absurd (Nat.eq_of_beq_eq_true hb) hf
  simp [tb, this]
/-- a pure function: its arguments, a condition, its result -/
def QE.pure {P : Program} (f : Nat) {α : Type} (e : α → List AV) (pre : α → Prop) (res : α → AV) (ok : ∀ x, pre x → Pure P f (e x) (res x)) : QE P :=
  ⟨f, fun args h Q => ∃ x, args = e x ∧ pre x ∧ Q (res x) h, fun args h Q ⟨x, h1, h2, h3⟩ => ⟨res x, h, h1 ▸ ok x h2 h, h3⟩⟩
theorem QE.pure_q {P : Program} {f : Nat} {α : Type} {e : α → List AV} {pre : α → Prop} {res : α → AV} {ok : ∀ x, pre x → Pure P f (e x) (res x)} {x : α} (hinj : ∀ y, e x = e y → x = y) (h : AH) (Q : AV → AH → Prop) :
    (QE.pure f e pre res ok).q (e x) h Q = (pre x ∧ Q (res x) h) := by
  apply propext
  constructor
  · rintro ⟨y, h1, h2, h3⟩
    obtain rfl := hinj y h1
    exact ⟨h2, h3⟩
  · rintro ⟨h2, h3⟩
    exact ⟨x, rfl, h2, h3⟩
/-- a value in which nothing owned occurs, frozen -/
def Plain (a : AV) : Prop := ∀ (h : AH), Frz h false a a
theorem Plain.bool (b : Bool) : Plain (.bool b) := fun _ => .bool b
theorem Plain.int (k : IntKind) (n : Int) : Plain (.int k n) := fun _ => .int k n
theorem Plain.str (s : List UInt8) : Plain (.str s) := fun _ => .str s
theorem Plain.nilfunc : Plain .nilfunc := fun _ => .nilfunc
theorem Plain.nilptr : Plain .nilptr := fun _ => .nilptr
theorem Plain.agg {cs : List AV} (hc : ∀ c ∈ cs, Plain c) : Plain (.agg cs) := fun h => .agg cs cs rfl fun i c d h1 h2 => by
  rw [h1] at h2; cases h2; exact hc c (List.mem_of_getElem? h1) h
theorem Plain.psl {xs : List (List AV)} (hc : ∀ x ∈ xs, ∀ c ∈ x, Plain c) : Plain (.psl xs) := fun h => .psl rfl xs xs rfl (fun i x y h1 h2 => by rw [h1] at h2; cases h2; rfl) fun i x y j c d h1 h2 h3 h4 => by
  rw [h1] at h2; cases h2; rw [h3] at h4; cases h4; exact hc x (List.mem_of_getElem? h1) c (List.mem_of_getElem? h3) h
theorem Plain.pptr {cs : List AV} (hc : ∀ c ∈ cs, Plain c) : Plain (.pptr cs) := fun h => .pptr rfl cs cs rfl fun i c d h1 h2 => by
  rw [h1] at h2; cases h2; exact hc c (List.mem_of_getElem? h1) h
theorem Plain.func {fn : Fn} {f1 c1 : List AV} (h1 : ∀ c ∈ f1, Plain c) (h2 : ∀ c ∈ c1, Plain c) : Plain (.func fn f1 c1) := fun h => .func fn f1 c1 f1 c1 rfl rfl (fun i c d q1 q2 => by rw [q1] at q2; cases q2; exact h1 c (List.mem_of_getElem? q1) h) (fun i c d q1 q2 => by rw [q1] at q2; cases q2; exact h2 c (List.mem_of_getElem? q1) h)
theorem Pure.call {P : Program} {f : Nat} {args : List AV} {v : AV} {h : AH} {Q : AV → AH → Prop} (hp : Pure P f args v) (hq : Q v h) : CallsA P f args h Q := (hp h).calls hq
end Go.Eng
end
