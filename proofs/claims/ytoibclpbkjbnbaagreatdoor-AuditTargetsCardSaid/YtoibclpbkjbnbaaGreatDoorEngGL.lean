/- The iterator of slices.Backward keeps its contract. Pure contracts: a function that is run where no object is owned may be called wherever its arguments are frozen. Runs in a world where a package-level variable is laid. -/
import Derived.RangeFuncBox
import Derived.RangeFuncLeaves
import Derived.Shelf.Abstract
import Derived.WalkKit
import Derived.OwnWalkIn
import Derived.TacticsInMore
import Derived.LoopNIn
import Derived.LoopIn
import Derived.Test.YtoibclpbkjbnbaaGreatDoorEngW
import Derived.Test.YtoibclpbkjbnbaaGreatDoorProg
import Derived.Test.YtoibclpbkjbnbaaGreatDoorEngOX
import Derived.OpenShut
import Derived.ChangeArms
import Derived.Below
set_option linter.unusedSimpArgs false
set_option linter.unusedVariables false
set_option linter.unnecessarySimpa false
noncomputable section
namespace Go.Proofs.YtoibclpbkjbnbaaGreatDoor
open Go.RowKit Go.Shelf Go.Eng
attribute [local go_sem] Oper.semAt_some
set_option maxRecDepth 100000 in
set_option maxHeartbeats 2000000 in
theorem back126 : BackOk Tryz.prog 126 := by
  refine ⟨⟨_, Tryz.func126, rfl, by decide⟩, ?_⟩
  intro l bx len J Jx W hlen hmem hY h0
  refine callsIn_wide.1 (?_ : CallsIn Fence.wide 1 Tryz.prog 126 _ W _)
  refine callsIn_of_wp Tryz.func126 rfl trivial ?_ rfl
  simp only [Tryz.ntmps126, List.size_toArray, List.length_cons, List.length_nil, Nat.reduceAdd, Nat.reduceSub, Array.replicate_succ, Array.replicate_zero, List.push_toArray, List.append_toArray, List.nil_append, List.cons_append]
  have hlen' : len ≤ 9223372036854775807 := hlen
  rcases hmem 0 W h0 with ⟨hz, hc⟩ | ⟨b, o, cap, hc, hel⟩
  · subst hz
    gi_wp2
    gi_loopw [3] (fun i wr => i = .int .i64 (-1) ∧ J 0 wr) (fun _ _ => 0)
    case atStart => exact ⟨rfl, h0⟩
    case round =>
      obtain ⟨rfl, hJs⟩ := hrel
      gi_wp2
      go_end0
      exact ⟨⟨_, rfl⟩, .inl hJs⟩
  · gi_wp2
    gi_loopw [3] (fun i wr => ∃ k : Nat, k ≤ len ∧ i = .int .i64 ((len : Int) - 1 - k) ∧ J k wr) (fun i _ => ((intOf i) + 1).toNat)
    case atStart => exact ⟨0, Nat.zero_le _, by simp, h0⟩
    case round =>
      obtain ⟨k, hk, rfl, hJs⟩ := hrel
      by_cases hlt : k < len
      · rcases hmem k wr hJs with ⟨hz, hc2⟩ | ⟨b2, o2, cap2, hc2, hel2⟩
        · omega
        · obtain ⟨v, hv⟩ := hel2 (len - 1 - k) (by omega)
          obtain ⟨fn, tmps, assign, body, hy, hR⟩ := hY k wr b2 o2 cap2 v hlt hJs hc2 hv
          have e1 : ((len - 1 - k : Nat) : Int) = (len : Int) - 1 - k := by omega
          rw [e1] at hy
          gi_wp2
          refine hR.mono ?_
          rintro e W3 (⟨rfl, hJ3⟩ | ⟨rfl, hJx3⟩)
          · gi_wp2
            go_roundw
            case rel => exact ⟨k + 1, by omega, by simp; omega, hJ3⟩
            case measure => simp [intOf]; omega
          · gi_wp2
            refine bodyPost_ret (results_none rfl _ _ _) rfl ?_
            exact ⟨⟨_, rfl⟩, .inr hJx3⟩
      · obtain rfl : k = len := by omega
        gi_wp2
        go_end0
        exact ⟨⟨_, rfl⟩, .inl hJs⟩
end Go.Proofs.YtoibclpbkjbnbaaGreatDoor
end
noncomputable section
namespace Go.Eng
def emp : AH := ⟨.leaf, 0⟩
def noB : Bl := fun _ => none

/-- a value in which nothing owned occurs -/
def Closed (a : AV) : Prop := ∀ (hp : Array Obj) (L : Nat → Prop) (β : Bl) (v : Value), VR hp L β a v → VR hp L noB a v

theorem Closed.bool (b : Bool) : Closed (.bool b) := fun _ _ _ _ h => by cases h; exact .bool b
theorem Closed.int (k : IntKind) (n : Int) : Closed (.int k n) := fun _ _ _ _ h => by cases h; exact .int k n
theorem Closed.str (s : List UInt8) : Closed (.str s) := fun _ _ _ _ h => by cases h; exact .str s
theorem Closed.nilptr : Closed .nilptr := fun _ _ _ _ h => by cases h; exact .nilptr
theorem Closed.nilsl : Closed .nilsl := fun _ _ _ _ h => by cases h; exact .nilsl
theorem Closed.esl : Closed .esl := fun _ _ _ _ h => by cases h; exact .esl _
theorem Closed.nilfunc : Closed .nilfunc := fun _ _ _ _ h => by cases h; exact .nilfunc
theorem Closed.nilif : Closed .nilif := fun _ _ _ _ h => by cases h; exact .nilif
theorem Closed.nilmap : Closed .nilmap := fun _ _ _ _ h => by cases h; exact .nilmap
theorem Closed.gptr (g o : Nat) : Closed (.gptr g o) := fun _ _ _ _ h => by cases h; exact .gptr g o
theorem Closed.agg {cs : List AV} (hc : ∀ c ∈ cs, Closed c) : Closed (.agg cs) := fun _ _ _ _ h => by
  cases h with
  | agg _ vs hl h => exact .agg cs vs hl fun i c v h1 h2 => hc c (List.mem_of_getElem? h1) _ _ _ _ (h i c v h1 h2)
theorem Closed.psl {xs : List (List AV)} (hc : ∀ x ∈ xs, ∀ c ∈ x, Closed c) : Closed (.psl xs) := fun _ _ _ _ h => by
  cases h with
  | psl0 a cap => exact .psl0 a cap
  | psl _ z b o cap cur e fz hb hL hs hz hcap h => exact .psl xs z b o cap cur e fz hb hL hs hz hcap fun i x j c v h1 h2 h3 => hc x (List.mem_of_getElem? h1) c (List.mem_of_getElem? h2) _ _ _ _ (h i x j c v h1 h2 h3)
theorem Closed.pptr {cs : List AV} (hc : ∀ c ∈ cs, Closed c) : Closed (.pptr cs) := fun _ _ _ _ h => by
  cases h with
  | pptr _ b o cur e fz hb hL hs h => exact .pptr cs b o cur e fz hb hL hs fun i c v h1 h2 => hc c (List.mem_of_getElem? h1) _ _ _ _ (h i c v h1 h2)
theorem Closed.func {fn : Fn} {f1 c1 : List AV} (h1 : ∀ c ∈ f1, Closed c) (h2 : ∀ c ∈ c1, Closed c) : Closed (.func fn f1 c1) := fun _ _ _ _ h => by
  cases h with
  | func _ _ _ f2 c2 hl1 hl2 g1 g2 => exact .func fn f1 c1 f2 c2 hl1 hl2 (fun i c v q1 q2 => h1 c (List.mem_of_getElem? q1) _ _ _ _ (g1 i c v q1 q2)) (fun i c v q1 q2 => h2 c (List.mem_of_getElem? q1) _ _ _ _ (g2 i c v q1 q2))

/-- A value and what it is when all objects that it reaches are frozen; n: nothing is reached that was frozen before. -/
inductive Frz (h : AH) (n : Bool) : AV → AV → Prop where
  | undef (a : AV) : Frz h n a .undef
  | bool (b : Bool) : Frz h n (.bool b) (.bool b)
  | int (k : IntKind) (m : Int) : Frz h n (.int k m) (.int k m)
  | str (s : List UInt8) : Frz h n (.str s) (.str s)
  | nilptr : Frz h n .nilptr .nilptr
  | nilfunc : Frz h n .nilfunc .nilfunc
  | nilif : Frz h n .nilif .nilif
  | nilmap : Frz h n .nilmap .nilmap
  | nilsl0 : Frz h n .nilsl .nilsl
  | nilsl : Frz h n .nilsl (.psl [])
  | esl0 : Frz h n .esl .esl
  | esl : Frz h n .esl (.psl [])
  | gptr (g o : Nat) : Frz h n (.gptr g o) (.gptr g o)
  | agg (cs ds : List AV) (hl : cs.length = ds.length) (hc : ∀ (i : Nat) (c d : AV), cs[i]? = some c → ds[i]? = some d → Frz h n c d) : Frz h n (.agg cs) (.agg ds)
  | tup (cs ds : List AV) (hl : cs.length = ds.length) (hc : ∀ (i : Nat) (c d : AV), cs[i]? = some c → ds[i]? = some d → Frz h n c d) : Frz h n (.tup cs) (.tup ds)
  | psl0 : Frz h n (.psl []) (.psl [])
  | psl (hn : n = false) (xs ys : List (List AV)) (hl : xs.length = ys.length) (hx : ∀ (i : Nat) (x y : List AV), xs[i]? = some x → ys[i]? = some y → x.length = y.length)
      (hc : ∀ (i : Nat) (x y : List AV) (j : Nat) (c d : AV), xs[i]? = some x → ys[i]? = some y → x[j]? = some c → y[j]? = some d → Frz h n c d) : Frz h n (.psl xs) (.psl ys)
  | pptr (hn : n = false) (cs ds : List AV) (hl : cs.length = ds.length) (hc : ∀ (i : Nat) (c d : AV), cs[i]? = some c → ds[i]? = some d → Frz h n c d) : Frz h n (.pptr cs) (.pptr ds)
  | rsl (id off z : Nat) (cs : List AV) (ys : List (List AV)) (ho : h.cellsAt id = some cs) (hs : off + ys.length * z ≤ cs.length) (hz : ∀ (i : Nat) (y : List AV), ys[i]? = some y → y.length = z)
      (hc : ∀ (i : Nat) (y : List AV) (j : Nat) (c d : AV), ys[i]? = some y → y[j]? = some d → cs[off + i * z + j]? = some c → Frz h n c d) : Frz h n (.rsl id off ys.length z) (.psl ys)
  | ptr (id off : Nat) (cs ds : List AV) (ho : h.cellsAt id = some cs) (hs : off + ds.length ≤ cs.length) (hc : ∀ (i : Nat) (c d : AV), cs[off + i]? = some c → ds[i]? = some d → Frz h n c d) : Frz h n (.ptr id off) (.pptr ds)
  | func (fn : Fn) (f1 c1 f2 c2 : List AV) (hl1 : f1.length = f2.length) (hl2 : c1.length = c2.length) (h1 : ∀ (i : Nat) (c d : AV), f1[i]? = some c → f2[i]? = some d → Frz h n c d) (h2 : ∀ (i : Nat) (c d : AV), c1[i]? = some c → c2[i]? = some d → Frz h n c d) : Frz h n (.func fn f1 c1) (.func fn f2 c2)
  | iface (t : TypeId) (a b : AV) (hb : Frz h n a b) : Frz h n (.iface t a) (.iface t b)

theorem get_of_len {α β : Type} {l : List α} {m : List β} (h : l.length = m.length) {i : Nat} {x : β} (hx : m[i]? = some x) : ∃ y, l[i]? = some y := by
  have : i < m.length := (List.getElem?_eq_some_iff.1 hx).1
  exact ⟨l[i], by simp [h ▸ this]⟩

theorem cellsAt_get {h : AH} {id : Nat} {cs : List AV} (hc : h.cellsAt id = some cs) : h.H.get id = some (.cells cs) := by
  unfold AH.cellsAt at hc
  split at hc
  · rename_i o ho; cases hc; exact ho
  · cases hc

/-- What is frozen is related wherever the blocks of the objects, and what was frozen before, are not to be written. -/
theorem VR.frz {own : Nat → Prop} {β : Bl} {h : AH} {nx : Nat} {w : World} (hs : SimH own β h.H nx w) {L2 : Nat → Prop} {β2 : Bl} {n : Bool} (h1 : ∀ b, live β h.H b → ¬ L2 b) (h2 : n = false → ∀ b, ¬ LL own β h.H b → ¬ L2 b)
    {a a' : AV} (hf : Frz h n a a') : ∀ {v : Value}, VR w.heap (LL own β h.H) β a v → VR w.heap L2 β2 a' v := by
  induction hf with
  | undef a => intro v hv; exact .undef v
  | bool b => intro v hv; cases hv; exact .bool b
  | int k m => intro v hv; cases hv; exact .int k m
  | str s => intro v hv; cases hv; exact .str s
  | nilptr => intro v hv; cases hv; exact .nilptr
  | nilfunc => intro v hv; cases hv; exact .nilfunc
  | nilif => intro v hv; cases hv; exact .nilif
  | nilmap => intro v hv; cases hv; exact .nilmap
  | nilsl0 => intro v hv; cases hv; exact .nilsl
  | nilsl => intro v hv; cases hv; exact .psl0 _ _
  | esl0 => intro v hv; cases hv; exact .esl _
  | esl => intro v hv; cases hv; exact .psl0 _ _
  | gptr g o => intro v hv; cases hv; exact .gptr g o
  | agg cs ds hl hc ih =>
    intro v hv
    cases hv with
    | agg _ vs hl2 hv =>
      refine .agg ds vs (hl ▸ hl2) fun i d v hd hv' => ?_
      obtain ⟨c, hc'⟩ := get_of_len hl hd
      exact ih i c d hc' hd (hv i c v hc' hv')
  | tup cs ds hl hc ih =>
    intro v hv
    cases hv with
    | tup _ vs hl2 hv =>
      refine .tup ds vs (hl ▸ hl2) fun i d v hd hv' => ?_
      obtain ⟨c, hc'⟩ := get_of_len hl hd
      exact ih i c d hc' hd (hv i c v hc' hv')
  | psl0 => intro v hv; cases hv <;> exact .psl0 _ _
  | psl hn xs ys hl hx hc ih =>
    intro v hv
    cases hv with
    | psl0 a cap => cases ys with
      | nil => exact .psl0 a cap
      | cons y ys => simp at hl
    | psl _ z b o cap cur e fz hb hL hs' hz hcap hv =>
      rw [hl]
      refine .psl ys z b o cap cur e fz hb (h2 hn b hL) (hl ▸ hs') (fun i y hy => ?_) (hl ▸ hcap) fun i y j d v hy hd hv' => ?_
      · obtain ⟨x, hx'⟩ := get_of_len hl hy
        rw [← hx i x y hx' hy]; exact hz i x hx'
      · obtain ⟨x, hx'⟩ := get_of_len hl hy
        obtain ⟨c, hc'⟩ := get_of_len (hx i x y hx' hy) hd
        exact ih i x y j c d hx' hy hc' hd (hv i x j c v hx' hc' hv')
  | pptr hn cs ds hl hc ih =>
    intro v hv
    cases hv with
    | pptr _ b o cur e fz hb hL hs' hv =>
      refine .pptr ds b o cur e fz hb (h2 hn b hL) (hl ▸ hs') fun i d v hd hv' => ?_
      obtain ⟨c, hc'⟩ := get_of_len hl hd
      exact ih i c d hc' hd (hv i c v hc' hv')
  | rsl id off z cs ys ho hs' hz hc ih =>
    intro v hv
    obtain ⟨b, base, hb, hnb, cur, e, hcur, hcs, hcell⟩ := hs.obj id _ (cellsAt_get ho)
    have hlive : live β h.H b := ⟨id, _, base, cellsAt_get ho, hb⟩
    generalize hlen : ys.length = len at hv
    cases hv with
    | rsl _ _ _ _ b' base' cap cur' e' hb' hcur' hcap hm hs2 =>
      rw [hb] at hb'; cases hb'
      rw [hcur] at hcur'; cases hcur'
      subst hlen
      refine .psl ys z b (base + off) cap cur e (0, 0) hcur (h1 b hlive) (by omega) hz hcap fun i y j d v hy hd hv' => ?_
      have hi : i < ys.length := (List.getElem?_eq_some_iff.1 hy).1
      have hj : j < z := by rw [← hz i y hy]; exact (List.getElem?_eq_some_iff.1 hd).1
      have hb1 : i * z + z ≤ ys.length * z := by
        have := Nat.mul_le_mul_right z (show i + 1 ≤ ys.length by omega)
        rw [Nat.succ_mul] at this; exact this
      have hlt : off + i * z + j < cs.length := by omega
      exact ih i y j cs[off + i * z + j] d hy hd (by simp [hlt]) (hcell (off + i * z + j) _ v (by simp [hlt]) (by rw [← hv']; congr 1; omega))
    | rsl0 _ _ _ b' base' o hb' =>
      cases ys with
      | nil => exact .psl0 _ _
      | cons y ys => simp at hlen
  | ptr id off cs ds ho hs' hc ih =>
    intro v hv
    obtain ⟨b, base, hb, hnb, cur, e, hcur, hcs, hcell⟩ := hs.obj id _ (cellsAt_get ho)
    have hlive : live β h.H b := ⟨id, _, base, cellsAt_get ho, hb⟩
    cases hv with
    | ptr _ _ b' base' hb' =>
      rw [hb] at hb'; cases hb'
      refine .pptr ds b (base + off) cur e (0, 0) hcur (h1 b hlive) (by omega) fun i d v hd hv' => ?_
      have hi : i < ds.length := (List.getElem?_eq_some_iff.1 hd).1
      have hlt : off + i < cs.length := by omega
      exact ih i cs[off + i] d (by simp [hlt]) hd (hcell (off + i) _ v (by simp [hlt]) (by rw [← hv']; congr 1; omega))
  | func fn f1 c1 f2 c2 hl1 hl2 g1 g2 ih1 ih2 =>
    intro v hv
    cases hv with
    | func _ _ _ u1 u2 k1 k2 q1 q2 =>
      refine .func fn f2 c2 u1 u2 (hl1 ▸ k1) (hl2 ▸ k2) (fun i d v hd hv' => ?_) (fun i d v hd hv' => ?_)
      · obtain ⟨c, hc'⟩ := get_of_len hl1 hd
        exact ih1 i c d hc' hd (q1 i c v hc' hv')
      · obtain ⟨c, hc'⟩ := get_of_len hl2 hd
        exact ih2 i c d hc' hd (q2 i c v hc' hv')
  | iface t a b hb ih =>
    intro v hv
    cases hv with
    | iface _ _ v hv => exact .iface t b v (ih hv)

theorem live_emp (β : Bl) (b : Nat) : ¬ live β emp.H b := by
  rintro ⟨id, o, base, h, _⟩; simp [emp, PM.get] at h
theorem simH_emp {own : Nat → Prop} {w : World} (h : ∀ b, own b → b < w.heap.size) : SimH own noB emp.H emp.nx w :=
  ⟨fun _ _ => rfl, fun id b base h => by simp [noB] at h, h, fun id o h => by simp [emp, PM.get] at h, fun id id' o o' b x y h => by simp [emp, PM.get] at h⟩

theorem SimH.ll {own : Nat → Prop} {β : Bl} {H : Hp} {nx : Nat} {w : World} (hs : SimH own β H nx w) {b : Nat} (hb : LL own β H b) : b < w.heap.size := by
  rcases hb with h | ⟨id, o, base, _, h2⟩
  · exact hs.ownlt b h
  · exact hs.lt id b base h2

/-- A function that is run where nothing is owned, on arguments that are frozen here. -/
theorem frame {P : Program} {f : Nat} {args pargs : List AV} {h : AH} {n : Bool} {R : AV → AH → Prop} {v : AV} (hc : CallsA P f pargs emp R) (hR : ∀ v' h', R v' h' → Frz h' n v' v)
    (ha : (n = false ∧ pargs = args ∧ ∀ a ∈ args, Closed a) ∨ (n = true ∧ args.length = pargs.length ∧ ∀ (i : Nat) (a b : AV), args[i]? = some a → pargs[i]? = some b → Frz h false a b)) : CallD P f args h v h := by
  refine ⟨hc.1, fun own β w cargs hs hRL => ?_⟩
  have main : ∀ own' : Nat → Prop, (∀ b, own' b → b < w.heap.size) → RL w.heap (LL own' noB emp.H) noB pargs cargs.toList → (n = false → own' = LL own β h.H) →
      Calls P f cargs w fun e w' => ∃ cv v1 h1 β', e = .returned cv ∧ (v1 = v ∧ h1 = h) ∧ SimH own β' h1.H h1.nx w' ∧ VR w'.heap (LL own β' h1.H) β' v1 cv ∧ Trans own β h w β' h1 w' := by
    intro own' ho hp hn
    refine (hc.2 own' noB w cargs (simH_emp ho) hp).mono ?_
    rintro e w' ⟨cv, v0, h0, β0, rfl, hq, hs0, hv0, ht⟩
    have hkeep : ∀ b, b < w.heap.size → w'.heap[b]? = w.heap[b]? := fun b hb => ht.keep b hb (live_emp _ b)
    have hT : Trans own β h w β h w' := ⟨fun _ _ h => h, fun _ _ => rfl, Nat.le_refl _, ht.size, fun b hb _ => hkeep b hb, fun _ h => .inl h, fun b cur e fz hb => ⟨cur, by rw [hkeep b (lt_of_get hb)]; exact hb, rfl⟩, ht.os, ht.tape, ht.output⟩
    have hS : SimH own β h.H h.nx w' := by
      refine ⟨hs.fresh, fun id b base hb => Nat.lt_of_lt_of_le (hs.lt id b base hb) ht.size, fun b hb => Nat.lt_of_lt_of_le (hs.ownlt b hb) ht.size, fun id o hg => ?_, hs.inj⟩
      obtain ⟨b, base, hb, hnb, hor⟩ := hs.obj id o hg
      refine ⟨b, base, hb, hnb, ?_⟩
      have hlt := hs.lt id b base hb
      cases o with
      | cells cs =>
        obtain ⟨cur, e, q1, q2, q3⟩ := hor
        exact ⟨cur, e, by rw [hkeep b hlt]; exact q1, q2, fun i c v k1 k2 => (q3 i c v k1 k2).later hT.later⟩
      | map kvs =>
        obtain ⟨q0, es, q1, q2, q3⟩ := hor
        exact ⟨q0, es, by rw [hkeep b hlt]; exact q1, q2, fun i kv e k1 k2 => ⟨(q3 i kv e k1 k2).1.later hT.later, (q3 i kv e k1 k2).2.1.later hT.later, (q3 i kv e k1 k2).2.2⟩⟩
      | siter s pos => exact ⟨hor.1, by rw [hkeep b hlt]; exact hor.2⟩
      | glob g cs =>
        obtain ⟨q0, q00, cur, e, fz, q1, q2, q3⟩ := hor
        exact ⟨q0, q00, cur, e, fz, by rw [hkeep b hlt]; exact q1, q2, fun i c v k1 k2 => (q3 i c v k1 k2).later hT.later⟩
    refine ⟨cv, v, h, β, rfl, ⟨rfl, rfl⟩, hS, ?_, hT⟩
    refine VR.frz hs0 (fun b hb hl => ?_) (fun hn' b hb hl => ?_) (hR v0 h0 hq) hv0
    · rcases ht.live b hb with h1 | h1
      · exact live_emp _ b h1
      · have := hs.ll hl; omega
    · have := hn hn'
      subst this
      exact hb (.inl hl)
  rcases ha with ⟨hn, rfl, hcl⟩ | ⟨hn, hlen, hfz⟩
  · refine main (LL own β h.H) (fun b hb => hs.ll hb) ⟨hRL.1, fun i c v h1 h2 => ?_⟩ (fun _ => rfl)
    have := hcl c (List.mem_of_getElem? h1) _ _ _ _ (hRL.2 i c v h1 h2)
    have heq : LL (LL own β h.H) noB emp.H = LL own β h.H := by
      funext b
      apply propext
      exact ⟨fun hx => hx.elim id (fun hl => absurd hl (live_emp _ b)), .inl⟩
    rw [heq]; exact this
  · refine main (fun _ => False) (fun b hb => hb.elim) ⟨hlen ▸ hRL.1, fun i d v h1 h2 => ?_⟩ (fun h => by rw [hn] at h; cases h)
    obtain ⟨a, ha⟩ := get_of_len hlen h1
    exact VR.frz hs (fun b _ hl => hl.elim (fun h => h) (live_emp _ b)) (fun _ b _ hl => hl.elim (fun h => h) (live_emp _ b)) (hfz i a d ha h1) (hRL.2 i a v ha h2)

/-- wherever it is called with these arguments, it returns this value and leaves all objects as they are -/
def Pure (P : Program) (f : Nat) (args : List AV) (v : AV) : Prop := ∀ h, CallD P f args h v h
theorem Pure.of {P : Program} {f : Nat} {args : List AV} {v : AV} (hcl : ∀ a ∈ args, Closed a) (hc : CallsA P f args emp fun v' h' => Frz h' false v' v) : Pure P f args v :=
  fun _ => frame hc (fun _ _ h => h) (.inl ⟨rfl, rfl, hcl⟩)
/-- what it returns reaches nothing that was there before -/
def Fresh (P : Program) (f : Nat) (args : List AV) (v : AV) : Prop := CallsA P f args emp fun v' h' => Frz h' true v' v
theorem Fresh.call {P : Program} {f : Nat} {args pargs : List AV} {v : AV} {h : AH} (hf : Fresh P f pargs v) (hlen : args.length = pargs.length) (ha : ∀ (i : Nat) (a b : AV), args[i]? = some a → pargs[i]? = some b → Frz h false a b) : CallD P f args h v h :=
  frame hf (fun _ _ h => h) (.inr ⟨rfl, hlen, ha⟩)
end Go.Eng
end
noncomputable section
namespace Go.Eng
open Go.RowKit
/-! ## cells off a datum -/
mutual
def flatD {H : Type} (P : Program) : Nat → TypeId → DataW H → Option (List AV)
  | 0, _, _ => none
  | n + 1, t, d => match P.underlying t with
    | some .bool => match d with
      | .lit (.bool b) => some [.bool b]
      | _ => none
    | some (.int k) => match d with
      | .lit (.int k' m) => if k' = k then some [.int k m] else none
      | _ => none
    | some (.array len e) => match d with
      | .agg ds => if ds.length = len ∧ P.cellsOf t = len * P.cellsOf e then flatA P n e (P.cellsOf e) ds else none
      | _ => none
    | some (.struct fs) => match d with
      | .agg ds => match flatS P n fs.toList 0 ds with
        | some al => if al.length = P.cellsOf t then some al else none
        | none => none
      | _ => none
    | _ => none
def flatA {H : Type} (P : Program) : Nat → TypeId → Nat → List (DataW H) → Option (List AV)
  | _, _, _, [] => some []
  | n, e, z, d :: ds => match flatD P n e d, flatA P n e z ds with
    | some a, some b => if a.length = z then some (a ++ b) else none
    | _, _ => none
def flatS {H : Type} (P : Program) : Nat → List Field → Nat → List (DataW H) → Option (List AV)
  | _, [], _, [] => some []
  | n, f :: fs, o, d :: ds => match flatD P n f.type d with
    | some a => if f.offset = o ∧ a.length = P.cellsOf f.type then (match flatS P n fs (o + a.length) ds with
      | some b => some (a ++ b)
      | none => none) else none
    | none => none
  | _, _, _, _ => none
end
section
variable {H : Type} {enc : TypeId × Value → H} {P : Program} {w : World} {base : Nat} {spare : Nat → Bool} {held : Bool} {hp : Array Obj} {L : Nat → Prop} {β : Bl}
theorem RL.take_drop {al bs : List AV} {cs : List Value} {z : Nat} (h1 : RL hp L β al (cs.take z)) (hz : al.length = z) (h2 : RL hp L β bs (cs.drop z)) : RL hp L β (al ++ bs) cs := by
  have := h1.append h2
  rwa [List.take_append_drop] at this

theorem flatA_RL {n m : Nat} {e : TypeId} (ih : ∀ (cs : List Value) (d : DataW H) (p : List MemPlace) (al : List AV), DataW.trod enc P w base spare held m e cs = some (d, p) → flatD P n e d = some al → RL hp L β al cs) :
    ∀ (xs : List (DataW H × List MemPlace)) (cs : List Value) (al : List AV), cs.length = xs.length * P.cellsOf e → (∀ i, i < xs.length → DataW.trod enc P w base spare held m e ((cs.drop (i * P.cellsOf e)).take (P.cellsOf e)) = xs[i]?) →
      flatA P n e (P.cellsOf e) (xs.map (·.1)) = some al → RL hp L β al cs
  | [], cs, al, hl, hx, hf => by
    simp [flatA] at hf
    subst hf
    have : cs = [] := List.length_eq_zero_iff.1 (by simpa using hl)
    subst this
    exact .nil
  | x :: xs, cs, al, hl, hx, hf => by
    simp only [List.map_cons, flatA] at hf
    split at hf
    · rename_i a b ha hb
      split at hf
      · rename_i hz
        cases hf
        have h0 := hx 0 (by simp)
        simp at h0
        obtain ⟨d, p⟩ := x
        have r1 := ih _ d p a h0 ha
        refine r1.take_drop hz (flatA_RL ih xs _ _ ?_ (fun i hi => ?_) hb)
        · simp only [List.length_drop, hl, List.length_cons, Nat.succ_mul]; omega
        · have := hx (i + 1) (by simp; omega)
          rw [Nat.succ_mul] at this
          rw [List.drop_drop, Nat.add_comm]
          simpa using this
      · cases hf
    · cases hf
theorem flatS_RL {n m : Nat} (ih : ∀ (t : TypeId) (cs : List Value) (d : DataW H) (p : List MemPlace) (al : List AV), DataW.trod enc P w base spare held m t cs = some (d, p) → flatD P n t d = some al → RL hp L β al cs) :
    ∀ (fs : List Field) (xs : List (DataW H × List MemPlace)) (o : Nat) (cs : List Value) (al : List AV), al.length = cs.length → (∀ (i : Nat) (f : Field), fs[i]? = some f → ∃ x, xs[i]? = some x ∧ o ≤ f.offset ∧ DataW.trod enc P w base spare held m f.type ((cs.drop (f.offset - o)).take (P.cellsOf f.type)) = some x) →
      flatS P n fs o (xs.map (·.1)) = some al → RL hp L β al cs
  | [], [], o, cs, al, hl, hx, hf => by
    simp [flatS] at hf
    subst hf
    have : cs = [] := List.length_eq_zero_iff.1 (by simpa using hl.symm)
    subst this
    exact .nil
  | [], x :: xs, o, cs, al, hl, hx, hf => by simp [flatS] at hf
  | f :: fs, [], o, cs, al, hl, hx, hf => by simp [flatS] at hf
  | f :: fs, x :: xs, o, cs, al, hl, hx, hf => by
    simp only [List.map_cons, flatS] at hf
    split at hf
    · rename_i a ha
      split at hf
      · rename_i hc
        obtain ⟨hof, hz⟩ := hc
        split at hf
        · rename_i b hb
          cases hf
          obtain ⟨x', h1, h2, h3⟩ := hx 0 f rfl
          simp at h1
          subst h1
          rw [hof, Nat.sub_self, List.drop_zero] at h3
          obtain ⟨d, p⟩ := x
          have r1 := ih _ _ d p a h3 ha
          refine r1.take_drop hz (flatS_RL ih fs xs _ _ _ ?_ (fun i g hg => ?_) hb)
          · simp at hl ⊢; omega
          · obtain ⟨y, q1, q2, q3⟩ := hx (i + 1) g (by simpa using hg)
            have hmono : o + a.length ≤ g.offset := by
              -- offsets go up: off the form of flatS
              clear q3
              have : ∀ (fs : List Field) (ds : List (DataW H)) (o : Nat) (b : List AV), flatS P n fs o ds = some b → ∀ (i : Nat) (g : Field), fs[i]? = some g → o ≤ g.offset := by
                intro fs
                induction fs with
                | nil => intro ds o b _ i g hg; simp at hg
                | cons f fs ihf =>
                  intro ds o b hb i g hg
                  cases ds with
                  | nil => simp [flatS] at hb
                  | cons d ds =>
                  simp only [flatS] at hb
                  split at hb
                  · split at hb
                    · rename_i hc
                      split at hb
                      · rename_i b' hb'
                        cases i with
                        | zero => simp at hg; subst hg; omega
                        | succ i => have := ihf _ _ _ hb' i g (by simpa using hg); omega
                      · cases hb
                    · cases hb
                  · cases hb
              exact this _ _ _ _ hb i g hg
            refine ⟨y, by simpa using q1, hmono, ?_⟩
            rw [← hz, List.drop_drop, show a.length + (g.offset - (o + a.length)) = g.offset - o by omega]
            exact q3
        · cases hf
      · cases hf
    · cases hf

theorem flatD_RL : ∀ (n m : Nat) (t : TypeId) (cs : List Value) (d : DataW H) (p : List MemPlace) (al : List AV), DataW.trod enc P w base spare held m t cs = some (d, p) → flatD P n t d = some al → RL hp L β al cs
  | 0, m, t, cs, d, p, al, ht, hf => by simp [flatD] at hf
  | n + 1, m, t, cs, d, p, al, ht, hf => by
    unfold flatD at hf
    split at hf
    · rename_i hu
      obtain ⟨b, rfl, hx⟩ := DataW.trod_bool hu ht
      cases hx
      cases hf
      exact .cons (.bool _) .nil
    · rename_i k hu
      obtain ⟨q, rfl, hx, _⟩ := DataW.trod_int hu ht
      cases hx
      simp only [if_true] at hf
      cases hf
      exact .cons (.int _ _) .nil
    · rename_i len e hu
      obtain ⟨xs, m1, rfl, hx, hcl, hxl, hel⟩ := DataW.trod_array hu ht
      cases hx
      simp only at hf
      split at hf
      · rename_i hc
        exact flatA_RL (n := n) (fun cs d p al h1 h2 => flatD_RL n m1 e cs d p al h1 h2) xs cs al (by rw [hcl, hc.2, hxl]) (fun i hi => hel i (by omega)) hf
      · cases hf
    · rename_i fs hu
      obtain ⟨xs, m1, rfl, hx, hcl, hxl, hel⟩ := DataW.trod_struct hu ht
      cases hx
      simp only at hf
      split at hf
      · rename_i al' h1
        split at hf
        · rename_i hl
          cases hf
          refine flatS_RL (n := n) (fun t cs d p al h1 h2 => flatD_RL n m1 t cs d p al h1 h2) fs.toList xs 0 cs al (by rw [hl, hcl]) (fun i f hi => ?_) h1
          have hi' : fs[i]? = some f := by simpa using hi
          have hlt : i < xs.length := by rw [hxl]; exact (Array.getElem?_eq_some_iff.1 hi').1
          have := hel i f hi'
          rw [List.getElem?_eq_getElem hlt] at this
          exact ⟨xs[i], by simp [hlt], Nat.zero_le _, by simpa using this⟩
        · cases hf
      · cases hf
    · cases hf
end
/-! ## a run where one variable is laid, and some numbers are known by bounds alone -/
def gB (g : Nat) (gs : List Nat) : Bl := fun id => if id = g then some (g, 0) else if g < id then (gs[id - (g + 1)]?).map fun n => (g, n) else none
def gH (g : Nat) (cs : List AV) (k : Nat) : AH := ⟨PM.put .leaf g (.glob g cs), g + 1 + k⟩
def plainAV : AV → Bool
  | .bool _ | .int _ _ => true
  | _ => false
theorem plain_eq {hp hp' : Array Obj} {L L' : Nat → Prop} {β β' : Bl} {a : AV} {v v' : Value} (hp1 : plainAV a = true) (h : VR hp L β a v) (h' : VR hp' L' β' a v') : v = v' := by
  cases a <;> simp [plainAV] at hp1 <;> cases h <;> cases h' <;> rfl
theorem gH_get {g : Nat} {cs : List AV} {k id : Nat} {o : AObj} (h : (gH g cs k).H.get id = some o) : id = g ∧ o = .glob g cs := by
  unfold gH at h
  simp only [PM.get_put] at h
  split at h
  · rename_i hid; cases h; exact ⟨hid, rfl⟩
  · simp [PM.get] at h
theorem gB_ghost {g : Nat} {gs : List Nat} {i n : Nat} (h : gs[i]? = some n) : gB g gs (g + 1 + i) = some (g, n) := by
  unfold gB
  rw [if_neg (by omega), if_pos (by omega), show g + 1 + i - (g + 1) = i by omega, h]; rfl
/-- 'true', and the variable reads as it did -/
def okR (g : Nat) (cs : List AV) : Option (AV × AH) → Bool
  | some (.bool true, h) => match h.globAt g with
    | some l => AV.beqL l cs
    | none => false
  | _ => false
theorem run_glob {P : Program} {cl : Handler} (hcl : FOk P cl) {f g : Nat} {pargs cs : List AV} {gs : List Nat} (hrun : okR g cs (cl f pargs (gH g cs gs.length)) = true) (hpl : cs.all plainAV = true)
    {W : World} {cargs : Array Value} {cur : Array Value} {e : TypeId} {fz : Nat × Nat} (hb : W.heap[g]? = some (.cells cur e fz)) (hcs : RL W.heap (fun _ => False) noB cs cur.toList)
    (hR : ∀ (hp : Array Obj) (L : Nat → Prop) (β : Bl), (∀ i n, gs[i]? = some n → β (g + 1 + i) = some (g, n)) → RL hp L β pargs cargs.toList) :
    Calls P f cargs W fun e W' => e = .returned (.bool true) ∧ Below W.heap.size W W' := by
  unfold okR at hrun
  split at hrun
  case h_2 => cases hrun
  rename_i h' hr
  split at hrun
  case h_2 => cases hrun
  rename_i l hl
  have hl' : l = cs := AV.beqL_eq _ _ hrun
  subst hl'
  have hg : h'.H.get g = some (.glob g l) := by
    unfold AH.globAt at hl
    split at hl
    · rename_i g' cs' hq
      split at hl
      · rename_i hgg; subst hgg; cases hl; exact hq
      · cases hl
    · cases hl
  have hlt := lt_of_get hb
  have hpv : ∀ (i : Nat) (c : AV) (hp : Array Obj) (L : Nat → Prop) (β : Bl) (v : Value), l[i]? = some c → cur[i]? = some v → VR hp L β c v := by
    intro i c hp L β v hc hv
    have h1 := hcs.2 i c v hc (by simpa using hv)
    have hpc : plainAV c = true := List.all_eq_true.1 hpl c (List.mem_of_getElem? hc)
    cases c <;> simp [plainAV] at hpc <;> cases h1
    · exact .bool _
    · exact .int _ _
  have hS : SimH (fun _ => False) (gB g gs) (gH g l gs.length).H (gH g l gs.length).nx W := by
    refine ⟨fun id hid => ?_, fun id b base hb' => ?_, fun b hb => hb.elim, fun id o ho => ?_, fun id id' o o' b x y h1 h2 _ _ => (gH_get h1).1.trans (gH_get h2).1.symm⟩
    · simp only [gH] at hid
      unfold gB
      rw [if_neg (by omega), if_pos (by omega), List.getElem?_eq_none (by omega)]; rfl
    · unfold gB at hb'
      split at hb'
      · cases hb'; exact hlt
      · split at hb'
        · rw [Option.map_eq_some_iff] at hb'
          obtain ⟨n, _, he⟩ := hb'
          cases he; exact hlt
        · cases hb'
    · obtain ⟨rfl, rfl⟩ := gH_get ho
      refine ⟨id, 0, by simp [gB], fun hf => hf.elim, rfl, rfl, cur, e, fz, hb, ?_, fun i c v hc hv => hpv i c _ _ _ v hc hv⟩
      have := hcs.1
      simp at this
      omega
  refine ((hcl f pargs _ _ _ hr).2 (fun _ => False) (gB g gs) W cargs hS (hR _ _ _ fun i n hi => gB_ghost hi)).mono ?_
  rintro ee W' ⟨cv, v, h2, β', rfl, ⟨rfl, rfl⟩, hS', hv, ht⟩
  cases hv
  refine ⟨rfl, ht.os, ht.tape, ht.output, ht.size, fun k hk => ?_⟩
  by_cases hkg : k = g
  · subst hkg
    obtain ⟨b, base, h1, _, h0, h3, cur', e', fz', h4, h5, h6⟩ := hS'.obj k _ hg
    subst h3
    obtain ⟨cur2, h7, h8⟩ := ht.shape _ _ _ _ hb
    rw [h7] at h4
    cases h4
    rw [h7, hb]
    have : cur' = cur := by
      apply Array.ext h8
      intro i hi1 hi2
      have hlen := hcs.1
      simp at hlen
      have hc : l[i]? = some l[i] := List.getElem?_eq_getElem (by omega)
      exact plain_eq (List.all_eq_true.1 hpl _ (List.mem_of_getElem? hc)) (h6 i _ _ hc (Array.getElem?_eq_getElem hi1)) (hpv i _ W.heap (fun _ => False) noB _ hc (Array.getElem?_eq_getElem hi2))
    rw [this]
  · refine ht.keep k hk ?_
    rintro ⟨id, o, base, h1, h2⟩
    obtain ⟨rfl, rfl⟩ := gH_get h1
    simp [gB] at h2
    exact hkg h2.1.symm
/-- a number by its bounds -/
theorem VR.byte {hp : Array Obj} {L : Nat → Prop} {β : Bl} {k : IntKind} {i b : Nat} {n lo hi : Int} (h : β i = some (b, n.toNat)) (h0 : 0 ≤ n) (h1 : lo ≤ n) (h2 : n ≤ hi) : VR hp L β (.sint k 0 i 0 lo hi) (.int k n) := by
  have e : ((n.toNat % 0 : Nat) : Int) + 0 = n := by rw [Nat.mod_zero]; omega
  have := VR.sint (hp := hp) (L := L) k 0 i 0 lo hi b n.toNat h (by rw [e]; exact h1) (by rw [e]; exact h2)
  rwa [e] at this
end Go.Eng
end
