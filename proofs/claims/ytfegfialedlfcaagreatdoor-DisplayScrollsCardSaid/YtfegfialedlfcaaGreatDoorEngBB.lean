/- The words of the printed functions. Pure contracts: a function that is run where no object is owned may be called wherever its arguments are frozen. How the words of the printed functions are simplified. A call whose arguments are frozen for the call, and whose result is one new object that the caller owns. -/
import Derived.Test.YtfegfialedlfcaaGreatDoorEngW
set_option linter.unusedSimpArgs false
set_option linter.unusedVariables false
set_option linter.unnecessarySimpa false
noncomputable section
namespace Go.Eng
def gdv (b : Bool) (v : AV) : Option Bool :=
  match some v with
  | some (.bool c) => some (c == b)
  | some (.tup []) => some false
  | _ => none
def rdv (a : AV) : Option Nat :=
  match a with
  | .ptr id _ => some id
  | .gptr g _ => some g
  | _ => none
def alNew (zero : List AV) : Option (AObj × (Nat → AV)) := some (.cells zero, fun r => .ptr r 0)
def alBuildSl (z len : Nat) (zero : List AV) (parts : List (Nat × Nat × AV)) : Option (AObj × (Nat → AV)) :=
  match afill zero parts with
  | some cs => some (.cells cs, fun r => .rsl r 0 len z)
  | none => none
def wdr (h : AH) (n : Nat) (k : Nat → AH → Prop) : Prop := k h.nx ⟨h.H, h.nx + n⟩
def wda (r : Nat) (h : AH) (x : Option (AObj × (Nat → AV))) (k : AV → Rec → AH → Prop) : Prop := wal x fun cs mk => k (mk r) (.alloc r cs) (h.set r cs)
def wdp (h : AH) (x : Option (AV × AH)) (c : Rec) (k : AV → Rec → AH → Prop) : Prop := wk x fun v _ => k v c h
def wde (h : AH) (x : Option (AV × AH)) (k : AV → Rec → AH → Prop) : Prop := wk x fun v h' => h.nx ≤ h'.nx ∧ k v (.eff h h') h'
def wdc (cl : CL) (f : AV) (args : List AV) (h : AH) (k : AV → Rec → AH → Prop) : Prop := wcall cl f args h fun v h' => h.nx ≤ h'.nx ∧ k v (.eff h h') h'
inductive RV where
  | val (v : AV)
  | cell (a : AV) (n : Option Nat)
def aresV (h : AH) : List RV → Option (List AV)
  | [] => some []
  | .val v :: r => match aresV h r with
    | some l => some (v :: l)
    | none => none
  | .cell a n :: r =>
    match (match n with
      | none => aload1 h a
      | some n => (aloadn h n a).map .agg), aresV h r with
    | some v, some l => some (v :: l)
    | _, _ => none
end Go.Eng
end
noncomputable section
namespace Go.Eng
def emp : AH := ⟨.leaf, 0⟩
def noB : Bl := fun _ => none

/-- a value in which nothing owned occurs -/
def Closed (a : AV) : Prop := ∀ (hp : Array Obj) (L : Nat → Prop) (β : Bl) (v : Value), VR hp L β a v → VR hp L noB a v

theorem Closed.bool (b : Bool) : Closed (.bool b) := fun _ _ _ _ h => by cases h; exact .bool b
theorem Closed.int (k : IntKind) (n : Int) : Closed (.int k n) := fun _ _ _ _ h => by cases h; exact .int k n
theorem Closed.str (s : List UInt8) : Closed (.str s) := fun _ _ _ _ h => by cases h; exact .str s
theorem Closed.nilsl : Closed .nilsl := fun _ _ _ _ h => by cases h; exact .nilsl
theorem Closed.agg {cs : List AV} (hc : ∀ c ∈ cs, Closed c) : Closed (.agg cs) := fun _ _ _ _ h => by
  cases h with
  | agg _ vs hl h => exact .agg cs vs hl fun i c v h1 h2 => hc c (List.mem_of_getElem? h1) _ _ _ _ (h i c v h1 h2)
theorem Closed.psl {xs : List (List AV)} (hc : ∀ x ∈ xs, ∀ c ∈ x, Closed c) : Closed (.psl xs) := fun _ _ _ _ h => by
  cases h with
  | psl0 a cap => exact .psl0 a cap
  | psl _ z b o cap cur e fz hb hL hs hz hcap h => exact .psl xs z b o cap cur e fz hb hL hs hz hcap fun i x j c v h1 h2 h3 => hc x (List.mem_of_getElem? h1) c (List.mem_of_getElem? h2) _ _ _ _ (h i x j c v h1 h2 h3)
/-- A value and what it is when all objects that it reaches are frozen; n: nothing is reached that was frozen before. -/
inductive Frz (h : AH) (n : Bool) : AV → AV → Prop where
  | undef (a : AV) : Frz h n a .undef
  | bool (b : Bool) : Frz h n (.bool b) (.bool b)
  | int (k : IntKind) (m : Int) : Frz h n (.int k m) (.int k m)
  | str (s : List UInt8) : Frz h n (.str s) (.str s)
  | nilptr : Frz h n .nilptr .nilptr
  | nilfunc : Frz h n .nilfunc .nilfunc
  | nilif : Frz h n .nilif .nilif
  | nilmap : Frz h n .nilmap .nilmap
  | nilsl0 : Frz h n .nilsl .nilsl
  | nilsl : Frz h n .nilsl (.psl [])
  | esl0 : Frz h n .esl .esl
  | esl : Frz h n .esl (.psl [])
  | gptr (g o : Nat) : Frz h n (.gptr g o) (.gptr g o)
  | agg (cs ds : List AV) (hl : cs.length = ds.length) (hc : ∀ (i : Nat) (c d : AV), cs[i]? = some c → ds[i]? = some d → Frz h n c d) : Frz h n (.agg cs) (.agg ds)
  | tup (cs ds : List AV) (hl : cs.length = ds.length) (hc : ∀ (i : Nat) (c d : AV), cs[i]? = some c → ds[i]? = some d → Frz h n c d) : Frz h n (.tup cs) (.tup ds)
  | psl0 : Frz h n (.psl []) (.psl [])
  | psl (hn : n = false) (xs ys : List (List AV)) (hl : xs.length = ys.length) (hx : ∀ (i : Nat) (x y : List AV), xs[i]? = some x → ys[i]? = some y → x.length = y.length)
      (hc : ∀ (i : Nat) (x y : List AV) (j : Nat) (c d : AV), xs[i]? = some x → ys[i]? = some y → x[j]? = some c → y[j]? = some d → Frz h n c d) : Frz h n (.psl xs) (.psl ys)
  | pptr (hn : n = false) (cs ds : List AV) (hl : cs.length = ds.length) (hc : ∀ (i : Nat) (c d : AV), cs[i]? = some c → ds[i]? = some d → Frz h n c d) : Frz h n (.pptr cs) (.pptr ds)
  | rsl (id off z : Nat) (cs : List AV) (ys : List (List AV)) (ho : h.cellsAt id = some cs) (hs : off + ys.length * z ≤ cs.length) (hz : ∀ (i : Nat) (y : List AV), ys[i]? = some y → y.length = z)
      (hc : ∀ (i : Nat) (y : List AV) (j : Nat) (c d : AV), ys[i]? = some y → y[j]? = some d → cs[off + i * z + j]? = some c → Frz h n c d) : Frz h n (.rsl id off ys.length z) (.psl ys)
  | ptr (id off : Nat) (cs ds : List AV) (ho : h.cellsAt id = some cs) (hs : off + ds.length ≤ cs.length) (hc : ∀ (i : Nat) (c d : AV), cs[off + i]? = some c → ds[i]? = some d → Frz h n c d) : Frz h n (.ptr id off) (.pptr ds)
  | func (fn : Fn) (f1 c1 f2 c2 : List AV) (hl1 : f1.length = f2.length) (hl2 : c1.length = c2.length) (h1 : ∀ (i : Nat) (c d : AV), f1[i]? = some c → f2[i]? = some d → Frz h n c d) (h2 : ∀ (i : Nat) (c d : AV), c1[i]? = some c → c2[i]? = some d → Frz h n c d) : Frz h n (.func fn f1 c1) (.func fn f2 c2)
  | iface (t : TypeId) (a b : AV) (hb : Frz h n a b) : Frz h n (.iface t a) (.iface t b)

theorem get_of_len {α β : Type} {l : List α} {m : List β} (h : l.length = m.length) {i : Nat} {x : β} (hx : m[i]? = some x) : ∃ y, l[i]? = some y := by
  have : i < m.length := (List.getElem?_eq_some_iff.1 hx).1
  exact ⟨l[i], by simp [h ▸ this]⟩

theorem cellsAt_get {h : AH} {id : Nat} {cs : List AV} (hc : h.cellsAt id = some cs) : h.H.get id = some (.cells cs) := by
  unfold AH.cellsAt at hc
  split at hc
  · rename_i o ho; cases hc; exact ho
  · cases hc

/-- What is frozen is related wherever the blocks of the objects, and what was frozen before, are not to be written. -/
theorem VR.frz {own : Nat → Prop} {β : Bl} {h : AH} {nx : Nat} {w : World} (hs : SimH own β h.H nx w) {L2 : Nat → Prop} {β2 : Bl} {n : Bool} (h1 : ∀ b, live β h.H b → ¬ L2 b) (h2 : n = false → ∀ b, ¬ LL own β h.H b → ¬ L2 b)
    {a a' : AV} (hf : Frz h n a a') : ∀ {v : Value}, VR w.heap (LL own β h.H) β a v → VR w.heap L2 β2 a' v := by
  induction hf with
  | undef a => intro v hv; exact .undef v
  | bool b => intro v hv; cases hv; exact .bool b
  | int k m => intro v hv; cases hv; exact .int k m
  | str s => intro v hv; cases hv; exact .str s
  | nilptr => intro v hv; cases hv; exact .nilptr
  | nilfunc => intro v hv; cases hv; exact .nilfunc
  | nilif => intro v hv; cases hv; exact .nilif
  | nilmap => intro v hv; cases hv; exact .nilmap
  | nilsl0 => intro v hv; cases hv; exact .nilsl
  | nilsl => intro v hv; cases hv; exact .psl0 _ _
  | esl0 => intro v hv; cases hv; exact .esl _
  | esl => intro v hv; cases hv; exact .psl0 _ _
  | gptr g o => intro v hv; cases hv; exact .gptr g o
  | agg cs ds hl hc ih =>
    intro v hv
    cases hv with
    | agg _ vs hl2 hv =>
      refine .agg ds vs (hl ▸ hl2) fun i d v hd hv' => ?_
      obtain ⟨c, hc'⟩ := get_of_len hl hd
      exact ih i c d hc' hd (hv i c v hc' hv')
  | tup cs ds hl hc ih =>
    intro v hv
    cases hv with
    | tup _ vs hl2 hv =>
      refine .tup ds vs (hl ▸ hl2) fun i d v hd hv' => ?_
      obtain ⟨c, hc'⟩ := get_of_len hl hd
      exact ih i c d hc' hd (hv i c v hc' hv')
  | psl0 => intro v hv; cases hv <;> exact .psl0 _ _
  | psl hn xs ys hl hx hc ih =>
    intro v hv
    cases hv with
    | psl0 a cap => cases ys with
      | nil => exact .psl0 a cap
      | cons y ys => simp at hl
    | psl _ z b o cap cur e fz hb hL hs' hz hcap hv =>
      rw [hl]
      refine .psl ys z b o cap cur e fz hb (h2 hn b hL) (hl ▸ hs') (fun i y hy => ?_) (hl ▸ hcap) fun i y j d v hy hd hv' => ?_
      · obtain ⟨x, hx'⟩ := get_of_len hl hy
        rw [← hx i x y hx' hy]; exact hz i x hx'
      · obtain ⟨x, hx'⟩ := get_of_len hl hy
        obtain ⟨c, hc'⟩ := get_of_len (hx i x y hx' hy) hd
        exact ih i x y j c d hx' hy hc' hd (hv i x j c v hx' hc' hv')
  | pptr hn cs ds hl hc ih =>
    intro v hv
    cases hv with
    | pptr _ b o cur e fz hb hL hs' hv =>
      refine .pptr ds b o cur e fz hb (h2 hn b hL) (hl ▸ hs') fun i d v hd hv' => ?_
      obtain ⟨c, hc'⟩ := get_of_len hl hd
      exact ih i c d hc' hd (hv i c v hc' hv')
  | rsl id off z cs ys ho hs' hz hc ih =>
    intro v hv
    obtain ⟨b, base, hb, hnb, cur, e, hcur, hcs, hcell⟩ := hs.obj id _ (cellsAt_get ho)
    have hlive : live β h.H b := ⟨id, _, base, cellsAt_get ho, hb⟩
    generalize hlen : ys.length = len at hv
    cases hv with
    | rsl _ _ _ _ b' base' cap cur' e' fz' hb' hcur' hcap hm hs2 =>
      rw [hb] at hb'; cases hb'
      rw [hcur] at hcur'; cases hcur'
      subst hlen
      refine .psl ys z b (base + off) cap cur e (0, 0) hcur (h1 b hlive) (by omega) hz hcap fun i y j d v hy hd hv' => ?_
      have hi : i < ys.length := (List.getElem?_eq_some_iff.1 hy).1
      have hj : j < z := by rw [← hz i y hy]; exact (List.getElem?_eq_some_iff.1 hd).1
      have hb1 : i * z + z ≤ ys.length * z := by
        have := Nat.mul_le_mul_right z (show i + 1 ≤ ys.length by omega)
        rw [Nat.succ_mul] at this; exact this
      have hlt : off + i * z + j < cs.length := by omega
      exact ih i y j cs[off + i * z + j] d hy hd (by simp [hlt]) (hcell (off + i * z + j) _ v (by simp [hlt]) (by rw [← hv']; congr 1; omega))
    | rsl0 _ _ _ b' base' o hb' =>
      cases ys with
      | nil => exact .psl0 _ _
      | cons y ys => simp at hlen
  | ptr id off cs ds ho hs' hc ih =>
    intro v hv
    obtain ⟨b, base, hb, hnb, cur, e, hcur, hcs, hcell⟩ := hs.obj id _ (cellsAt_get ho)
    have hlive : live β h.H b := ⟨id, _, base, cellsAt_get ho, hb⟩
    cases hv with
    | ptr _ _ b' base' hb' =>
      rw [hb] at hb'; cases hb'
      refine .pptr ds b (base + off) cur e (0, 0) hcur (h1 b hlive) (by omega) fun i d v hd hv' => ?_
      have hi : i < ds.length := (List.getElem?_eq_some_iff.1 hd).1
      have hlt : off + i < cs.length := by omega
      exact ih i cs[off + i] d (by simp [hlt]) hd (hcell (off + i) _ v (by simp [hlt]) (by rw [← hv']; congr 1; omega))
  | func fn f1 c1 f2 c2 hl1 hl2 g1 g2 ih1 ih2 =>
    intro v hv
    cases hv with
    | func _ _ _ u1 u2 k1 k2 q1 q2 =>
      refine .func fn f2 c2 u1 u2 (hl1 ▸ k1) (hl2 ▸ k2) (fun i d v hd hv' => ?_) (fun i d v hd hv' => ?_)
      · obtain ⟨c, hc'⟩ := get_of_len hl1 hd
        exact ih1 i c d hc' hd (q1 i c v hc' hv')
      · obtain ⟨c, hc'⟩ := get_of_len hl2 hd
        exact ih2 i c d hc' hd (q2 i c v hc' hv')
  | iface t a b hb ih =>
    intro v hv
    cases hv with
    | iface _ _ v hv => exact .iface t b v (ih hv)

theorem live_emp (β : Bl) (b : Nat) : ¬ live β emp.H b := by
  rintro ⟨id, o, base, h, _⟩; simp [emp, PM.get] at h
theorem simH_emp {own : Nat → Prop} {w : World} (h : ∀ b, own b → b < w.heap.size) : SimH own noB emp.H emp.nx w :=
  ⟨fun _ _ => rfl, fun id b base h => by simp [noB] at h, h, fun id o h => by simp [emp, PM.get] at h, fun id id' o o' b x y h => by simp [emp, PM.get] at h⟩

theorem SimH.ll {own : Nat → Prop} {β : Bl} {H : Hp} {nx : Nat} {w : World} (hs : SimH own β H nx w) {b : Nat} (hb : LL own β H b) : b < w.heap.size := by
  rcases hb with h | ⟨id, o, base, _, h2⟩
  · exact hs.ownlt b h
  · exact hs.lt id b base h2

/-- A function that is run where nothing is owned, on arguments that are frozen here. -/
theorem frame {P : Program} {f : Nat} {args pargs : List AV} {h : AH} {n : Bool} {R : AV → AH → Prop} {v : AV} (hc : CallsA P f pargs emp R) (hR : ∀ v' h', R v' h' → Frz h' n v' v)
    (ha : (n = false ∧ pargs = args ∧ ∀ a ∈ args, Closed a) ∨ (n = true ∧ args.length = pargs.length ∧ ∀ (i : Nat) (a b : AV), args[i]? = some a → pargs[i]? = some b → Frz h false a b)) : CallD P f args h v h := by
  refine ⟨hc.1, fun own β w cargs hs hRL => ?_⟩
  have main : ∀ own' : Nat → Prop, (∀ b, own' b → b < w.heap.size) → RL w.heap (LL own' noB emp.H) noB pargs cargs.toList → (n = false → own' = LL own β h.H) →
      Calls P f cargs w fun e w' => ∃ cv v1 h1 β', e = .returned cv ∧ (v1 = v ∧ h1 = h) ∧ SimH own β' h1.H h1.nx w' ∧ VR w'.heap (LL own β' h1.H) β' v1 cv ∧ Trans own β h w β' h1 w' := by
    intro own' ho hp hn
    refine (hc.2 own' noB w cargs (simH_emp ho) hp).mono ?_
    rintro e w' ⟨cv, v0, h0, β0, rfl, hq, hs0, hv0, ht⟩
    have hkeep : ∀ b, b < w.heap.size → w'.heap[b]? = w.heap[b]? := fun b hb => ht.keep b hb (live_emp _ b)
    have hT : Trans own β h w β h w' := ⟨fun _ _ h => h, fun _ _ => rfl, Nat.le_refl _, ht.size, fun b hb _ => hkeep b hb, fun _ h => .inl h, fun b cur e fz hb => ⟨cur, fz, by rw [hkeep b (lt_of_get hb)]; exact hb, rfl, fun _ => rfl⟩, ht.os, ht.tape, ht.output⟩
    have hS : SimH own β h.H h.nx w' := by
      refine ⟨hs.fresh, fun id b base hb => Nat.lt_of_lt_of_le (hs.lt id b base hb) ht.size, fun b hb => Nat.lt_of_lt_of_le (hs.ownlt b hb) ht.size, fun id o hg => ?_, hs.inj⟩
      obtain ⟨b, base, hb, hnb, hor⟩ := hs.obj id o hg
      refine ⟨b, base, hb, hnb, ?_⟩
      have hlt := hs.lt id b base hb
      cases o with
      | cells cs =>
        obtain ⟨cur, e, q1, q2, q3⟩ := hor
        exact ⟨cur, e, by rw [hkeep b hlt]; exact q1, q2, fun i c v k1 k2 => (q3 i c v k1 k2).later hT.later⟩
      | map kvs =>
        obtain ⟨q0, es, q1, q2, q3⟩ := hor
        exact ⟨q0, es, by rw [hkeep b hlt]; exact q1, q2, fun i kv e k1 k2 => ⟨(q3 i kv e k1 k2).1.later hT.later, (q3 i kv e k1 k2).2.1.later hT.later, (q3 i kv e k1 k2).2.2⟩⟩
      | siter s pos => exact ⟨hor.1, by rw [hkeep b hlt]; exact hor.2⟩
      | typ t cs =>
        obtain ⟨q0, cur, q1, q2, q3⟩ := hor
        exact ⟨q0, cur, by rw [hkeep b hlt]; exact q1, q2, fun i c v k1 k2 => (q3 i c v k1 k2).later hT.later⟩
      | glob g cs =>
        obtain ⟨q0, q00, cur, e, fz, q1, q2, q3⟩ := hor
        exact ⟨q0, q00, cur, e, fz, by rw [hkeep b hlt]; exact q1, q2, fun i c v k1 k2 => (q3 i c v k1 k2).later hT.later⟩
    refine ⟨cv, v, h, β, rfl, ⟨rfl, rfl⟩, hS, ?_, hT⟩
    refine VR.frz hs0 (fun b hb hl => ?_) (fun hn' b hb hl => ?_) (hR v0 h0 hq) hv0
    · rcases ht.live b hb with h1 | h1
      · exact live_emp _ b h1
      · have := hs.ll hl; omega
    · have := hn hn'
      subst this
      exact hb (.inl hl)
  rcases ha with ⟨hn, rfl, hcl⟩ | ⟨hn, hlen, hfz⟩
  · refine main (LL own β h.H) (fun b hb => hs.ll hb) ⟨hRL.1, fun i c v h1 h2 => ?_⟩ (fun _ => rfl)
    have := hcl c (List.mem_of_getElem? h1) _ _ _ _ (hRL.2 i c v h1 h2)
    have heq : LL (LL own β h.H) noB emp.H = LL own β h.H := by
      funext b
      apply propext
      exact ⟨fun hx => hx.elim id (fun hl => absurd hl (live_emp _ b)), .inl⟩
    rw [heq]; exact this
  · refine main (fun _ => False) (fun b hb => hb.elim) ⟨hlen ▸ hRL.1, fun i d v h1 h2 => ?_⟩ (fun h => by rw [hn] at h; cases h)
    obtain ⟨a, ha⟩ := get_of_len hlen h1
    exact VR.frz hs (fun b _ hl => hl.elim (fun h => h) (live_emp _ b)) (fun _ b _ hl => hl.elim (fun h => h) (live_emp _ b)) (hfz i a d ha h1) (hRL.2 i a v ha h2)

/-- wherever it is called with these arguments, it returns this value and leaves all objects as they are -/
def Pure (P : Program) (f : Nat) (args : List AV) (v : AV) : Prop := ∀ h, CallD P f args h v h
theorem Pure.of {P : Program} {f : Nat} {args : List AV} {v : AV} (hcl : ∀ a ∈ args, Closed a) (hc : CallsA P f args emp fun v' h' => Frz h' false v' v) : Pure P f args v :=
  fun _ => frame hc (fun _ _ h => h) (.inl ⟨rfl, rfl, hcl⟩)
/-- what it returns reaches nothing that was there before -/
def Fresh (P : Program) (f : Nat) (args : List AV) (v : AV) : Prop := CallsA P f args emp fun v' h' => Frz h' true v' v
theorem Fresh.call {P : Program} {f : Nat} {args pargs : List AV} {v : AV} {h : AH} (hf : Fresh P f pargs v) (hlen : args.length = pargs.length) (ha : ∀ (i : Nat) (a b : AV), args[i]? = some a → pargs[i]? = some b → Frz h false a b) : CallD P f args h v h :=
  frame hf (fun _ _ h => h) (.inr ⟨rfl, hlen, ha⟩)
end Go.Eng
end
noncomputable section
namespace Go.Eng
@[simp ↓] theorem wk_some (v : AV) (h : AH) (k : AV → AH → Prop) : wk (some (v, h)) k = k v h := Eq.trans rfl rfl
@[simp ↓] theorem wif_bool (b : Bool) (x y : Prop) : wif (.bool b) x y = ((b = true → x) ∧ (b = false → y)) := Eq.trans rfl rfl
@[simp ↓] theorem wg_some (b : Bool) (A : (AV → AH → Prop) → Prop) (h : AH) (k : AV → AH → Prop) : wg (some b) A h k = ((b = true → A k) ∧ (b = false → k skipped h)) := Eq.trans rfl rfl
@[simp ↓] theorem wgd_some (b : Bool) (A : (AV → Rec → AH → Prop) → Prop) (h : AH) (k : AV → Rec → AH → Prop) : wgd (some b) A h k = ((b = true → A k) ∧ (b = false → k skipped .pure h)) := Eq.trans rfl rfl
@[simp ↓] theorem wsp_bool (b : Bool) (K : AV → Prop) : wsp (.bool b) K = ((b = true → K (.bool true)) ∧ (b = false → K (.bool false))) := Eq.trans rfl rfl
attribute [simp ↓] xs
@[simp ↓ high] theorem wsp_true (K : AV → Prop) : wsp (.bool true) K = K (.bool true) := by simp [wsp]
@[simp ↓ high] theorem wsp_false (K : AV → Prop) : wsp (.bool false) K = K (.bool false) := by simp [wsp]
@[simp ↓ high] theorem wg_true (A : (AV → AH → Prop) → Prop) (h : AH) (k : AV → AH → Prop) : wg (some true) A h k = A k := by simp [wg]
@[simp ↓ high] theorem wg_false (A : (AV → AH → Prop) → Prop) (h : AH) (k : AV → AH → Prop) : wg (some false) A h k = k skipped h := by simp [wg]
@[simp ↓ high] theorem wgd_true (A : (AV → Rec → AH → Prop) → Prop) (h : AH) (k : AV → Rec → AH → Prop) : wgd (some true) A h k = A k := by simp [wgd]
@[simp ↓ high] theorem wgd_false (A : (AV → Rec → AH → Prop) → Prop) (h : AH) (k : AV → Rec → AH → Prop) : wgd (some false) A h k = k skipped .pure h := by simp [wgd]
@[simp ↓ high] theorem wif_true (x y : Prop) : wif (.bool true) x y = x := by simp [wif]
@[simp ↓ high] theorem wif_false (x y : Prop) : wif (.bool false) x y = y := by simp [wif]
@[simp high] theorem gdv_tt : gdv true (.bool true) = some true := Eq.trans rfl rfl
@[simp high] theorem gdv_tf : gdv true (.bool false) = some false := Eq.trans rfl rfl
@[simp high] theorem gdv_ft : gdv false (.bool true) = some false := Eq.trans rfl rfl
@[simp high] theorem gdv_ff : gdv false (.bool false) = some true := Eq.trans rfl rfl
@[simp high] theorem kPick_true (h : AH) (x y : AV) : kPick h (.bool true) x y = some (x, h) := Eq.trans rfl rfl
@[simp high] theorem kPick_false (h : AH) (x y : AV) : kPick h (.bool false) x y = some (y, h) := Eq.trans rfl rfl
@[simp ↓] theorem wres_some (vs : List AV) (h : AH) (Q : AV → AH → Prop) : wres (some vs) h Q = Q (aret vs) h := Eq.trans rfl rfl
@[simp] theorem aret_one (v : AV) : aret [v] = v := Eq.trans rfl rfl
@[simp] theorem nthD_zero (a : AV) (l : List AV) : nthD (a :: l) 0 = a := Eq.trans rfl rfl
@[simp] theorem nthD_succ (a : AV) (l : List AV) (n : Nat) : nthD (a :: l) (n + 1) = nthD l n := Eq.trans rfl rfl
@[simp ↓] theorem lk_nrm (m : Nat) (I : Nat → List AV → AH → Prop) (k : AX → List AV → AH → Prop) (vi vo : List AV) (h : AH) : lk m I k .nrm vi vo h = ∃ m', m' < m ∧ I m' vi h := Eq.trans rfl rfl
@[simp ↓] theorem lk_exit (m : Nat) (I : Nat → List AV → AH → Prop) (k : AX → List AV → AH → Prop) (j : Nat) (vi vo : List AV) (h : AH) : lk m I k (.exit j) vi vo h = k (.exit j) vo h := Eq.trans rfl rfl
@[simp ↓] theorem lk_ret (m : Nat) (I : Nat → List AV → AH → Prop) (k : AX → List AV → AH → Prop) (vi vo : List AV) (h : AH) : lk m I k .ret vi vo h = k .ret vo h := Eq.trans rfl rfl
@[simp ↓] theorem wcall_func (cl : CL) (g : Nat) (first captured args : List AV) (h : AH) (k : AV → AH → Prop) : wcall cl (.func (.func g) first captured) args h k = cl g (first ++ args ++ captured) h k := Eq.trans rfl rfl
@[simp ↓] theorem wdc_func (cl : CL) (g : Nat) (first captured args : List AV) (h : AH) (k : AV → Rec → AH → Prop) : wdc cl (.func (.func g) first captured) args h k = cl g (first ++ args ++ captured) h fun v h' => h.nx ≤ h'.nx ∧ k v (.eff h h') h' := Eq.trans rfl rfl
@[simp ↓] theorem wdr_eq (h : AH) (n : Nat) (k : Nat → AH → Prop) : wdr h n k = k h.nx ⟨h.H, h.nx + n⟩ := Eq.trans rfl rfl
@[simp ↓] theorem wdp_some (h : AH) (v : AV) (h' : AH) (c : Rec) (k : AV → Rec → AH → Prop) : wdp h (some (v, h')) c k = k v c h := Eq.trans rfl rfl
@[simp ↓] theorem wde_some (h : AH) (v : AV) (h' : AH) (k : AV → Rec → AH → Prop) : wde h (some (v, h')) k = (h.nx ≤ h'.nx ∧ k v (.eff h h') h') := Eq.trans rfl rfl

/-! the continuations are left alone until they are reached -/
@[congr] theorem wk_congr {r r' : Option (AV × AH)} {k : AV → AH → Prop} (h : r = r') : wk r k = wk r' k := by rw [h]
@[congr] theorem wif_congr {c c' : AV} {x y : Prop} (h : c = c') : wif c x y = wif c' x y := by rw [h]
@[congr] theorem wg_congr {g g' : Option Bool} {A : (AV → AH → Prop) → Prop} {h : AH} {k : AV → AH → Prop} (hg : g = g') : wg g A h k = wg g' A h k := by rw [hg]
@[congr] theorem wgd_congr {g g' : Option Bool} {A : (AV → Rec → AH → Prop) → Prop} {h : AH} {k : AV → Rec → AH → Prop} (hg : g = g') : wgd g A h k = wgd g' A h k := by rw [hg]
@[congr] theorem wdp_congr {h : AH} {x x' : Option (AV × AH)} {c : Rec} {k : AV → Rec → AH → Prop} (hx : x = x') : wdp h x c k = wdp h x' c k := by rw [hx]
@[congr] theorem wde_congr {h : AH} {x x' : Option (AV × AH)} {k : AV → Rec → AH → Prop} (hx : x = x') : wde h x k = wde h x' k := by rw [hx]
@[congr] theorem wda_congr {r : Nat} {h : AH} {x x' : Option (AObj × (Nat → AV))} {k : AV → Rec → AH → Prop} (hx : x = x') : wda r h x k = wda r h x' k := by rw [hx]
@[congr] theorem wres_congr {r r' : Option (List AV)} {h : AH} {Q : AV → AH → Prop} (hr : r = r') : wres r h Q = wres r' h Q := by rw [hr]

@[simp] theorem stow_agg (cs : List AV) : stow (.agg cs) = true := by unfold stow; rfl
@[simp] theorem stow_int (k : IntKind) (n : Int) : stow (.int k n) = true := by unfold stow; rfl
@[simp] theorem stow_bool (b : Bool) : stow (.bool b) = true := by unfold stow; rfl
@[simp] theorem stow_rsl (a b c d : Nat) : stow (.rsl a b c d) = true := by unfold stow; rfl
@[simp] theorem aresV_nil (h : AH) : aresV h [] = some [] := Eq.trans rfl rfl
@[simp] theorem aresV_val (h : AH) (v : AV) (r : List RV) : aresV h (.val v :: r) = match aresV h r with | some l => some (v :: l) | none => none := Eq.trans rfl rfl
@[simp] theorem aresV_cell1 (h : AH) (a : AV) (r : List RV) : aresV h (.cell a none :: r) = match aload1 h a, aresV h r with | some v, some l => some (v :: l) | _, _ => none := Eq.trans rfl rfl
@[simp] theorem aresV_celln (h : AH) (a : AV) (n : Nat) (r : List RV) : aresV h (.cell a (some n) :: r) = match (aloadn h n a).map .agg, aresV h r with | some v, some l => some (v :: l) | _, _ => none := Eq.trans rfl rfl
@[simp] theorem kBuild_eq (h : AH) (zero : List AV) (ps : List (Nat × Nat × AV)) : kBuild h zero ps = match afill zero ps with | some cs => some (.agg cs, h) | none => none := Eq.trans rfl rfl
@[simp] theorem afill_nil (cs : List AV) : afill cs [] = some cs := Eq.trans rfl rfl
@[simp] theorem afill_cons (cs : List AV) (off size : Nat) (x : AV) (r : List (Nat × Nat × AV)) (hs : stow x = true) : afill cs ((off, size, x) :: r) = if x.cells.length = size then (match splice cs off x.cells with | some cs' => afill cs' r | none => none) else none := by
  show (if stow x then _ else _) = _
  rw [if_pos hs]; rfl
/-! ## the heap of owned objects -/
@[simp] theorem nx_add (h : AH) (o : AObj) : (h.add o).nx = h.nx + 1 := by cases h; rfl
@[simp] theorem nx_set (h : AH) (i : Nat) (o : AObj) : (h.set i o).nx = h.nx := by cases h; rfl
@[simp] theorem nx_kill (h : AH) (i : Nat) : (h.kill i).nx = h.nx := by cases h; rfl
@[simp] theorem nx_mk (H : Hp) (n : Nat) : AH.nx ⟨H, n⟩ = n := Eq.trans rfl rfl
@[simp] theorem nx_emp : emp.nx = 0 := by decide
theorem get_add (h : AH) (o : AObj) (i : Nat) : (h.add o).H.get i = if i = h.nx then some o else h.H.get i := PM.get_put _ _ _ _
theorem get_set (h : AH) (j : Nat) (o : AObj) (i : Nat) : (h.set j o).H.get i = if i = j then some o else h.H.get i := PM.get_put _ _ _ _
theorem get_kill (h : AH) (j : Nat) (i : Nat) : (h.kill j).H.get i = if i = j then none else h.H.get i := PM.get_del _ _ _
theorem cellsAt_congr {h h' : AH} {i : Nat} (he : h'.H.get i = h.H.get i) : h'.cellsAt i = h.cellsAt i := by unfold AH.cellsAt; rw [he]
theorem cellsAt_add_self (h : AH) (cs : List AV) (i : Nat) (hi : i = h.nx) : (h.add (.cells cs)).cellsAt i = some cs := by unfold AH.cellsAt; rw [get_add, if_pos hi]
theorem cellsAt_add_ne (h : AH) (o : AObj) (i : Nat) (hi : i ≠ h.nx) : (h.add o).cellsAt i = h.cellsAt i := cellsAt_congr (by rw [get_add, if_neg hi])
theorem cellsAt_set_self (h : AH) (cs : List AV) (i j : Nat) (hi : i = j) : (h.set j (.cells cs)).cellsAt i = some cs := by unfold AH.cellsAt; rw [get_set, if_pos hi]
theorem cellsAt_set_ne (h : AH) (o : AObj) (i j : Nat) (hi : i ≠ j) : (h.set j o).cellsAt i = h.cellsAt i := cellsAt_congr (by rw [get_set, if_neg hi])
/-! the same, the side left to a tactic -/
theorem gsn {h : AH} {i j : Nat} {o : AObj} (hn : ¬ i = j := by omega) : (h.set j o).H.get i = h.H.get i := by rw [get_set, if_neg hn]
theorem cellsAt_kill_ne (h : AH) (i j : Nat) (hi : i ≠ j) : (h.kill j).cellsAt i = h.cellsAt i := cellsAt_congr (by rw [get_kill, if_neg hi])
@[simp] theorem cellsAt_add (h : AH) (cs : List AV) (i : Nat) : (h.add (.cells cs)).cellsAt i = if i = h.nx then some cs else h.cellsAt i := by
  split
  · rename_i hi; exact cellsAt_add_self h cs i hi
  · rename_i hi; exact cellsAt_add_ne h _ i hi
@[simp] theorem cellsAt_set (h : AH) (cs : List AV) (i j : Nat) : (h.set j (.cells cs)).cellsAt i = if i = j then some cs else h.cellsAt i := by
  split
  · rename_i hi; exact cellsAt_set_self h cs i j hi
  · rename_i hi; exact cellsAt_set_ne h _ i j hi
@[simp] theorem cellsAt_kill (h : AH) (i j : Nat) : (h.kill j).cellsAt i = if i = j then none else h.cellsAt i := by
  split
  · rename_i hi; unfold AH.cellsAt; rw [get_kill, if_pos hi]
  · rename_i hi; exact cellsAt_kill_ne h i j hi
@[simp] theorem cellsAt_mk (h : AH) (n i : Nat) : AH.cellsAt ⟨h.H, n⟩ i = h.cellsAt i := Eq.trans rfl rfl
/-! ## operations -/
@[simp] theorem kMov_eq (h : AH) (x : AV) : kMov h x = some (x, h) := Eq.trans rfl rfl
@[simp] theorem kNew_eq (h : AH) (zero : List AV) : kNew h zero = some (.ptr h.nx 0, h.add (.cells zero)) := Eq.trans rfl rfl
@[simp] theorem kBox_agg (h : AH) (cs : List AV) : kBox h (.agg cs) = some (.ptr h.nx 0, h.add (.cells cs)) := Eq.trans rfl rfl
theorem kLd1_ptr {h : AH} {id off : Nat} {cs : List AV} {v : AV} (hc : h.cellsAt id = some cs) (hv : cs[off]? = some v) : kLd1 h (.ptr id off) = some (v, h) := by
  simp [kLd1, aload1, hc, hv]
@[simp] theorem kLd1_ptr' (h : AH) (id off : Nat) : kLd1 h (.ptr id off) = match h.cellsAt id with | some cs => (match cs[off]? with | some v => some (v, h) | none => none) | none => none := by
  simp only [kLd1, aload1]; cases h.cellsAt id <;> rfl
@[simp] theorem kLdn_ptr' (h : AH) (n id off : Nat) : kLdn h n (.ptr id off) = match h.cellsAt id with | some cs => (match cut cs off n with | some ds => some (.agg ds, h) | none => none) | none => none := by
  simp only [kLdn, aloadn]; cases h.cellsAt id <;> rfl
@[simp] theorem kLd1_pptr (h : AH) (cs : List AV) : kLd1 h (.pptr cs) = match cs[0]? with | some v => some (v, h) | none => none := Eq.trans rfl rfl
@[simp] theorem kLdn_pptr (h : AH) (n : Nat) (cs : List AV) : kLdn h n (.pptr cs) = match cut cs 0 n with | some ds => some (.agg ds, h) | none => none := Eq.trans rfl rfl
@[simp] theorem aloadn_ptr (h : AH) (n id off : Nat) : aloadn h n (.ptr id off) = match h.cellsAt id with | some cs => cut cs off n | none => none := Eq.trans rfl rfl
@[simp] theorem cut_all {cs : List AV} {n : Nat} (hn : cs.length = n) : cut cs 0 n = some cs := by simp [cut, ← hn]
@[simp] theorem splice_all {cs new : List AV} (h : new.length = cs.length) : splice cs 0 new = some new := by simp [splice, h]
@[simp] theorem splice_zero (a b : AV) (l : List AV) : splice (a :: l) 0 [b] = some (b :: l) := by simp [splice]
@[simp] theorem splice_succ (a : AV) (l : List AV) (n : Nat) (new : List AV) : splice (a :: l) (n + 1) new = (splice l n new).map (a :: ·) := by
  unfold splice
  simp only [List.length_cons, List.take_succ_cons, List.drop_succ_cons, show n + 1 + new.length = (n + new.length) + 1 by omega, Nat.add_le_add_iff_right]
  split <;> simp
@[simp] theorem cells_agg (cs : List AV) : AV.cells (.agg cs) = cs := Eq.trans rfl rfl
@[simp] theorem cells_int (k : IntKind) (n : Int) : AV.cells (.int k n) = [.int k n] := Eq.trans rfl rfl
@[simp] theorem cells_bool (b : Bool) : AV.cells (.bool b) = [.bool b] := Eq.trans rfl rfl
@[simp] theorem cells_rsl (a b c d : Nat) : AV.cells (.rsl a b c d) = [.rsl a b c d] := Eq.trans rfl rfl
@[simp] theorem ones_nil : ones [] = true := Eq.trans rfl rfl
@[simp] theorem ones_cons (a : AV) (l : List AV) : ones (a :: l) = (a.one && ones l) := Eq.trans rfl rfl
@[simp] theorem one_int (k : IntKind) (n : Int) : AV.one (.int k n) = true := Eq.trans rfl rfl
@[simp] theorem one_bool (b : Bool) : AV.one (.bool b) = true := Eq.trans rfl rfl
@[simp] theorem one_str (b : List UInt8) : AV.one (.str b) = true := Eq.trans rfl rfl
@[simp] theorem one_psl (l : List (List AV)) : AV.one (.psl l) = true := Eq.trans rfl rfl
@[simp] theorem one_rsl (a b c d : Nat) : AV.one (.rsl a b c d) = true := Eq.trans rfl rfl
@[simp] theorem one_nilsl : AV.one .nilsl = true := Eq.trans rfl rfl
@[simp] theorem kSt_ptr' (h : AH) (n id off : Nat) (x : AV) (hs : stow x = true) : kSt h n (.ptr id off) x = if x.cells.length = n && ones x.cells then (match h.cellsAt id with | some cs => (match splice cs off x.cells with | some cs' => some (.undef, h.set id (.cells cs')) | none => none) | none => none) else none := by
  show (if stow x then _ else _) = _
  rw [if_pos hs]; rfl
@[simp] theorem kNilchk_ptr (h : AH) (a b : Nat) : kNilchk h (.ptr a b) = some (.ptr a b, h) := Eq.trans rfl rfl
@[simp] theorem kArith_eql (h : AH) (k : IntKind) (a b : Int) : kArith h .eql (.int k a) (.int k b) = some (.bool (a == b), h) := by simp [kArith, aarith, isShift, iarith]
@[simp] theorem kArith_neq (h : AH) (k : IntKind) (a b : Int) : kArith h .neq (.int k a) (.int k b) = some (.bool (a != b), h) := by simp [kArith, aarith, isShift, iarith]
@[simp] theorem kArith_lss (h : AH) (k : IntKind) (a b : Int) : kArith h .lss (.int k a) (.int k b) = some (.bool (decide (a < b)), h) := by simp [kArith, aarith, isShift, iarith]
@[simp] theorem kArith_leq (h : AH) (k : IntKind) (a b : Int) : kArith h .leq (.int k a) (.int k b) = some (.bool (decide (a ≤ b)), h) := by simp [kArith, aarith, isShift, iarith]
@[simp] theorem kArith_gtr (h : AH) (k : IntKind) (a b : Int) : kArith h .gtr (.int k a) (.int k b) = some (.bool (decide (b < a)), h) := by simp [kArith, aarith, isShift, iarith]
@[simp] theorem kArith_geq (h : AH) (k : IntKind) (a b : Int) : kArith h .geq (.int k a) (.int k b) = some (.bool (decide (b ≤ a)), h) := by simp [kArith, aarith, isShift, iarith]
theorem wrap64 {n : Int} (h1 : -9223372036854775808 ≤ n) (h2 : n ≤ 9223372036854775807) : IntKind.i64.wrap n = n := by
  unfold IntKind.wrap
  show (if (true && decide (n % 18446744073709551616 ≥ 9223372036854775808)) = true then n % 18446744073709551616 - 18446744073709551616 else n % 18446744073709551616) = n
  simp only [Bool.true_and, decide_eq_true_eq]
  split <;> omega
@[simp] theorem kArith_add (h : AH) (a b : Int) (h1 : -9223372036854775808 ≤ a + b) (h2 : a + b ≤ 9223372036854775807) : kArith h .add (.int .i64 a) (.int .i64 b) = some (.int .i64 (a + b), h) := by simp [kArith, aarith, isShift, iarith, wrap64 h1 h2]
@[simp] theorem kArith_sub (h : AH) (a b : Int) (h1 : -9223372036854775808 ≤ a - b) (h2 : a - b ≤ 9223372036854775807) : kArith h .sub (.int .i64 a) (.int .i64 b) = some (.int .i64 (a - b), h) := by simp [kArith, aarith, isShift, iarith, wrap64 h1 h2]
@[simp] theorem kUn_neg (h : AH) (a : Int) (h1 : -9223372036854775807 ≤ a) (h2 : a ≤ 9223372036854775807) : kUn h .neg (.int .i64 a) = some (.int .i64 (-a), h) := by simp [kUn, aun, wrap64 (n := -a) (by omega) (by omega)]
@[simp] theorem kUn_not (h : AH) (b : Bool) : kUn h .not (.bool b) = some (.bool !b, h) := Eq.trans rfl rfl
@[simp] theorem kFldA_ptr (h : AH) (off id o : Nat) : kFldA h off (.ptr id o) = some (.ptr id (o + off), h) := Eq.trans rfl rfl
@[simp] theorem kLen_psl (h : AH) (l : List (List AV)) : kLen h (.psl l) = some (.int .i64 l.length, h) := Eq.trans rfl rfl
@[simp] theorem kLen_rsl (h : AH) (a b c d : Nat) : kLen h (.rsl a b c d) = some (.int .i64 c, h) := Eq.trans rfl rfl
@[simp] theorem kLen_nilsl (h : AH) : kLen h .nilsl = some (.int .i64 0, h) := Eq.trans rfl rfl
@[simp] theorem kExt_zero (h : AH) (v : AV) (vs : List AV) : kExt h (.tup (v :: vs)) 0 = some (v, h) := Eq.trans rfl rfl
@[simp] theorem kExt_one (h : AH) (u v : AV) (vs : List AV) : kExt h (.tup (u :: v :: vs)) 1 = some (v, h) := Eq.trans rfl rfl
theorem aix_int {n : Nat} {i : Int} (h1 : 0 ≤ i) (h2 : i < n) (k : IntKind) : aix n (.int k i) = some i.toNat := by simp [aix, aidx, h1, h2]
theorem kIdxA_psl {h : AH} {z : Nat} {l : List (List AV)} {i : Nat} {c : List AV} (hc : l[i]? = some c) (hz : c.length = z) : kIdxA h z (.psl l) (.int .i64 i) = some (.pptr c, h) := by
  have hi : i < l.length := (List.getElem?_eq_some_iff.1 hc).1
  have : aix l.length (.int .i64 i) = some i := by simp [aix_int (Int.natCast_nonneg i) (by omega : (i : Int) < l.length)]
  simp [kIdxA, aidxA, this, hc, hz]
theorem kIdxA_rsl {h : AH} {z id off len : Nat} {i : Int} (h0 : 0 ≤ i) (h1 : i < len) : kIdxA h z (.rsl id off len z) (.int .i64 i) = some (.ptr id (off + i.toNat * z), h) := by
  simp [kIdxA, aidxA, aix_int h0 h1]

/-! ## records of regions that draw their order -/
mutual
theorem AV.beq_refl : ∀ (a : AV), AV.beq a a = true
  | .undef | .nilptr | .nilsl | .esl | .nilmap | .nilfunc | .nilif => by simp [AV.beq]
  | .bool _ | .int _ _ | .str _ | .ptr _ _ | .gptr _ _ | .gsl _ _ _ | .rsl _ _ _ _ | .mapv _ | .sint _ _ _ _ _ _ | .scol _ _ _ _ _ _ _ _ | .oint _ _ => by simp [AV.beq]
  | .lin _ _ _ _ _ => by simp [AV.beq, linEq_refl]
  | .agg a => by simp [AV.beq, AV.beqL_refl a]
  | .tup a => by simp [AV.beq, AV.beqL_refl a]
  | .pptr a => by simp [AV.beq, AV.beqL_refl a]
  | .psl a => by simp [AV.beq, AV.beqLL_refl a]
  | .func _ a b => by simp [AV.beq, AV.beqL_refl a, AV.beqL_refl b]
  | .iface _ a => by simp [AV.beq, AV.beq_refl a]
theorem AV.beqL_refl : ∀ (a : List AV), AV.beqL a a = true
  | [] => by simp [AV.beqL]
  | x :: a => by simp [AV.beqL, AV.beq_refl x, AV.beqL_refl a]
theorem AV.beqLL_refl : ∀ (a : List (List AV)), AV.beqLL a a = true
  | [] => by simp [AV.beqLL]
  | x :: a => by simp [AV.beqLL, AV.beqL_refl x, AV.beqLL_refl a]
end
theorem beqKV_refl : ∀ (a : List (AV × AV)), beqKV a a = true
  | [] => by simp [beqKV]
  | (x, y) :: a => by simp [beqKV, AV.beq_refl, beqKV_refl a]
theorem obEq_refl (o : Option AObj) : obEq o o = true := by
  cases o with
  | none => rfl
  | some o => cases o <;> simp [obEq, AV.beqL_refl, beqKV_refl]
@[simp] theorem rdv_ptr (id o : Nat) : rdv (.ptr id o) = some id := Eq.trans rfl rfl
@[simp] theorem rdK_some (x : Nat) : rdK (some x) = .read x := Eq.trans rfl rfl
@[simp] theorem recOk_pure' (y : Rec) : recOk y .pure = true := by cases y <;> rfl
@[simp] theorem recOk_eff_read (h : AH) (x : Nat) : recOk (.eff h h) (.read x) = true := obEq_refl _
@[simp] theorem recOk_read_eff (h : AH) (x : Nat) : recOk (.read x) (.eff h h) = true := obEq_refl _
@[simp] theorem recOk_read_alloc (x r : Nat) (cs : AObj) : recOk (.read x) (.alloc r cs) = !decide (r = x) := by
  show (!Nat.beq r x) = _
  by_cases h : r = x
  · subst h; simp
  · have : Nat.beq r x = false := by cases hb : Nat.beq r x with | false => rfl | true => exact absurd (Nat.eq_of_beq_eq_true hb) h
    simp [this, h]
@[simp ↓] theorem wda_some (r : Nat) (h : AH) (cs : AObj) (mk : Nat → AV) (k : AV → Rec → AH → Prop) : wda r h (some (cs, mk)) k = k (mk r) (.alloc r cs) (h.set r cs) := Eq.trans rfl rfl
@[simp] theorem alNew_eq (zero : List AV) : alNew zero = some (.cells zero, fun r => .ptr r 0) := Eq.trans rfl rfl
@[simp] theorem alBuildSl_eq (z len : Nat) (zero : List AV) (ps : List (Nat × Nat × AV)) : alBuildSl z len zero ps = match afill zero ps with | some cs => some (.cells cs, fun r => .rsl r 0 len z) | none => none := Eq.trans rfl rfl
@[simp] theorem Frz_int (h : AH) (n : Bool) (k : IntKind) (a b : Int) : Frz h n (.int k a) (.int k b) ↔ a = b := ⟨fun h => by cases h; rfl, fun h => by subst h; exact .int _ _⟩
def FrzL (h : AH) (n : Bool) : List AV → List AV → Prop
  | [], [] => True
  | c :: cs, d :: ds => Frz h n c d ∧ FrzL h n cs ds
  | _, _ => False
theorem FrzL_iff (h : AH) (n : Bool) : ∀ (cs ds : List AV), FrzL h n cs ds ↔ (cs.length = ds.length ∧ ∀ (i : Nat) (c d : AV), cs[i]? = some c → ds[i]? = some d → Frz h n c d)
  | [], [] => by simp [FrzL]
  | [], d :: ds => by simp [FrzL]
  | c :: cs, [] => by simp [FrzL]
  | c :: cs, d :: ds => by
    simp only [FrzL, FrzL_iff h n cs ds, List.length_cons]
    constructor
    · rintro ⟨h1, h2, h3⟩
      refine ⟨by omega, fun i x y hx hy => ?_⟩
      cases i with
      | zero => simp at hx hy; subst hx; subst hy; exact h1
      | succ i => simp at hx hy; exact h3 i x y hx hy
    · rintro ⟨h1, h2⟩
      exact ⟨h2 0 c d (by simp) (by simp), by omega, fun i x y hx hy => h2 (i + 1) x y (by simpa using hx) (by simpa using hy)⟩
/-! ## tables of contracts -/
structure QE (P : Program) where
  f : Nat
  q : List AV → AH → (AV → AH → Prop) → Prop
  ok : ∀ args h Q, q args h Q → ∃ v h', CallD P f args h v h' ∧ Q v h'
def tb {P : Program} : List (QE P) → CL
  | [], _, _, _, _ => False
  | e :: l, f, args, h, Q => cond (Nat.beq e.f f) (e.q args h Q) (tb l f args h Q)
end Go.Eng
end
noncomputable section
namespace Go.Eng
open Go.RowKit
theorem Frz.mono {h : AH} {a b : AV} (hf : Frz h true a b) : Frz h false a b := by
  generalize hn : true = n at hf
  induction hf with
  | undef a => exact .undef a
  | bool b => exact .bool b
  | int k m => exact .int k m
  | str s => exact .str s
  | nilptr => exact .nilptr
  | nilfunc => exact .nilfunc
  | nilif => exact .nilif
  | nilmap => exact .nilmap
  | nilsl0 => exact .nilsl0
  | nilsl => exact .nilsl
  | esl0 => exact .esl0
  | esl => exact .esl
  | gptr g o => exact .gptr g o
  | agg cs ds hl hc ih => exact .agg cs ds hl fun i c d h1 h2 => ih i c d h1 h2
  | tup cs ds hl hc ih => exact .tup cs ds hl fun i c d h1 h2 => ih i c d h1 h2
  | psl0 => exact .psl0
  | psl hn' => subst hn; cases hn'
  | pptr hn' => subst hn; cases hn'
  | rsl id off z cs ys ho hs hz hc ih => exact .rsl id off z cs ys ho hs hz fun i y j c d h1 h2 h3 => ih i y j c d h1 h2 h3
  | ptr id off cs ds ho hs hc ih => exact .ptr id off cs ds ho hs fun i c d h1 h2 => ih i c d h1 h2
  | func fn f1 c1 f2 c2 hl1 hl2 h1 h2 ih1 ih2 => exact .func fn f1 c1 f2 c2 hl1 hl2 (fun i c d q1 q2 => ih1 i c d q1 q2) (fun i c d q1 q2 => ih2 i c d q1 q2)
  | iface t a b hb ih => exact .iface t a b (ih)
theorem Fresh.pure {P : Program} {f : Nat} {args : List AV} {v : AV} (hf : Fresh P f args v) (hcl : ∀ a ∈ args, Closed a) : Pure P f args v :=
  Pure.of hcl (hf.mono fun _ _ h => h.mono)

theorem VR.sub {hp : Array Obj} {L L' : Nat → Prop} {β : Bl} (h : ∀ b, L' b → L b) {a : AV} {v : Value} (hv : VR hp L β a v) : VR hp L' β a v :=
  hv.later ⟨fun _ _ h => h, fun b _ hn => ⟨fun hl => hn (h b hl), rfl⟩, fun _ cur _ fz h => ⟨cur, fz, h, rfl⟩⟩

theorem SimH.kill {own : Nat → Prop} {β : Bl} {h : AH} {w : World} (hs : SimH own β h.H h.nx w) (id : Nat) : SimH own β (h.kill id).H h.nx w := by
  have hsub : ∀ b, live β (h.kill id).H b → live β h.H b := by
    rintro b ⟨i, o, base, h1, h2⟩
    rw [get_kill] at h1
    split at h1
    · cases h1
    · exact ⟨i, o, base, h1, h2⟩
  refine ⟨hs.fresh, hs.lt, hs.ownlt, fun i o hi => ?_, fun i j o o' b x y h1 h2 h3 h4 => ?_⟩
  · rw [get_kill] at hi
    split at hi
    · cases hi
    · obtain ⟨b, base, q1, q2, q3⟩ := hs.obj i o hi
      have hw : ∀ b, (own b ∨ live β (h.kill id).H b) → (own b ∨ live β h.H b) := fun b hb => hb.imp_right (hsub b)
      refine ⟨b, base, q1, q2, ?_⟩
      cases o with
      | cells cs => obtain ⟨cur, e, r1, r2, r3⟩ := q3; exact ⟨cur, e, r1, r2, fun i c v k1 k2 => (r3 i c v k1 k2).sub hw⟩
      | map kvs => obtain ⟨r0, es, r1, r2, r3⟩ := q3; exact ⟨r0, es, r1, r2, fun i kv e k1 k2 => ⟨(r3 i kv e k1 k2).1.sub hw, (r3 i kv e k1 k2).2.1.sub hw, (r3 i kv e k1 k2).2.2⟩⟩
      | siter s pos => exact q3
      | typ t cs => obtain ⟨r0, cur, r1, r2, r3⟩ := q3; exact ⟨r0, cur, r1, r2, fun i c v k1 k2 => (r3 i c v k1 k2).sub hw⟩
      | glob g cs => obtain ⟨r0, r00, cur, e, fz, r1, r2, r3⟩ := q3; exact ⟨r0, r00, cur, e, fz, r1, r2, fun i c v k1 k2 => (r3 i c v k1 k2).sub hw⟩
  · rw [get_kill] at h1 h2
    split at h1
    · cases h1
    split at h2
    · cases h2
    exact hs.inj i j o o' b x y h1 h2 h3 h4

/-- the result: one slice into the new object, alone or with a further value -/
inductive Hole (h' : AH) (id nid : Nat) : AV → AV → Prop where
  | one (off len z : Nat) : Hole h' id nid (.rsl id off len z) (.rsl nid off len z)
  | two (off len z : Nat) (y' y : AV) (hy : Frz h' true y' y) : Hole h' id nid (.tup [.rsl id off len z, y']) (.tup [.rsl nid off len z, y])

theorem frameO {P : Program} {f : Nat} {args pargs : List AV} {h : AH} {R : AV → AH → Prop} {v : AV} {cs2 : List AV} (hc : CallsA P f pargs emp R)
    (hR : ∀ v' h', R v' h' → ∃ id cs, h'.cellsAt id = some cs ∧ FrzL (h'.kill id) true cs cs2 ∧ Hole (h'.kill id) id h.nx v' v)
    (hlen : args.length = pargs.length) (hfz : ∀ (i : Nat) (a b : AV), args[i]? = some a → pargs[i]? = some b → Frz h false a b) : CallD P f args h v (h.add (.cells cs2)) := by
  refine ⟨hc.1, fun own β w cargs hs hRL => ?_⟩
  have hp : RL w.heap (LL (fun _ => False) noB emp.H) noB pargs cargs.toList := by
    refine ⟨hlen ▸ hRL.1, fun i d v h1 h2 => ?_⟩
    obtain ⟨a, ha⟩ := get_of_len hlen h1
    exact VR.frz hs (fun b _ hl => hl.elim (fun h => h) (live_emp _ b)) (fun _ b _ hl => hl.elim (fun h => h) (live_emp _ b)) (hfz i a d ha h1) (hRL.2 i a v ha h2)
  refine (hc.2 (fun _ => False) noB w cargs (simH_emp fun b hb => hb.elim) hp).mono ?_
  rintro e w' ⟨cv, v0, h0, β0, rfl, hq, hs0, hv0, ht⟩
  obtain ⟨id, cs, hcs, hfc, hhole⟩ := hR v0 h0 hq
  obtain ⟨b, base, hb, _, cur, et, hcur, hcl, hcell⟩ := hs0.obj id _ (cellsAt_get hcs)
  have hlive : live β0 h0.H b := ⟨id, _, base, cellsAt_get hcs, hb⟩
  have hnew : w.heap.size ≤ b := (ht.live b hlive).resolve_left (live_emp _ b)
  have hblt : b < w'.heap.size := hs0.lt id b base hb
  have hkeep : ∀ b, b < w.heap.size → w'.heap[b]? = w.heap[b]? := fun b hb => ht.keep b hb (live_emp _ b)
  have hnx : β h.nx = none := hs.fresh _ (Nat.le_refl _)
  obtain ⟨β', hβ'⟩ : ∃ β', β' = upd β h.nx b base := ⟨_, rfl⟩
  have hgood : ∀ {i x}, β i = some x → β' i = some x := fun {i x} hi => by
    have : i ≠ h.nx := fun e => by rw [e, hnx] at hi; cases hi
    rw [hβ', upd_ne _ _ _ this]; exact hi
  have hself : β' h.nx = some (b, base) := by rw [hβ']; exact upd_same _ _ _ _
  have hlv : ∀ b', live β' (h.add (.cells cs2)).H b' → live β h.H b' ∨ b' = b := by
    rintro b' ⟨i, o, ba, h1, h2⟩
    rw [get_add] at h1
    by_cases hi : i = h.nx
    · subst hi; rw [hself] at h2; cases h2; exact .inr rfl
    · rw [if_neg hi] at h1; rw [hβ', upd_ne _ _ _ hi] at h2; exact .inl ⟨i, o, ba, h1, h2⟩
  have hT : Trans own β h w β' (h.add (.cells cs2)) w' := by
    refine ⟨fun i x hx => hgood hx, fun i hi => by rw [hβ', upd_ne _ _ _ (by omega)], by simp, ht.size, fun b' hb' _ => hkeep b' hb', fun b' hl => ?_, fun b' cur e fz hc => ⟨cur, fz, by rw [hkeep b' (lt_of_get hc)]; exact hc, rfl, fun _ => rfl⟩, ht.os, ht.tape, ht.output⟩
    rcases hlv b' hl with h1 | rfl
    · exact .inl h1
    · exact .inr hnew
  have hk0 : SimH (fun _ => False) β0 (h0.kill id).H h0.nx w' := hs0.kill id
  have hksub : ∀ b', live β0 (h0.kill id).H b' → b' ≠ b ∧ live β0 h0.H b' := by
    rintro b' ⟨i, o, ba, h1, h2⟩
    rw [get_kill] at h1
    split at h1
    · cases h1
    · rename_i hi
      refine ⟨fun e => ?_, i, o, ba, h1, h2⟩
      subst e
      exact hi (hs0.inj i id _ _ _ ba base h1 (cellsAt_get hcs) h2 hb)
  have hnotL : ∀ b', live β0 (h0.kill id).H b' → ¬ LL own β' (h.add (.cells cs2)).H b' := by
    intro b' hl hL
    obtain ⟨hne, hl0⟩ := hksub b' hl
    have hge : w.heap.size ≤ b' := (ht.live b' hl0).resolve_left (live_emp _ b')
    rcases hL with h1 | h1
    · have := hs.ownlt b' h1; omega
    · rcases hlv b' h1 with h2 | h2
      · obtain ⟨i, o, ba, _, h3⟩ := h2
        have := hs.lt i b' ba h3; omega
      · exact hne h2
  have frz2 : ∀ {a a' : AV} {u : Value}, Frz (h0.kill id) true a a' → VR w'.heap (LL (fun _ => False) β0 h0.H) β0 a u → VR w'.heap (LL own β' (h.add (.cells cs2)).H) β' a' u := fun {a a' u} hf hu =>
    VR.frz hk0 hnotL (fun hh => by cases hh) hf (hu.sub fun b' hb' => hb'.imp_right fun hl => (hksub b' hl).2)
  have hfc' := (FrzL_iff _ _ _ _).1 hfc
  have hS : SimH own β' (h.add (.cells cs2)).H (h.add (.cells cs2)).nx w' := by
    refine ⟨fun i hi => ?_, fun i b' ba hi => ?_, fun b' hb' => Nat.lt_of_lt_of_le (hs.ownlt b' hb') ht.size, fun i o hg => ?_, fun i j o o' b' x y h1 h2 h3 h4 => ?_⟩
    · simp at hi
      rw [hβ', upd_ne _ _ _ (by omega)]; exact hs.fresh i (by omega)
    · by_cases h1 : i = h.nx
      · subst h1; rw [hself] at hi; cases hi; exact hblt
      · rw [hβ', upd_ne _ _ _ h1] at hi; exact Nat.lt_of_lt_of_le (hs.lt i b' ba hi) ht.size
    · rw [get_add] at hg
      by_cases h1 : i = h.nx
      · rw [if_pos h1] at hg; cases hg; subst h1
        refine ⟨b, base, hself, fun ho => ?_, cur, et, hcur, by rw [← hfc'.1]; exact hcl, fun i c u k1 k2 => ?_⟩
        · have := hs.ownlt b ho; omega
        · obtain ⟨c0, hc0⟩ := get_of_len hfc'.1 k1
          exact frz2 (hfc'.2 i c0 c hc0 k1) (hcell i c0 u hc0 k2)
      · rw [if_neg h1] at hg
        obtain ⟨b', ba, q1, q2, q3⟩ := hs.obj i o hg
        exact ⟨b', ba, hgood q1, q2, OR.later hT.later (hkeep b' (hs.lt i b' ba q1)) q3⟩
    · rw [get_add] at h1 h2
      by_cases hi : i = h.nx <;> by_cases hj : j = h.nx
      · rw [hi, hj]
      · subst hi; rw [hself] at h3; cases h3
        rw [hβ', upd_ne _ _ _ hj] at h4
        have := hs.lt j b y h4; omega
      · subst hj; rw [hself] at h4; cases h4
        rw [hβ', upd_ne _ _ _ hi] at h3
        have := hs.lt i b x h3; omega
      · rw [if_neg hi] at h1; rw [if_neg hj] at h2
        rw [hβ', upd_ne _ _ _ hi] at h3; rw [hβ', upd_ne _ _ _ hj] at h4
        exact hs.inj i j o o' b' x y h1 h2 h3 h4
  have hslot : ∀ {off len z : Nat} {u : Value}, VR w'.heap (LL (fun _ => False) β0 h0.H) β0 (.rsl id off len z) u → VR w'.heap (LL own β' (h.add (.cells cs2)).H) β' (.rsl h.nx off len z) u := by
    intro off len z u hu
    cases hu with
    | rsl _ _ _ _ b2 base2 cap cur2 e2 fz2 g1 g2 g3 g4 g5 => rw [hb] at g1; cases g1; exact .rsl _ _ _ _ b base cap cur2 e2 fz2 hself g2 g3 g4 g5
    | rsl0 _ _ _ b2 base2 o g1 => rw [hb] at g1; cases g1; exact .rsl0 _ _ _ b base o hself
  refine ⟨cv, v, _, β', rfl, ⟨rfl, rfl⟩, hS, ?_, hT⟩
  cases hhole with
  | one off len z => exact hslot hv0
  | two off len z y' y hy =>
    cases hv0 with
    | tup _ vs hl hvs =>
      refine .tup _ vs (by simpa using hl) fun i c u k1 k2 => ?_
      match i with
      | 0 => simp at k1; subst k1; exact hslot (hvs 0 _ u (by simp) k2)
      | 1 => simp at k1; subst k1; exact frz2 hy (hvs 1 _ u (by simp) k2)
      | i + 2 => simp at k1
theorem recOk_rd {V C : AH} {x : Nat} (h : V.H.get x = C.H.get x) : recOk (.read x) (.eff V C) = true := by
  show obEq _ _ = true
  rw [h]; exact obEq_refl _
@[simp] theorem recOk_read_set (h : AH) (x j : Nat) (o : AObj) (hx : x ≠ j) : recOk (.read x) (.eff h (h.set j o)) = true := recOk_rd (by rw [get_set, if_neg hx])
end Go.Eng
end
