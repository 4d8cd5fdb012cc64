/- The words of the printed functions. Pure contracts: a function that is run where no object is owned may be called wherever its arguments are frozen. How the words of the printed functions are simplified. A call whose arguments are frozen for the call, and whose result is one new object that the caller owns. Arguments that are read: integers, truths, strings, structures of these, slices of these. A call that ends with one new object and changed old ones: what else it has made is forgotten, what the new object holds is frozen. -/
import Derived.Test.YtoibclpbkjbnbaaGreatEngW
import Derived.ChangeArms
import Derived.ChangeSame
set_option linter.unusedSimpArgs false
set_option linter.unusedVariables false
set_option linter.unnecessarySimpa false
noncomputable section
namespace Go.Eng
def gdv (b : Bool) (v : AV) : Option Bool :=
  match some v with
  | some (.bool c) => some (c == b)
  | some (.tup []) => some false
  | _ => none
def rdv (a : AV) : Option Nat :=
  match a with
  | .ptr id _ => some id
  | .gptr g _ => some g
  | _ => none
def alNew (zero : List AV) : Option (List AV × (Nat → AV)) := some (zero, fun r => .ptr r 0)
def alBuildSl (z len : Nat) (zero : List AV) (parts : List (Nat × Nat × AV)) : Option (List AV × (Nat → AV)) :=
  match afill zero parts with
  | some cs => some (cs, fun r => .rsl r 0 len z)
  | none => none
def wdr (h : AH) (n : Nat) (k : Nat → AH → Prop) : Prop := k h.nx ⟨h.H, h.nx + n⟩
def wdp (h : AH) (x : Option (AV × AH)) (c : Rec) (k : AV → Rec → AH → Prop) : Prop := wk x fun v _ => k v c h
inductive RV where
  | val (v : AV)
  | cell (a : AV) (n : Option Nat)
def aresV (h : AH) : List RV → Option (List AV)
  | [] => some []
  | .val v :: r => match aresV h r with
    | some l => some (v :: l)
    | none => none
  | .cell a n :: r =>
    match (match n with
      | none => aload1 h a
      | some n => (aloadn h n a).map .agg), aresV h r with
    | some v, some l => some (v :: l)
    | _, _ => none
end Go.Eng
end
noncomputable section
namespace Go.Eng
def emp : AH := ⟨.leaf, 0⟩
def noB : Bl := fun _ => none

/-- a value in which nothing owned occurs -/
def Closed (a : AV) : Prop := ∀ (hp : Array Obj) (L : Nat → Prop) (β : Bl) (v : Value), VR hp L β a v → VR hp L noB a v

theorem Closed.bool (b : Bool) : Closed (.bool b) := fun _ _ _ _ h => by cases h; exact .bool b
theorem Closed.int (k : IntKind) (n : Int) : Closed (.int k n) := fun _ _ _ _ h => by cases h; exact .int k n
theorem Closed.str (s : List UInt8) : Closed (.str s) := fun _ _ _ _ h => by cases h; exact .str s
theorem Closed.nilptr : Closed .nilptr := fun _ _ _ _ h => by cases h; exact .nilptr
theorem Closed.nilsl : Closed .nilsl := fun _ _ _ _ h => by cases h; exact .nilsl
theorem Closed.esl : Closed .esl := fun _ _ _ _ h => by cases h; exact .esl _
theorem Closed.nilfunc : Closed .nilfunc := fun _ _ _ _ h => by cases h; exact .nilfunc
theorem Closed.nilif : Closed .nilif := fun _ _ _ _ h => by cases h; exact .nilif
theorem Closed.nilmap : Closed .nilmap := fun _ _ _ _ h => by cases h; exact .nilmap
theorem Closed.gptr (g o : Nat) : Closed (.gptr g o) := fun _ _ _ _ h => by cases h; exact .gptr g o
theorem Closed.agg {cs : List AV} (hc : ∀ c ∈ cs, Closed c) : Closed (.agg cs) := fun _ _ _ _ h => by
  cases h with
  | agg _ vs hl h => exact .agg cs vs hl fun i c v h1 h2 => hc c (List.mem_of_getElem? h1) _ _ _ _ (h i c v h1 h2)
theorem Closed.psl {xs : List (List AV)} (hc : ∀ x ∈ xs, ∀ c ∈ x, Closed c) : Closed (.psl xs) := fun _ _ _ _ h => by
  cases h with
  | psl0 a cap => exact .psl0 a cap
  | psl _ z b o cap cur e fz hb hL hs hz hcap h => exact .psl xs z b o cap cur e fz hb hL hs hz hcap fun i x j c v h1 h2 h3 => hc x (List.mem_of_getElem? h1) c (List.mem_of_getElem? h2) _ _ _ _ (h i x j c v h1 h2 h3)
theorem Closed.pptr {cs : List AV} (hc : ∀ c ∈ cs, Closed c) : Closed (.pptr cs) := fun _ _ _ _ h => by
  cases h with
  | pptr _ b o cur e fz hb hL hs h => exact .pptr cs b o cur e fz hb hL hs fun i c v h1 h2 => hc c (List.mem_of_getElem? h1) _ _ _ _ (h i c v h1 h2)
theorem Closed.func {fn : Fn} {f1 c1 : List AV} (h1 : ∀ c ∈ f1, Closed c) (h2 : ∀ c ∈ c1, Closed c) : Closed (.func fn f1 c1) := fun _ _ _ _ h => by
  cases h with
  | func _ _ _ f2 c2 hl1 hl2 g1 g2 => exact .func fn f1 c1 f2 c2 hl1 hl2 (fun i c v q1 q2 => h1 c (List.mem_of_getElem? q1) _ _ _ _ (g1 i c v q1 q2)) (fun i c v q1 q2 => h2 c (List.mem_of_getElem? q1) _ _ _ _ (g2 i c v q1 q2))

/-- A value and what it is when all objects that it reaches are frozen; n: nothing is reached that was frozen before. -/
inductive Frz (h : AH) (n : Bool) : AV → AV → Prop where
  | undef (a : AV) : Frz h n a .undef
  | bool (b : Bool) : Frz h n (.bool b) (.bool b)
  | int (k : IntKind) (m : Int) : Frz h n (.int k m) (.int k m)
  | str (s : List UInt8) : Frz h n (.str s) (.str s)
  | nilptr : Frz h n .nilptr .nilptr
  | nilfunc : Frz h n .nilfunc .nilfunc
  | nilif : Frz h n .nilif .nilif
  | nilmap : Frz h n .nilmap .nilmap
  | nilsl0 : Frz h n .nilsl .nilsl
  | nilsl : Frz h n .nilsl (.psl [])
  | esl0 : Frz h n .esl .esl
  | esl : Frz h n .esl (.psl [])
  | gptr (g o : Nat) : Frz h n (.gptr g o) (.gptr g o)
  | agg (cs ds : List AV) (hl : cs.length = ds.length) (hc : ∀ (i : Nat) (c d : AV), cs[i]? = some c → ds[i]? = some d → Frz h n c d) : Frz h n (.agg cs) (.agg ds)
  | tup (cs ds : List AV) (hl : cs.length = ds.length) (hc : ∀ (i : Nat) (c d : AV), cs[i]? = some c → ds[i]? = some d → Frz h n c d) : Frz h n (.tup cs) (.tup ds)
  | psl0 : Frz h n (.psl []) (.psl [])
  | psl (hn : n = false) (xs ys : List (List AV)) (hl : xs.length = ys.length) (hx : ∀ (i : Nat) (x y : List AV), xs[i]? = some x → ys[i]? = some y → x.length = y.length)
      (hc : ∀ (i : Nat) (x y : List AV) (j : Nat) (c d : AV), xs[i]? = some x → ys[i]? = some y → x[j]? = some c → y[j]? = some d → Frz h n c d) : Frz h n (.psl xs) (.psl ys)
  | pptr (hn : n = false) (cs ds : List AV) (hl : cs.length = ds.length) (hc : ∀ (i : Nat) (c d : AV), cs[i]? = some c → ds[i]? = some d → Frz h n c d) : Frz h n (.pptr cs) (.pptr ds)
  | rsl (id off z : Nat) (cs : List AV) (ys : List (List AV)) (ho : h.cellsAt id = some cs) (hs : off + ys.length * z ≤ cs.length) (hz : ∀ (i : Nat) (y : List AV), ys[i]? = some y → y.length = z)
      (hc : ∀ (i : Nat) (y : List AV) (j : Nat) (c d : AV), ys[i]? = some y → y[j]? = some d → cs[off + i * z + j]? = some c → Frz h n c d) : Frz h n (.rsl id off ys.length z) (.psl ys)
  | ptr (id off : Nat) (cs ds : List AV) (ho : h.cellsAt id = some cs) (hs : off + ds.length ≤ cs.length) (hc : ∀ (i : Nat) (c d : AV), cs[off + i]? = some c → ds[i]? = some d → Frz h n c d) : Frz h n (.ptr id off) (.pptr ds)
  | func (fn : Fn) (f1 c1 f2 c2 : List AV) (hl1 : f1.length = f2.length) (hl2 : c1.length = c2.length) (h1 : ∀ (i : Nat) (c d : AV), f1[i]? = some c → f2[i]? = some d → Frz h n c d) (h2 : ∀ (i : Nat) (c d : AV), c1[i]? = some c → c2[i]? = some d → Frz h n c d) : Frz h n (.func fn f1 c1) (.func fn f2 c2)
  | iface (t : TypeId) (a b : AV) (hb : Frz h n a b) : Frz h n (.iface t a) (.iface t b)

theorem get_of_len {α β : Type} {l : List α} {m : List β} (h : l.length = m.length) {i : Nat} {x : β} (hx : m[i]? = some x) : ∃ y, l[i]? = some y := by
  have : i < m.length := (List.getElem?_eq_some_iff.1 hx).1
  exact ⟨l[i], by simp [h ▸ this]⟩

theorem cellsAt_get {h : AH} {id : Nat} {cs : List AV} (hc : h.cellsAt id = some cs) : h.H.get id = some (.cells cs) := by
  unfold AH.cellsAt at hc
  split at hc
  · rename_i o ho; cases hc; exact ho
  · cases hc

/-- What is frozen is related wherever the blocks of the objects, and what was frozen before, are not to be written. -/
theorem VR.frz {own : Nat → Prop} {β : Bl} {h : AH} {nx : Nat} {w : World} (hs : SimH own β h.H nx w) {L2 : Nat → Prop} {β2 : Bl} {n : Bool} (h1 : ∀ b, live β h.H b → ¬ L2 b) (h2 : n = false → ∀ b, ¬ LL own β h.H b → ¬ L2 b)
    {a a' : AV} (hf : Frz h n a a') : ∀ {v : Value}, VR w.heap (LL own β h.H) β a v → VR w.heap L2 β2 a' v := by
  induction hf with
  | undef a => intro v hv; exact .undef v
  | bool b => intro v hv; cases hv; exact .bool b
  | int k m => intro v hv; cases hv; exact .int k m
  | str s => intro v hv; cases hv; exact .str s
  | nilptr => intro v hv; cases hv; exact .nilptr
  | nilfunc => intro v hv; cases hv; exact .nilfunc
  | nilif => intro v hv; cases hv; exact .nilif
  | nilmap => intro v hv; cases hv; exact .nilmap
  | nilsl0 => intro v hv; cases hv; exact .nilsl
  | nilsl => intro v hv; cases hv; exact .psl0 _ _
  | esl0 => intro v hv; cases hv; exact .esl _
  | esl => intro v hv; cases hv; exact .psl0 _ _
  | gptr g o => intro v hv; cases hv; exact .gptr g o
  | agg cs ds hl hc ih =>
    intro v hv
    cases hv with
    | agg _ vs hl2 hv =>
      refine .agg ds vs (hl ▸ hl2) fun i d v hd hv' => ?_
      obtain ⟨c, hc'⟩ := get_of_len hl hd
      exact ih i c d hc' hd (hv i c v hc' hv')
  | tup cs ds hl hc ih =>
    intro v hv
    cases hv with
    | tup _ vs hl2 hv =>
      refine .tup ds vs (hl ▸ hl2) fun i d v hd hv' => ?_
      obtain ⟨c, hc'⟩ := get_of_len hl hd
      exact ih i c d hc' hd (hv i c v hc' hv')
  | psl0 => intro v hv; cases hv <;> exact .psl0 _ _
  | psl hn xs ys hl hx hc ih =>
    intro v hv
    cases hv with
    | psl0 a cap => cases ys with
      | nil => exact .psl0 a cap
      | cons y ys => simp at hl
    | psl _ z b o cap cur e fz hb hL hs' hz hcap hv =>
      rw [hl]
      refine .psl ys z b o cap cur e fz hb (h2 hn b hL) (hl ▸ hs') (fun i y hy => ?_) (hl ▸ hcap) fun i y j d v hy hd hv' => ?_
      · obtain ⟨x, hx'⟩ := get_of_len hl hy
        rw [← hx i x y hx' hy]; exact hz i x hx'
      · obtain ⟨x, hx'⟩ := get_of_len hl hy
        obtain ⟨c, hc'⟩ := get_of_len (hx i x y hx' hy) hd
        exact ih i x y j c d hx' hy hc' hd (hv i x j c v hx' hc' hv')
  | pptr hn cs ds hl hc ih =>
    intro v hv
    cases hv with
    | pptr _ b o cur e fz hb hL hs' hv =>
      refine .pptr ds b o cur e fz hb (h2 hn b hL) (hl ▸ hs') fun i d v hd hv' => ?_
      obtain ⟨c, hc'⟩ := get_of_len hl hd
      exact ih i c d hc' hd (hv i c v hc' hv')
  | rsl id off z cs ys ho hs' hz hc ih =>
    intro v hv
    obtain ⟨b, base, hb, hnb, cur, e, hcur, hcs, hcell⟩ := hs.obj id _ (cellsAt_get ho)
    have hlive : live β h.H b := ⟨id, _, base, cellsAt_get ho, hb⟩
    generalize hlen : ys.length = len at hv
    cases hv with
    | rsl _ _ _ _ b' base' cap cur' e' hb' hcur' hcap hm hs2 =>
      rw [hb] at hb'; cases hb'
      rw [hcur] at hcur'; cases hcur'
      subst hlen
      refine .psl ys z b (base + off) cap cur e (0, 0) hcur (h1 b hlive) (by omega) hz hcap fun i y j d v hy hd hv' => ?_
      have hi : i < ys.length := (List.getElem?_eq_some_iff.1 hy).1
      have hj : j < z := by rw [← hz i y hy]; exact (List.getElem?_eq_some_iff.1 hd).1
      have hb1 : i * z + z ≤ ys.length * z := by
        have := Nat.mul_le_mul_right z (show i + 1 ≤ ys.length by omega)
        rw [Nat.succ_mul] at this; exact this
      have hlt : off + i * z + j < cs.length := by omega
      exact ih i y j cs[off + i * z + j] d hy hd (by simp [hlt]) (hcell (off + i * z + j) _ v (by simp [hlt]) (by rw [← hv']; congr 1; omega))
    | rsl0 _ _ _ b' base' o hb' =>
      cases ys with
      | nil => exact .psl0 _ _
      | cons y ys => simp at hlen
  | ptr id off cs ds ho hs' hc ih =>
    intro v hv
    obtain ⟨b, base, hb, hnb, cur, e, hcur, hcs, hcell⟩ := hs.obj id _ (cellsAt_get ho)
    have hlive : live β h.H b := ⟨id, _, base, cellsAt_get ho, hb⟩
    cases hv with
    | ptr _ _ b' base' hb' =>
      rw [hb] at hb'; cases hb'
      refine .pptr ds b (base + off) cur e (0, 0) hcur (h1 b hlive) (by omega) fun i d v hd hv' => ?_
      have hi : i < ds.length := (List.getElem?_eq_some_iff.1 hd).1
      have hlt : off + i < cs.length := by omega
      exact ih i cs[off + i] d (by simp [hlt]) hd (hcell (off + i) _ v (by simp [hlt]) (by rw [← hv']; congr 1; omega))
  | func fn f1 c1 f2 c2 hl1 hl2 g1 g2 ih1 ih2 =>
    intro v hv
    cases hv with
    | func _ _ _ u1 u2 k1 k2 q1 q2 =>
      refine .func fn f2 c2 u1 u2 (hl1 ▸ k1) (hl2 ▸ k2) (fun i d v hd hv' => ?_) (fun i d v hd hv' => ?_)
      · obtain ⟨c, hc'⟩ := get_of_len hl1 hd
        exact ih1 i c d hc' hd (q1 i c v hc' hv')
      · obtain ⟨c, hc'⟩ := get_of_len hl2 hd
        exact ih2 i c d hc' hd (q2 i c v hc' hv')
  | iface t a b hb ih =>
    intro v hv
    cases hv with
    | iface _ _ v hv => exact .iface t b v (ih hv)

theorem live_emp (β : Bl) (b : Nat) : ¬ live β emp.H b := by
  rintro ⟨id, o, base, h, _⟩; simp [emp, PM.get] at h
theorem simH_emp {own : Nat → Prop} {w : World} (h : ∀ b, own b → b < w.heap.size) : SimH own noB emp.H emp.nx w :=
  ⟨fun _ _ => rfl, fun id b base h => by simp [noB] at h, h, fun id o h => by simp [emp, PM.get] at h, fun id id' o o' b x y h => by simp [emp, PM.get] at h⟩

theorem SimH.ll {own : Nat → Prop} {β : Bl} {H : Hp} {nx : Nat} {w : World} (hs : SimH own β H nx w) {b : Nat} (hb : LL own β H b) : b < w.heap.size := by
  rcases hb with h | ⟨id, o, base, _, h2⟩
  · exact hs.ownlt b h
  · exact hs.lt id b base h2

/-- A function that is run where nothing is owned, on arguments that are frozen here. -/
theorem frame {P : Program} {f : Nat} {args pargs : List AV} {h : AH} {n : Bool} {R : AV → AH → Prop} {v : AV} (hc : CallsA P f pargs emp R) (hR : ∀ v' h', R v' h' → Frz h' n v' v)
    (ha : (n = false ∧ pargs = args ∧ ∀ a ∈ args, Closed a) ∨ (n = true ∧ args.length = pargs.length ∧ ∀ (i : Nat) (a b : AV), args[i]? = some a → pargs[i]? = some b → Frz h false a b)) : CallD P f args h v h := by
  refine ⟨hc.1, fun own β w cargs hs hRL => ?_⟩
  have main : ∀ own' : Nat → Prop, (∀ b, own' b → b < w.heap.size) → RL w.heap (LL own' noB emp.H) noB pargs cargs.toList → (n = false → own' = LL own β h.H) →
      Calls P f cargs w fun e w' => ∃ cv v1 h1 β', e = .returned cv ∧ (v1 = v ∧ h1 = h) ∧ SimH own β' h1.H h1.nx w' ∧ VR w'.heap (LL own β' h1.H) β' v1 cv ∧ Trans own β h w β' h1 w' := by
    intro own' ho hp hn
    refine (hc.2 own' noB w cargs (simH_emp ho) hp).mono ?_
    rintro e w' ⟨cv, v0, h0, β0, rfl, hq, hs0, hv0, ht⟩
    have hkeep : ∀ b, b < w.heap.size → w'.heap[b]? = w.heap[b]? := fun b hb => ht.keep b hb (live_emp _ b)
    have hT : Trans own β h w β h w' := ⟨fun _ _ h => h, fun _ _ => rfl, Nat.le_refl _, ht.size, fun b hb _ => hkeep b hb, fun _ h => .inl h, fun b cur e fz hb => ⟨cur, by rw [hkeep b (lt_of_get hb)]; exact hb, rfl⟩, ht.os, ht.tape, ht.output⟩
    have hS : SimH own β h.H h.nx w' := by
      refine ⟨hs.fresh, fun id b base hb => Nat.lt_of_lt_of_le (hs.lt id b base hb) ht.size, fun b hb => Nat.lt_of_lt_of_le (hs.ownlt b hb) ht.size, fun id o hg => ?_, hs.inj⟩
      obtain ⟨b, base, hb, hnb, hor⟩ := hs.obj id o hg
      refine ⟨b, base, hb, hnb, ?_⟩
      have hlt := hs.lt id b base hb
      cases o with
      | cells cs =>
        obtain ⟨cur, e, q1, q2, q3⟩ := hor
        exact ⟨cur, e, by rw [hkeep b hlt]; exact q1, q2, fun i c v k1 k2 => (q3 i c v k1 k2).later hT.later⟩
      | map kvs =>
        obtain ⟨q0, es, q1, q2, q3⟩ := hor
        exact ⟨q0, es, by rw [hkeep b hlt]; exact q1, q2, fun i kv e k1 k2 => ⟨(q3 i kv e k1 k2).1.later hT.later, (q3 i kv e k1 k2).2.1.later hT.later, (q3 i kv e k1 k2).2.2⟩⟩
      | siter s pos => exact ⟨hor.1, by rw [hkeep b hlt]; exact hor.2⟩
      | glob g cs =>
        obtain ⟨q0, q00, cur, e, fz, q1, q2, q3⟩ := hor
        exact ⟨q0, q00, cur, e, fz, by rw [hkeep b hlt]; exact q1, q2, fun i c v k1 k2 => (q3 i c v k1 k2).later hT.later⟩
    refine ⟨cv, v, h, β, rfl, ⟨rfl, rfl⟩, hS, ?_, hT⟩
    refine VR.frz hs0 (fun b hb hl => ?_) (fun hn' b hb hl => ?_) (hR v0 h0 hq) hv0
    · rcases ht.live b hb with h1 | h1
      · exact live_emp _ b h1
      · have := hs.ll hl; omega
    · have := hn hn'
      subst this
      exact hb (.inl hl)
  rcases ha with ⟨hn, rfl, hcl⟩ | ⟨hn, hlen, hfz⟩
  · refine main (LL own β h.H) (fun b hb => hs.ll hb) ⟨hRL.1, fun i c v h1 h2 => ?_⟩ (fun _ => rfl)
    have := hcl c (List.mem_of_getElem? h1) _ _ _ _ (hRL.2 i c v h1 h2)
    have heq : LL (LL own β h.H) noB emp.H = LL own β h.H := by
      funext b
      apply propext
      exact ⟨fun hx => hx.elim id (fun hl => absurd hl (live_emp _ b)), .inl⟩
    rw [heq]; exact this
  · refine main (fun _ => False) (fun b hb => hb.elim) ⟨hlen ▸ hRL.1, fun i d v h1 h2 => ?_⟩ (fun h => by rw [hn] at h; cases h)
    obtain ⟨a, ha⟩ := get_of_len hlen h1
    exact VR.frz hs (fun b _ hl => hl.elim (fun h => h) (live_emp _ b)) (fun _ b _ hl => hl.elim (fun h => h) (live_emp _ b)) (hfz i a d ha h1) (hRL.2 i a v ha h2)

/-- wherever it is called with these arguments, it returns this value and leaves all objects as they are -/
def Pure (P : Program) (f : Nat) (args : List AV) (v : AV) : Prop := ∀ h, CallD P f args h v h
theorem Pure.of {P : Program} {f : Nat} {args : List AV} {v : AV} (hcl : ∀ a ∈ args, Closed a) (hc : CallsA P f args emp fun v' h' => Frz h' false v' v) : Pure P f args v :=
  fun _ => frame hc (fun _ _ h => h) (.inl ⟨rfl, rfl, hcl⟩)
/-- what it returns reaches nothing that was there before -/
def Fresh (P : Program) (f : Nat) (args : List AV) (v : AV) : Prop := CallsA P f args emp fun v' h' => Frz h' true v' v
theorem Fresh.call {P : Program} {f : Nat} {args pargs : List AV} {v : AV} {h : AH} (hf : Fresh P f pargs v) (hlen : args.length = pargs.length) (ha : ∀ (i : Nat) (a b : AV), args[i]? = some a → pargs[i]? = some b → Frz h false a b) : CallD P f args h v h :=
  frame hf (fun _ _ h => h) (.inr ⟨rfl, hlen, ha⟩)
end Go.Eng
end
noncomputable section
namespace Go.Eng
@[simp ↓] theorem wk_some (v : AV) (h : AH) (k : AV → AH → Prop) : wk (some (v, h)) k = k v h := Eq.trans rfl rfl
@[simp ↓] theorem wif_bool (b : Bool) (x y : Prop) : wif (.bool b) x y = ((b = true → x) ∧ (b = false → y)) := Eq.trans rfl rfl
@[simp ↓] theorem wg_some (b : Bool) (A : (AV → AH → Prop) → Prop) (h : AH) (k : AV → AH → Prop) : wg (some b) A h k = ((b = true → A k) ∧ (b = false → k skipped h)) := Eq.trans rfl rfl
@[simp ↓] theorem wsp_bool (b : Bool) (K : AV → Prop) : wsp (.bool b) K = ((b = true → K (.bool true)) ∧ (b = false → K (.bool false))) := Eq.trans rfl rfl
attribute [simp ↓] xs
@[simp ↓ high] theorem wsp_true (K : AV → Prop) : wsp (.bool true) K = K (.bool true) := by simp [wsp]
@[simp ↓ high] theorem wg_true (A : (AV → AH → Prop) → Prop) (h : AH) (k : AV → AH → Prop) : wg (some true) A h k = A k := by simp [wg]
@[simp ↓ high] theorem wif_true (x y : Prop) : wif (.bool true) x y = x := by simp [wif]
@[simp ↓ high] theorem wif_false (x y : Prop) : wif (.bool false) x y = y := by simp [wif]
@[simp high] theorem gdv_tt : gdv true (.bool true) = some true := Eq.trans rfl rfl
@[simp high] theorem kPick_true (h : AH) (x y : AV) : kPick h (.bool true) x y = some (x, h) := Eq.trans rfl rfl
@[simp] theorem nthD_zero (a : AV) (l : List AV) : nthD (a :: l) 0 = a := Eq.trans rfl rfl
@[simp] theorem nthD_succ (a : AV) (l : List AV) (n : Nat) : nthD (a :: l) (n + 1) = nthD l n := Eq.trans rfl rfl
@[simp ↓] theorem lk_nrm (m : Nat) (I : Nat → List AV → AH → Prop) (k : AX → List AV → AH → Prop) (vi vo : List AV) (h : AH) : lk m I k .nrm vi vo h = ∃ m', m' < m ∧ I m' vi h := Eq.trans rfl rfl
@[simp ↓] theorem lk_exit (m : Nat) (I : Nat → List AV → AH → Prop) (k : AX → List AV → AH → Prop) (j : Nat) (vi vo : List AV) (h : AH) : lk m I k (.exit j) vi vo h = k (.exit j) vo h := Eq.trans rfl rfl
@[simp ↓] theorem wcall_func (cl : CL) (g : Nat) (first captured args : List AV) (h : AH) (k : AV → AH → Prop) : wcall cl (.func (.func g) first captured) args h k = cl g (first ++ args ++ captured) h k := Eq.trans rfl rfl
@[simp ↓] theorem wdr_eq (h : AH) (n : Nat) (k : Nat → AH → Prop) : wdr h n k = k h.nx ⟨h.H, h.nx + n⟩ := Eq.trans rfl rfl
@[simp ↓] theorem wdp_some (h : AH) (v : AV) (h' : AH) (c : Rec) (k : AV → Rec → AH → Prop) : wdp h (some (v, h')) c k = k v c h := Eq.trans rfl rfl
/-! the continuations are left alone until they are reached -/
@[congr] theorem wk_congr {r r' : Option (AV × AH)} {k : AV → AH → Prop} (h : r = r') : wk r k = wk r' k := by rw [h]
@[congr] theorem wg_congr {g g' : Option Bool} {A : (AV → AH → Prop) → Prop} {h : AH} {k : AV → AH → Prop} (hg : g = g') : wg g A h k = wg g' A h k := by rw [hg]
@[congr] theorem wdp_congr {h : AH} {x x' : Option (AV × AH)} {c : Rec} {k : AV → Rec → AH → Prop} (hx : x = x') : wdp h x c k = wdp h x' c k := by rw [hx]
@[simp] theorem stow_agg (cs : List AV) : stow (.agg cs) = true := by unfold stow; rfl
@[simp] theorem stow_int (k : IntKind) (n : Int) : stow (.int k n) = true := by unfold stow; rfl
@[simp] theorem stow_str (b : List UInt8) : stow (.str b) = true := by unfold stow; rfl
@[simp] theorem aresV_val (h : AH) (v : AV) (r : List RV) : aresV h (.val v :: r) = match aresV h r with | some l => some (v :: l) | none => none := Eq.trans rfl rfl
@[simp] theorem kBuild_eq (h : AH) (zero : List AV) (ps : List (Nat × Nat × AV)) : kBuild h zero ps = match afill zero ps with | some cs => some (.agg cs, h) | none => none := Eq.trans rfl rfl
@[simp] theorem afill_nil (cs : List AV) : afill cs [] = some cs := Eq.trans rfl rfl
@[simp] theorem afill_cons (cs : List AV) (off size : Nat) (x : AV) (r : List (Nat × Nat × AV)) (hs : stow x = true) : afill cs ((off, size, x) :: r) = if x.cells.length = size then (match splice cs off x.cells with | some cs' => afill cs' r | none => none) else none := by
  show (if stow x then _ else _) = _
  rw [if_pos hs]; rfl
/-! ## the heap of owned objects -/
@[simp] theorem nx_add (h : AH) (o : AObj) : (h.add o).nx = h.nx + 1 := by cases h; rfl
@[simp] theorem nx_set (h : AH) (i : Nat) (o : AObj) : (h.set i o).nx = h.nx := by cases h; rfl
@[simp] theorem nx_kill (h : AH) (i : Nat) : (h.kill i).nx = h.nx := by cases h; rfl
@[simp] theorem nx_mk (H : Hp) (n : Nat) : AH.nx ⟨H, n⟩ = n := Eq.trans rfl rfl
@[simp] theorem nx_emp : emp.nx = 0 := by decide
theorem get_add (h : AH) (o : AObj) (i : Nat) : (h.add o).H.get i = if i = h.nx then some o else h.H.get i := PM.get_put _ _ _ _
theorem get_set (h : AH) (j : Nat) (o : AObj) (i : Nat) : (h.set j o).H.get i = if i = j then some o else h.H.get i := PM.get_put _ _ _ _
theorem get_kill (h : AH) (j : Nat) (i : Nat) : (h.kill j).H.get i = if i = j then none else h.H.get i := PM.get_del _ _ _
theorem cellsAt_congr {h h' : AH} {i : Nat} (he : h'.H.get i = h.H.get i) : h'.cellsAt i = h.cellsAt i := by unfold AH.cellsAt; rw [he]
theorem cellsAt_add_self (h : AH) (cs : List AV) (i : Nat) (hi : i = h.nx) : (h.add (.cells cs)).cellsAt i = some cs := by unfold AH.cellsAt; rw [get_add, if_pos hi]
theorem cellsAt_add_ne (h : AH) (o : AObj) (i : Nat) (hi : i ≠ h.nx) : (h.add o).cellsAt i = h.cellsAt i := cellsAt_congr (by rw [get_add, if_neg hi])
theorem cellsAt_set_self (h : AH) (cs : List AV) (i j : Nat) (hi : i = j) : (h.set j (.cells cs)).cellsAt i = some cs := by unfold AH.cellsAt; rw [get_set, if_pos hi]
theorem cellsAt_set_ne (h : AH) (o : AObj) (i j : Nat) (hi : i ≠ j) : (h.set j o).cellsAt i = h.cellsAt i := cellsAt_congr (by rw [get_set, if_neg hi])
theorem cellsAt_kill_ne (h : AH) (i j : Nat) (hi : i ≠ j) : (h.kill j).cellsAt i = h.cellsAt i := cellsAt_congr (by rw [get_kill, if_neg hi])
@[simp] theorem cellsAt_add (h : AH) (cs : List AV) (i : Nat) : (h.add (.cells cs)).cellsAt i = if i = h.nx then some cs else h.cellsAt i := by
  split
  · rename_i hi; exact cellsAt_add_self h cs i hi
  · rename_i hi; exact cellsAt_add_ne h _ i hi
@[simp] theorem cellsAt_set (h : AH) (cs : List AV) (i j : Nat) : (h.set j (.cells cs)).cellsAt i = if i = j then some cs else h.cellsAt i := by
  split
  · rename_i hi; exact cellsAt_set_self h cs i j hi
  · rename_i hi; exact cellsAt_set_ne h _ i j hi
/-! ## operations -/
@[simp] theorem kMov_eq (h : AH) (x : AV) : kMov h x = some (x, h) := Eq.trans rfl rfl
@[simp] theorem kNew_eq (h : AH) (zero : List AV) : kNew h zero = some (.ptr h.nx 0, h.add (.cells zero)) := Eq.trans rfl rfl
@[simp] theorem kBox_agg (h : AH) (cs : List AV) : kBox h (.agg cs) = some (.ptr h.nx 0, h.add (.cells cs)) := Eq.trans rfl rfl
@[simp] theorem kLd1_ptr' (h : AH) (id off : Nat) : kLd1 h (.ptr id off) = match h.cellsAt id with | some cs => (match cs[off]? with | some v => some (v, h) | none => none) | none => none := by
  simp only [kLd1, aload1]; cases h.cellsAt id <;> rfl
@[simp] theorem kLdn_ptr' (h : AH) (n id off : Nat) : kLdn h n (.ptr id off) = match h.cellsAt id with | some cs => (match cut cs off n with | some ds => some (.agg ds, h) | none => none) | none => none := by
  simp only [kLdn, aloadn]; cases h.cellsAt id <;> rfl
@[simp] theorem kLd1_pptr (h : AH) (cs : List AV) : kLd1 h (.pptr cs) = match cs[0]? with | some v => some (v, h) | none => none := Eq.trans rfl rfl
@[simp] theorem kLdn_pptr (h : AH) (n : Nat) (cs : List AV) : kLdn h n (.pptr cs) = match cut cs 0 n with | some ds => some (.agg ds, h) | none => none := Eq.trans rfl rfl
@[simp] theorem cut_all {cs : List AV} {n : Nat} (hn : cs.length = n) : cut cs 0 n = some cs := by simp [cut, ← hn]
@[simp] theorem splice_all {cs new : List AV} (h : new.length = cs.length) : splice cs 0 new = some new := by simp [splice, h]
@[simp] theorem splice_zero (a b : AV) (l : List AV) : splice (a :: l) 0 [b] = some (b :: l) := by simp [splice]
@[simp] theorem splice_succ (a : AV) (l : List AV) (n : Nat) (new : List AV) : splice (a :: l) (n + 1) new = (splice l n new).map (a :: ·) := by
  unfold splice
  simp only [List.length_cons, List.take_succ_cons, List.drop_succ_cons, show n + 1 + new.length = (n + new.length) + 1 by omega, Nat.add_le_add_iff_right]
  split <;> simp
@[simp] theorem cells_agg (cs : List AV) : AV.cells (.agg cs) = cs := Eq.trans rfl rfl
@[simp] theorem cells_int (k : IntKind) (n : Int) : AV.cells (.int k n) = [.int k n] := Eq.trans rfl rfl
@[simp] theorem cells_str (b : List UInt8) : AV.cells (.str b) = [.str b] := Eq.trans rfl rfl
@[simp] theorem ones_nil : ones [] = true := Eq.trans rfl rfl
@[simp] theorem ones_cons (a : AV) (l : List AV) : ones (a :: l) = (a.one && ones l) := Eq.trans rfl rfl
@[simp] theorem one_int (k : IntKind) (n : Int) : AV.one (.int k n) = true := Eq.trans rfl rfl
@[simp] theorem one_bool (b : Bool) : AV.one (.bool b) = true := Eq.trans rfl rfl
@[simp] theorem one_str (b : List UInt8) : AV.one (.str b) = true := Eq.trans rfl rfl
@[simp] theorem one_nilsl : AV.one .nilsl = true := Eq.trans rfl rfl
@[simp] theorem kSt_ptr' (h : AH) (n id off : Nat) (x : AV) (hs : stow x = true) : kSt h n (.ptr id off) x = if x.cells.length = n && ones x.cells then (match h.cellsAt id with | some cs => (match splice cs off x.cells with | some cs' => some (.undef, h.set id (.cells cs')) | none => none) | none => none) else none := by
  show (if stow x then _ else _) = _
  rw [if_pos hs]; rfl
@[simp] theorem kArith_neq (h : AH) (k : IntKind) (a b : Int) : kArith h .neq (.int k a) (.int k b) = some (.bool (a != b), h) := by simp [kArith, aarith, isShift, iarith]
@[simp] theorem kArith_lss (h : AH) (k : IntKind) (a b : Int) : kArith h .lss (.int k a) (.int k b) = some (.bool (decide (a < b)), h) := by simp [kArith, aarith, isShift, iarith]
@[simp] theorem kArith_gtr (h : AH) (k : IntKind) (a b : Int) : kArith h .gtr (.int k a) (.int k b) = some (.bool (decide (b < a)), h) := by simp [kArith, aarith, isShift, iarith]
theorem wrap64 {n : Int} (h1 : -9223372036854775808 ≤ n) (h2 : n ≤ 9223372036854775807) : IntKind.i64.wrap n = n := by
  unfold IntKind.wrap
  show (if (true && decide (n % 18446744073709551616 ≥ 9223372036854775808)) = true then n % 18446744073709551616 - 18446744073709551616 else n % 18446744073709551616) = n
  simp only [Bool.true_and, decide_eq_true_eq]
  split <;> omega
@[simp] theorem kArith_add (h : AH) (a b : Int) (h1 : -9223372036854775808 ≤ a + b) (h2 : a + b ≤ 9223372036854775807) : kArith h .add (.int .i64 a) (.int .i64 b) = some (.int .i64 (a + b), h) := by simp [kArith, aarith, isShift, iarith, wrap64 h1 h2]
theorem kArith_rem (h : AH) (k : IntKind) (a b : Int) (hb : b ≠ 0) : kArith h .rem (.int k a) (.int k b) = some (.int k (a.tmod b), h) := by simp [kArith, aarith, isShift, iarith, hb]
@[simp] theorem kFldA_ptr (h : AH) (off id o : Nat) : kFldA h off (.ptr id o) = some (.ptr id (o + off), h) := Eq.trans rfl rfl
@[simp] theorem kLen_psl (h : AH) (l : List (List AV)) : kLen h (.psl l) = some (.int .i64 l.length, h) := Eq.trans rfl rfl
theorem aix_int {n : Nat} {i : Int} (h1 : 0 ≤ i) (h2 : i < n) (k : IntKind) : aix n (.int k i) = some i.toNat := by simp [aix, aidx, h1, h2]
theorem kIdxA_psl {h : AH} {z : Nat} {l : List (List AV)} {i : Nat} {c : List AV} (hc : l[i]? = some c) (hz : c.length = z) : kIdxA h z (.psl l) (.int .i64 i) = some (.pptr c, h) := by
  have hi : i < l.length := (List.getElem?_eq_some_iff.1 hc).1
  have : aix l.length (.int .i64 i) = some i := by simp [aix_int (Int.natCast_nonneg i) (by omega : (i : Int) < l.length)]
  simp [kIdxA, aidxA, this, hc, hz]
/-! ## results -/
@[simp] theorem Frz_bool (h : AH) (n a b : Bool) : Frz h n (.bool a) (.bool b) ↔ a = b := ⟨fun h => by cases h; rfl, fun h => by subst h; exact .bool _⟩
def FrzL (h : AH) (n : Bool) : List AV → List AV → Prop
  | [], [] => True
  | c :: cs, d :: ds => Frz h n c d ∧ FrzL h n cs ds
  | _, _ => False
theorem FrzL_iff (h : AH) (n : Bool) : ∀ (cs ds : List AV), FrzL h n cs ds ↔ (cs.length = ds.length ∧ ∀ (i : Nat) (c d : AV), cs[i]? = some c → ds[i]? = some d → Frz h n c d)
  | [], [] => by simp [FrzL]
  | [], d :: ds => by simp [FrzL]
  | c :: cs, [] => by simp [FrzL]
  | c :: cs, d :: ds => by
    simp only [FrzL, FrzL_iff h n cs ds, List.length_cons]
    constructor
    · rintro ⟨h1, h2, h3⟩
      refine ⟨by omega, fun i x y hx hy => ?_⟩
      cases i with
      | zero => simp at hx hy; subst hx; subst hy; exact h1
      | succ i => simp at hx hy; exact h3 i x y hx hy
    · rintro ⟨h1, h2⟩
      exact ⟨h2 0 c d (by simp) (by simp), by omega, fun i x y hx hy => h2 (i + 1) x y (by simpa using hx) (by simpa using hy)⟩
/-! ## tables of contracts -/
structure QE (P : Program) where
  f : Nat
  q : List AV → AH → (AV → AH → Prop) → Prop
  ok : ∀ args h Q, q args h Q → ∃ v h', CallD P f args h v h' ∧ Q v h'
def tb {P : Program} : List (QE P) → CL
  | [], _, _, _, _ => False
  | e :: l, f, args, h, Q => cond (Nat.beq e.f f) (e.q args h Q) (tb l f args h Q)
theorem tb_ok {P : Program} : ∀ l : List (QE P), CLOk P (tb l)
  | [], _, _, _, _, h => h.elim
  | e :: l, f, args, h, Q, hq => by
    unfold tb at hq
    cases hb : Nat.beq e.f f with
    | true =>
      rw [hb] at hq
      obtain rfl := Nat.eq_of_beq_eq_true hb
      exact e.ok args h Q hq
    | false => rw [hb] at hq; exact tb_ok l f args h Q hq
/-- a pure function: its arguments, a condition, its result -/
def QE.pure {P : Program} (f : Nat) {α : Type} (e : α → List AV) (pre : α → Prop) (res : α → AV) (ok : ∀ x, pre x → Pure P f (e x) (res x)) : QE P :=
  ⟨f, fun args h Q => ∃ x, args = e x ∧ pre x ∧ Q (res x) h, fun args h Q ⟨x, h1, h2, h3⟩ => ⟨res x, h, h1 ▸ ok x h2 h, h3⟩⟩
/-- a value in which nothing owned occurs, frozen -/
def Plain (a : AV) : Prop := ∀ (h : AH), Frz h false a a
theorem Plain.bool (b : Bool) : Plain (.bool b) := fun _ => .bool b
theorem Plain.int (k : IntKind) (n : Int) : Plain (.int k n) := fun _ => .int k n
theorem Plain.str (s : List UInt8) : Plain (.str s) := fun _ => .str s
theorem Plain.nilfunc : Plain .nilfunc := fun _ => .nilfunc
theorem Plain.nilptr : Plain .nilptr := fun _ => .nilptr
theorem Plain.agg {cs : List AV} (hc : ∀ c ∈ cs, Plain c) : Plain (.agg cs) := fun h => .agg cs cs rfl fun i c d h1 h2 => by
  rw [h1] at h2; cases h2; exact hc c (List.mem_of_getElem? h1) h
theorem Plain.psl {xs : List (List AV)} (hc : ∀ x ∈ xs, ∀ c ∈ x, Plain c) : Plain (.psl xs) := fun h => .psl rfl xs xs rfl (fun i x y h1 h2 => by rw [h1] at h2; cases h2; rfl) fun i x y j c d h1 h2 h3 h4 => by
  rw [h1] at h2; cases h2; rw [h3] at h4; cases h4; exact hc x (List.mem_of_getElem? h1) c (List.mem_of_getElem? h3) h
theorem Plain.pptr {cs : List AV} (hc : ∀ c ∈ cs, Plain c) : Plain (.pptr cs) := fun h => .pptr rfl cs cs rfl fun i c d h1 h2 => by
  rw [h1] at h2; cases h2; exact hc c (List.mem_of_getElem? h1) h
theorem Plain.func {fn : Fn} {f1 c1 : List AV} (h1 : ∀ c ∈ f1, Plain c) (h2 : ∀ c ∈ c1, Plain c) : Plain (.func fn f1 c1) := fun h => .func fn f1 c1 f1 c1 rfl rfl (fun i c d q1 q2 => by rw [q1] at q2; cases q2; exact h1 c (List.mem_of_getElem? q1) h) (fun i c d q1 q2 => by rw [q1] at q2; cases q2; exact h2 c (List.mem_of_getElem? q1) h)
theorem Pure.call {P : Program} {f : Nat} {args : List AV} {v : AV} {h : AH} {Q : AV → AH → Prop} (hp : Pure P f args v) (hq : Q v h) : CallsA P f args h Q := (hp h).calls hq
end Go.Eng
end
noncomputable section
namespace Go.Eng
open Go.RowKit
theorem Frz.mono {h : AH} {a b : AV} (hf : Frz h true a b) : Frz h false a b := by
  generalize hn : true = n at hf
  induction hf with
  | undef a => exact .undef a
  | bool b => exact .bool b
  | int k m => exact .int k m
  | str s => exact .str s
  | nilptr => exact .nilptr
  | nilfunc => exact .nilfunc
  | nilif => exact .nilif
  | nilmap => exact .nilmap
  | nilsl0 => exact .nilsl0
  | nilsl => exact .nilsl
  | esl0 => exact .esl0
  | esl => exact .esl
  | gptr g o => exact .gptr g o
  | agg cs ds hl hc ih => exact .agg cs ds hl fun i c d h1 h2 => ih i c d h1 h2
  | tup cs ds hl hc ih => exact .tup cs ds hl fun i c d h1 h2 => ih i c d h1 h2
  | psl0 => exact .psl0
  | psl hn' => subst hn; cases hn'
  | pptr hn' => subst hn; cases hn'
  | rsl id off z cs ys ho hs hz hc ih => exact .rsl id off z cs ys ho hs hz fun i y j c d h1 h2 h3 => ih i y j c d h1 h2 h3
  | ptr id off cs ds ho hs hc ih => exact .ptr id off cs ds ho hs fun i c d h1 h2 => ih i c d h1 h2
  | func fn f1 c1 f2 c2 hl1 hl2 h1 h2 ih1 ih2 => exact .func fn f1 c1 f2 c2 hl1 hl2 (fun i c d q1 q2 => ih1 i c d q1 q2) (fun i c d q1 q2 => ih2 i c d q1 q2)
  | iface t a b hb ih => exact .iface t a b (ih)
theorem Fresh.pure {P : Program} {f : Nat} {args : List AV} {v : AV} (hf : Fresh P f args v) (hcl : ∀ a ∈ args, Closed a) : Pure P f args v :=
  Pure.of hcl (hf.mono fun _ _ h => h.mono)

theorem VR.sub {hp : Array Obj} {L L' : Nat → Prop} {β : Bl} (h : ∀ b, L' b → L b) {a : AV} {v : Value} (hv : VR hp L β a v) : VR hp L' β a v :=
  hv.later ⟨fun _ _ h => h, fun b _ hn => ⟨fun hl => hn (h b hl), rfl⟩, fun _ cur _ _ h => ⟨cur, h, rfl⟩⟩

theorem SimH.kill {own : Nat → Prop} {β : Bl} {h : AH} {w : World} (hs : SimH own β h.H h.nx w) (id : Nat) : SimH own β (h.kill id).H h.nx w := by
  have hsub : ∀ b, live β (h.kill id).H b → live β h.H b := by
    rintro b ⟨i, o, base, h1, h2⟩
    rw [get_kill] at h1
    split at h1
    · cases h1
    · exact ⟨i, o, base, h1, h2⟩
  refine ⟨hs.fresh, hs.lt, hs.ownlt, fun i o hi => ?_, fun i j o o' b x y h1 h2 h3 h4 => ?_⟩
  · rw [get_kill] at hi
    split at hi
    · cases hi
    · obtain ⟨b, base, q1, q2, q3⟩ := hs.obj i o hi
      have hw : ∀ b, (own b ∨ live β (h.kill id).H b) → (own b ∨ live β h.H b) := fun b hb => hb.imp_right (hsub b)
      refine ⟨b, base, q1, q2, ?_⟩
      cases o with
      | cells cs => obtain ⟨cur, e, r1, r2, r3⟩ := q3; exact ⟨cur, e, r1, r2, fun i c v k1 k2 => (r3 i c v k1 k2).sub hw⟩
      | map kvs => obtain ⟨r0, es, r1, r2, r3⟩ := q3; exact ⟨r0, es, r1, r2, fun i kv e k1 k2 => ⟨(r3 i kv e k1 k2).1.sub hw, (r3 i kv e k1 k2).2.1.sub hw, (r3 i kv e k1 k2).2.2⟩⟩
      | siter s pos => exact q3
      | glob g cs => obtain ⟨r0, r00, cur, e, fz, r1, r2, r3⟩ := q3; exact ⟨r0, r00, cur, e, fz, r1, r2, fun i c v k1 k2 => (r3 i c v k1 k2).sub hw⟩
  · rw [get_kill] at h1 h2
    split at h1
    · cases h1
    split at h2
    · cases h2
    exact hs.inj i j o o' b x y h1 h2 h3 h4

end Go.Eng
end
noncomputable section
namespace Go.Eng
open Go.RowKit
inductive SH where
  | int (k : IntKind)
  | bool
  | str
  | sl (e : List SH)

mutual
inductive HasSh : AV → SH → Prop where
  | int (k : IntKind) (n : Int) (h : (Lit.int k n).wf = true) : HasSh (.int k n) (.int k)
  | bool (b : Bool) : HasSh (.bool b) .bool
  | str (s : List UInt8) (h : s.length ≤ maxLen) : HasSh (.str s) .str
  | sl (xs : List (List AV)) (e : List SH) (h : xs.length ≤ maxLen) (hx : ∀ x ∈ xs, HasShL x e) : HasSh (.psl xs) (.sl e)
inductive HasShL : List AV → List SH → Prop where
  | nil : HasShL [] []
  | cons (a : AV) (s : SH) (ar : List AV) (ss : List SH) (h : HasSh a s) (hs : HasShL ar ss) : HasShL (a :: ar) (s :: ss)
end
theorem HasShL.len : ∀ {ar : List AV} {ss : List SH}, HasShL ar ss → ar.length = ss.length
  | _, _, .nil => rfl
  | _, _, .cons _ _ _ _ _ hs => by simp [hs.len]
theorem HasShL.append : ∀ {ar bs : List AV} {ss ts : List SH}, HasShL ar ss → HasShL bs ts → HasShL (ar ++ bs) (ss ++ ts)
  | _, _, _, _, .nil, k => k
  | _, _, _, _, .cons a s ar ss h hs, k => .cons a s _ _ h (hs.append k)

def shFs (cells : TypeId → Nat) (rec : TypeId → Option (List SH)) : Nat → List Field → Option (List SH)
  | _, [] => some []
  | off, f :: fs => match rec f.type with
    | some s => if f.offset = off ∧ s.length = cells f.type then (match shFs cells rec (off + s.length) fs with
      | some r => some (s ++ r)
      | none => none) else none
    | none => none
def shOf (P : Program) : Nat → TypeId → Option (List SH)
  | 0, _ => none
  | n + 1, t => match P.underlying t with
    | some .bool => some [.bool]
    | some (.int k) => some [.int k]
    | some .string => some [.str]
    | some (.slice e) => match shOf P n e with
      | some s => if s.length = P.cellsOf e ∧ 0 < s.length then some [.sl s] else none
      | none => none
    | some (.struct fs) => match shFs P.cellsOf (shOf P n) 0 fs.toList with
      | some s => if s.length = P.cellsOf t then some s else none
      | none => none
    | _ => none

theorem exists_list {α : Type} {p : Nat → α → Prop} : ∀ (n : Nat), (∀ i, i < n → ∃ y, p i y) → ∃ l : List α, l.length = n ∧ ∀ i y, l[i]? = some y → p i y
  | 0, _ => ⟨[], rfl, fun i y h => by simp at h⟩
  | n + 1, h => by
    obtain ⟨l, h1, h2⟩ := exists_list n fun i hi => h i (by omega)
    obtain ⟨y, hy⟩ := h n (by omega)
    refine ⟨l ++ [y], by simp [h1], fun i z hz => ?_⟩
    rw [List.getElem?_append] at hz
    split at hz
    · exact h2 i z hz
    · rename_i hi
      have : i = n := by
        have := (List.getElem?_eq_some_iff.1 hz).1
        simp at this; omega
      subst this
      simp [h1] at hz; subst hz; exact hy

section
variable {H : Type} {enc : TypeId × Value → H} {P : Program} {w : World} {spare : Nat → Bool} {held : Bool} {L : Nat → Prop}
def Reads (w : World) (L : Nat → Prop) (ar : List AV) (cs : List Value) : Prop := ar.length = cs.length ∧ ∀ (i : Nat) (c : AV) (v : Value), ar[i]? = some c → cs[i]? = some v → VR w.heap L noB c v

theorem open_fs (hL : ∀ b, ¬ L b) {n m : Nat} {cs : List Value} (ih : ∀ (t : TypeId) (s : List SH) (cs : List Value) (x : DataW H × List MemPlace), shOf P m t = some s → DataW.trod enc P w 0 spare held n t cs = some x → ∃ ar, HasShL ar s ∧ Reads w L ar cs) :
    ∀ (fl : List Field) (off : Nat) (s : List SH), shFs P.cellsOf (shOf P m) off fl = some s → (∀ f ∈ fl, ∃ y, DataW.trod enc P w 0 spare held n f.type ((cs.drop f.offset).take (P.cellsOf f.type)) = some y) →
      ∃ ar, HasShL ar s ∧ ∀ (i : Nat) (c : AV) (v : Value), ar[i]? = some c → cs[off + i]? = some v → VR w.heap L noB c v
  | [], off, s, hs, _ => by simp [shFs] at hs; subst hs; exact ⟨[], .nil, fun i c v h => by simp at h⟩
  | f :: fl, off, s, hs, hf => by
    unfold shFs at hs
    split at hs
    case h_2 => cases hs
    rename_i s1 h1
    split at hs
    case isFalse => cases hs
    rename_i h2
    split at hs
    case h_2 => cases hs
    rename_i r h3
    cases hs
    obtain ⟨y, hy⟩ := hf f (by simp)
    obtain ⟨ar, q1, q2⟩ := ih _ _ _ _ h1 hy
    obtain ⟨bs, q3, q4⟩ := open_fs hL ih fl _ _ h3 fun g hg => hf g (by simp [hg])
    have hl := q1.len
    refine ⟨ar ++ bs, q1.append q3, fun i c v k1 k2 => ?_⟩
    rw [List.getElem?_append] at k1
    split at k1
    · rename_i hi
      refine q2.2 i c v k1 ?_
      rw [List.getElem?_take, if_pos (by omega), List.getElem?_drop, h2.1]; exact k2
    · rename_i hi
      refine q4 (i - ar.length) c v k1 ?_
      rw [← k2]; congr 1; omega

theorem open_sh (hL : ∀ b, ¬ L b) : ∀ (n m : Nat) (t : TypeId) (s : List SH) (cs : List Value) (x : DataW H × List MemPlace), shOf P m t = some s → DataW.trod enc P w 0 spare held n t cs = some x → ∃ ar, HasShL ar s ∧ Reads w L ar cs
  | 0, m, t, s, cs, x, _, h => by simp [DataW.trod] at h
  | n + 1, 0, t, s, cs, x, hs, _ => by simp [shOf] at hs
  | n + 1, m + 1, t, s, cs, x, hs, h => by
    unfold shOf at hs
    split at hs
    · rename_i ht
      cases hs
      obtain ⟨b, rfl, _⟩ := DataW.trod_bool ht h
      exact ⟨[.bool b], .cons _ _ _ _ (.bool b) .nil, rfl, fun i c v h1 h2 => by
        match i with
        | 0 => simp at h1 h2; subst h1; subst h2; exact .bool b
        | i + 1 => simp at h1⟩
    · rename_i k ht
      cases hs
      obtain ⟨z, rfl, _, hw⟩ := DataW.trod_int ht h
      exact ⟨[.int k z], .cons _ _ _ _ (.int k z hw) .nil, rfl, fun i c v h1 h2 => by
        match i with
        | 0 => simp at h1 h2; subst h1; subst h2; exact .int k z
        | i + 1 => simp at h1⟩
    · rename_i ht
      cases hs
      obtain ⟨z, rfl, _, hw⟩ := DataW.trod_string ht h
      refine ⟨[.str z.data.toList], .cons _ _ _ _ (.str _ (by simpa using hw)) .nil, rfl, fun i c v h1 h2 => ?_⟩
      match i with
      | 0 =>
        simp at h1 h2; subst h1; subst h2
        have : z = ⟨z.data.toList.toArray⟩ := by cases z; simp
        rw [this]; exact .str _
      | i + 1 => simp at h1
    · rename_i e ht
      split at hs
      case h_2 => cases hs
      rename_i s1 h1
      split at hs
      case isFalse => cases hs
      rename_i h2
      cases hs
      rcases DataW.trod_slice ht h with ⟨rfl, _⟩ | ⟨a, len, cap, elems, rest, n', hn, rfl, _, _, hlc, hcm, hel, hx, _, _⟩
      · refine ⟨[.psl []], .cons _ _ _ _ (.sl [] _ (by simp) (fun x hx => by simp at hx)) .nil, rfl, fun i c v q1 q2 => ?_⟩
        match i with
        | 0 => simp at q1 q2; subst q1; subst q2; exact .psl0 none 0
        | i + 1 => simp at q1
      · cases hn
        have each : ∀ i, i < len → ∃ ar : List AV, HasShL ar s1 ∧ ∃ ds, w.cells? 0 (a.add (i * P.cellsOf e)) (P.cellsOf e) = some ds ∧ Reads w L ar ds := by
          intro i hi
          have := hx i hi
          obtain ⟨y, hy⟩ : ∃ y, elems[i]? = some y := ⟨elems[i], by simp [hel, hi]⟩
          rw [hy, Option.bind_eq_some_iff] at this
          obtain ⟨ds, q1, q2⟩ := this
          obtain ⟨ar, q3, q4⟩ := open_sh hL n m e s1 ds y h1 q2
          exact ⟨ar, q3, ds, q1, q4⟩
        obtain ⟨l, hl1, hl2⟩ := exists_list len each
        have hmem : ∀ x ∈ l, HasShL x s1 := fun x hx => by
          obtain ⟨i, hi⟩ := List.getElem?_of_mem hx
          exact (hl2 i x hi).1
        refine ⟨[.psl l], .cons _ _ _ _ (.sl l s1 (by omega) hmem) .nil, rfl, fun i c v q1 q2 => ?_⟩
        match i with
        | i + 1 => simp at q1
        | 0 =>
          simp at q1 q2; subst q1; subst q2
          by_cases hz : len = 0
          · subst hz
            have : l = [] := List.length_eq_zero_iff.1 hl1
            subst this
            exact .psl0 _ _
          · -- the block
            have cellat : ∀ i j, i < len → j < s1.length → ∃ v, w.cell? (a.add (i * P.cellsOf e + j)) = some v ∧ ∀ x c, l[i]? = some x → x[j]? = some c → VR w.heap L noB c v := by
              intro i j hi hj
              obtain ⟨y, hy⟩ : ∃ y, l[i]? = some y := ⟨l[i]'(by omega), by simp [hl1, hi]⟩
              obtain ⟨q3, ds, q4, q5⟩ := hl2 i y hy
              obtain ⟨_, q6, q7⟩ := World.cells?_some q4
              have hj2 : j < ds.length := by omega
              have := q7 j (by omega)
              rw [show (a.add (i * P.cellsOf e)).add j = a.add (i * P.cellsOf e + j) by unfold Addr.add; (repeat' split) <;> simp_all [Nat.add_assoc]] at this
              refine ⟨ds[j], by rw [this]; simp [hj2], fun x c k1 k2 => ?_⟩
              rw [hy] at k1; cases k1
              exact q5.2 j c _ k2 (by simp [hj2])
            obtain ⟨v0, hv0, _⟩ := cellat 0 0 (by omega) h2.2
            obtain ⟨b, o, sp⟩ := a
            have hsp : sp = none := by
              have := World.cell?_spot hv0
              simpa [Addr.add] using this
            subst hsp
            have hadd : ∀ n, (⟨b, o, none⟩ : Addr).add n = ⟨b, o + n, none⟩ := fun n => add_lit' b o n
            rw [hadd] at hv0
            obtain ⟨cur, et, fz, hb⟩ : ∃ cur et fz, w.heap[b]? = some (.cells cur et fz) := by
              unfold World.cell? at hv0
              split at hv0
              · rename_i c et fz hq; exact ⟨c, et, fz, hq⟩
              · cases hv0
            have hcell : ∀ n v, w.cell? ⟨b, o + n, none⟩ = some v → cur[o + n]? = some v := by
              intro n v hv
              unfold World.cell? at hv
              simp only [hb] at hv
              simpa using hv
            have hsz : o + l.length * s1.length ≤ cur.size := by
              obtain ⟨v1, hv1, _⟩ := cellat (len - 1) (s1.length - 1) (by omega) (by omega)
              rw [hadd] at hv1
              have := (Array.getElem?_eq_some_iff.1 (hcell _ _ hv1)).1
              rw [← h2.1] at this
              rw [hl1]
              have h4 : len * s1.length = (len - 1) * s1.length + s1.length := by
                conv => lhs; rw [show len = (len - 1) + 1 by omega]
                rw [Nat.succ_mul]
              have := h2.2
              omega
            have := VR.psl (hp := w.heap) (L := L) (β := noB) l s1.length b o cap cur et fz hb (hL b) hsz (fun i x hi => (hl2 i x hi).1.len) (by omega) (fun i x j c v k1 k2 k3 => ?_)
            · rw [hl1] at this; exact this
            · have hi : i < len := by have := (List.getElem?_eq_some_iff.1 k1).1; omega
              have hj : j < s1.length := by
                have := (List.getElem?_eq_some_iff.1 k2).1
                rw [(hl2 i x k1).1.len] at this; exact this
              obtain ⟨v1, hv1, hv2⟩ := cellat i j hi hj
              rw [hadd] at hv1
              have := hcell _ _ hv1
              rw [← h2.1, ← Nat.add_assoc] at this
              rw [k3] at this; cases this
              exact hv2 x c k1 k2
    · rename_i fs ht
      split at hs
      case h_2 => cases hs
      rename_i s1 h1
      split at hs
      case isFalse => cases hs
      rename_i h2
      cases hs
      obtain ⟨xs, n', hn, _, hlen, hxl, hf⟩ := DataW.trod_struct ht h
      cases hn
      obtain ⟨ar, q1, q2⟩ := open_fs (cs := cs) hL (fun t s cs x a b => open_sh hL n m t s cs x a b) fs.toList 0 s h1 fun f hfm => by
        obtain ⟨i, hi⟩ := List.getElem?_of_mem hfm
        have hi2 : fs[i]? = some f := by simpa using hi
        have hlt : i < fs.size := (Array.getElem?_eq_some_iff.1 hi2).1
        exact ⟨xs[i]'(by omega), by rw [hf i f hi2]; simp [hxl, hlt]⟩
      exact ⟨ar, q1, by rw [q1.len, hlen]; exact h2, fun i c v k1 k2 => q2 i c v k1 (by rw [Nat.zero_add]; exact k2)⟩
    · cases hs
end
end Go.Eng
end
noncomputable section
namespace Go.Eng
open Go.RowKit
/-- the objects from n on, without one of them -/
def newer (h : AH) (n id : Nat) : Nat → AH
  | 0 => h.kill id
  | k + 1 => (newer h n id k).kill k
def rest (h : AH) (n id : Nat) : AH := newer h n id n
/-- what is frozen stays so where further objects stand -/
theorem Frz.ext {h h' : AH} (he : ∀ i cs, h.cellsAt i = some cs → h'.cellsAt i = some cs) {n : Bool} {a b : AV} (hf : Frz h n a b) : Frz h' n a b := by
  induction hf with
  | undef a => exact .undef a
  | bool b => exact .bool b
  | int k m => exact .int k m
  | str s => exact .str s
  | nilptr => exact .nilptr
  | nilfunc => exact .nilfunc
  | nilif => exact .nilif
  | nilmap => exact .nilmap
  | nilsl0 => exact .nilsl0
  | nilsl => exact .nilsl
  | esl0 => exact .esl0
  | esl => exact .esl
  | gptr g o => exact .gptr g o
  | agg cs ds hl hc ih => exact .agg cs ds hl fun i c d h1 h2 => ih i c d h1 h2
  | tup cs ds hl hc ih => exact .tup cs ds hl fun i c d h1 h2 => ih i c d h1 h2
  | psl0 => exact .psl0
  | psl hn xs ys hl hx hc ih => exact .psl hn xs ys hl hx fun i x y j c d h1 h2 h3 h4 => ih i x y j c d h1 h2 h3 h4
  | pptr hn cs ds hl hc ih => exact .pptr hn cs ds hl fun i c d h1 h2 => ih i c d h1 h2
  | rsl id off z cs ys ho hs hz hc ih => exact .rsl id off z cs ys (he _ _ ho) hs hz fun i y j c d h1 h2 h3 => ih i y j c d h1 h2 h3
  | ptr id off cs ds ho hs hc ih => exact .ptr id off cs ds (he _ _ ho) hs fun i c d h1 h2 => ih i c d h1 h2
  | func fn f1 c1 f2 c2 hl1 hl2 h1 h2 ih1 ih2 => exact .func fn f1 c1 f2 c2 hl1 hl2 (fun i c d q1 q2 => ih1 i c d q1 q2) (fun i c d q1 q2 => ih2 i c d q1 q2)
  | iface t a b hb ih => exact .iface t a b (ih)
theorem FrzL.ext {h h' : AH} (he : ∀ i cs, h.cellsAt i = some cs → h'.cellsAt i = some cs) {n : Bool} {a b : List AV} (hf : FrzL h n a b) : FrzL h' n a b := by
  rw [FrzL_iff] at hf ⊢
  exact ⟨hf.1, fun i c d h1 h2 => (hf.2 i c d h1 h2).ext he⟩
theorem FrzL.app {h : AH} {n : Bool} {a b c d : List AV} (h1 : FrzL h n a b) (h2 : FrzL h n c d) : FrzL h n (a ++ c) (b ++ d) := by
  rw [FrzL_iff] at h1 h2 ⊢
  refine ⟨by simp [h1.1, h2.1], fun i x y hx hy => ?_⟩
  by_cases hi : i < a.length
  · rw [List.getElem?_append_left hi] at hx
    rw [List.getElem?_append_left (by have := h1.1; omega)] at hy
    exact h1.2 i x y hx hy
  · rw [List.getElem?_append_right (by omega)] at hx
    rw [List.getElem?_append_right (by have := h1.1; omega), ← h1.1] at hy
    exact h2.2 _ x y hx hy
/-- nothing stands beyond the next number -/
def WF (h : AH) : Prop := ∀ i, h.nx ≤ i → h.H.get i = none
theorem WF.add {h : AH} (hw : WF h) (o : AObj) : WF (h.add o) := fun i hi => by
  simp at hi
  rw [get_add, if_neg (by omega)]; exact hw i (by omega)
theorem WF.set {h : AH} (hw : WF h) (j : Nat) (hj : j < h.nx) (o : AObj) : WF (h.set j o) := fun i hi => by
  simp at hi
  rw [get_set, if_neg (by omega)]; exact hw i (by omega)
theorem WF.kill {h : AH} (hw : WF h) (j : Nat) : WF (h.kill j) := fun i hi => by
  simp at hi
  rw [get_kill]; split
  · rfl
  · exact hw i (by omega)
end Go.Eng
end
