/- The words of the printed functions. Pure contracts: a function that is run where no object is owned may be called wherever its arguments are frozen. How the words of the printed functions are simplified. The data of the layer, and how they lie in cells. -/
import Derived.Test.YtpnekpbehcbmkaaEngW
set_option linter.unusedSimpArgs false
set_option linter.unusedVariables false
set_option linter.unnecessarySimpa false
noncomputable section
namespace Go.Eng
def gdv (b : Bool) (v : AV) : Option Bool :=
  match some v with
  | some (.bool c) => some (c == b)
  | some (.tup []) => some false
  | _ => none
def rdv (a : AV) : Option Nat :=
  match a with
  | .ptr id _ => some id
  | .gptr g _ => some g
  | _ => none
def alNew (zero : List AV) : Option (List AV × (Nat → AV)) := some (zero, fun r => .ptr r 0)
def alBuildSl (z len : Nat) (zero : List AV) (parts : List (Nat × Nat × AV)) : Option (List AV × (Nat → AV)) :=
  match afill zero parts with
  | some cs => some (cs, fun r => .rsl r 0 len z)
  | none => none
def wdr (h : AH) (n : Nat) (k : Nat → AH → Prop) : Prop := k h.nx ⟨h.H, h.nx + n⟩
def wda (r : Nat) (h : AH) (x : Option (List AV × (Nat → AV))) (k : AV → Rec → AH → Prop) : Prop := wal x fun cs mk => k (mk r) (.alloc r cs) (h.set r (.cells cs))
def wdp (h : AH) (x : Option (AV × AH)) (c : Rec) (k : AV → Rec → AH → Prop) : Prop := wk x fun v _ => k v c h
def wde (h : AH) (x : Option (AV × AH)) (k : AV → Rec → AH → Prop) : Prop := wk x fun v h' => h.nx ≤ h'.nx ∧ k v (.eff h h') h'
def wdc (cl : CL) (f : AV) (args : List AV) (h : AH) (k : AV → Rec → AH → Prop) : Prop := wcall cl f args h fun v h' => h.nx ≤ h'.nx ∧ k v (.eff h h') h'
inductive RV where
  | val (v : AV)
  | cell (a : AV) (n : Option Nat)
def aresV (h : AH) : List RV → Option (List AV)
  | [] => some []
  | .val v :: r => match aresV h r with
    | some l => some (v :: l)
    | none => none
  | .cell a n :: r =>
    match (match n with
      | none => aload1 h a
      | some n => (aloadn h n a).map .agg), aresV h r with
    | some v, some l => some (v :: l)
    | _, _ => none
end Go.Eng
end
noncomputable section
namespace Go.Eng
def emp : AH := ⟨.leaf, 0⟩
def noB : Bl := fun _ => none

/-- a value in which nothing owned occurs -/
def Closed (a : AV) : Prop := ∀ (hp : Array Obj) (L : Nat → Prop) (β : Bl) (v : Value), VR hp L β a v → VR hp L noB a v

theorem Closed.bool (b : Bool) : Closed (.bool b) := fun _ _ _ _ h => by cases h; exact .bool b
theorem Closed.int (k : IntKind) (n : Int) : Closed (.int k n) := fun _ _ _ _ h => by cases h; exact .int k n
theorem Closed.str (s : List UInt8) : Closed (.str s) := fun _ _ _ _ h => by cases h; exact .str s
theorem Closed.nilptr : Closed .nilptr := fun _ _ _ _ h => by cases h; exact .nilptr
theorem Closed.nilsl : Closed .nilsl := fun _ _ _ _ h => by cases h; exact .nilsl
theorem Closed.esl : Closed .esl := fun _ _ _ _ h => by cases h; exact .esl _
theorem Closed.nilfunc : Closed .nilfunc := fun _ _ _ _ h => by cases h; exact .nilfunc
theorem Closed.nilif : Closed .nilif := fun _ _ _ _ h => by cases h; exact .nilif
theorem Closed.nilmap : Closed .nilmap := fun _ _ _ _ h => by cases h; exact .nilmap
theorem Closed.gptr (g o : Nat) : Closed (.gptr g o) := fun _ _ _ _ h => by cases h; exact .gptr g o
theorem Closed.agg {cs : List AV} (hc : ∀ c ∈ cs, Closed c) : Closed (.agg cs) := fun _ _ _ _ h => by
  cases h with
  | agg _ vs hl h => exact .agg cs vs hl fun i c v h1 h2 => hc c (List.mem_of_getElem? h1) _ _ _ _ (h i c v h1 h2)
theorem Closed.psl {xs : List (List AV)} (hc : ∀ x ∈ xs, ∀ c ∈ x, Closed c) : Closed (.psl xs) := fun _ _ _ _ h => by
  cases h with
  | psl0 a cap => exact .psl0 a cap
  | psl _ z b o cap cur e fz hb hL hs hz hcap h => exact .psl xs z b o cap cur e fz hb hL hs hz hcap fun i x j c v h1 h2 h3 => hc x (List.mem_of_getElem? h1) c (List.mem_of_getElem? h2) _ _ _ _ (h i x j c v h1 h2 h3)
theorem Closed.pptr {cs : List AV} (hc : ∀ c ∈ cs, Closed c) : Closed (.pptr cs) := fun _ _ _ _ h => by
  cases h with
  | pptr _ b o cur e fz hb hL hs h => exact .pptr cs b o cur e fz hb hL hs fun i c v h1 h2 => hc c (List.mem_of_getElem? h1) _ _ _ _ (h i c v h1 h2)
theorem Closed.func {fn : Fn} {f1 c1 : List AV} (h1 : ∀ c ∈ f1, Closed c) (h2 : ∀ c ∈ c1, Closed c) : Closed (.func fn f1 c1) := fun _ _ _ _ h => by
  cases h with
  | func _ _ _ f2 c2 hl1 hl2 g1 g2 => exact .func fn f1 c1 f2 c2 hl1 hl2 (fun i c v q1 q2 => h1 c (List.mem_of_getElem? q1) _ _ _ _ (g1 i c v q1 q2)) (fun i c v q1 q2 => h2 c (List.mem_of_getElem? q1) _ _ _ _ (g2 i c v q1 q2))

/-- A value and what it is when all objects that it reaches are frozen; n: nothing is reached that was frozen before. -/
inductive Frz (h : AH) (n : Bool) : AV → AV → Prop where
  | undef (a : AV) : Frz h n a .undef
  | bool (b : Bool) : Frz h n (.bool b) (.bool b)
  | int (k : IntKind) (m : Int) : Frz h n (.int k m) (.int k m)
  | str (s : List UInt8) : Frz h n (.str s) (.str s)
  | nilptr : Frz h n .nilptr .nilptr
  | nilfunc : Frz h n .nilfunc .nilfunc
  | nilif : Frz h n .nilif .nilif
  | nilmap : Frz h n .nilmap .nilmap
  | nilsl0 : Frz h n .nilsl .nilsl
  | nilsl : Frz h n .nilsl (.psl [])
  | esl0 : Frz h n .esl .esl
  | esl : Frz h n .esl (.psl [])
  | gptr (g o : Nat) : Frz h n (.gptr g o) (.gptr g o)
  | agg (cs ds : List AV) (hl : cs.length = ds.length) (hc : ∀ (i : Nat) (c d : AV), cs[i]? = some c → ds[i]? = some d → Frz h n c d) : Frz h n (.agg cs) (.agg ds)
  | tup (cs ds : List AV) (hl : cs.length = ds.length) (hc : ∀ (i : Nat) (c d : AV), cs[i]? = some c → ds[i]? = some d → Frz h n c d) : Frz h n (.tup cs) (.tup ds)
  | psl0 : Frz h n (.psl []) (.psl [])
  | psl (hn : n = false) (xs ys : List (List AV)) (hl : xs.length = ys.length) (hx : ∀ (i : Nat) (x y : List AV), xs[i]? = some x → ys[i]? = some y → x.length = y.length)
      (hc : ∀ (i : Nat) (x y : List AV) (j : Nat) (c d : AV), xs[i]? = some x → ys[i]? = some y → x[j]? = some c → y[j]? = some d → Frz h n c d) : Frz h n (.psl xs) (.psl ys)
  | pptr (hn : n = false) (cs ds : List AV) (hl : cs.length = ds.length) (hc : ∀ (i : Nat) (c d : AV), cs[i]? = some c → ds[i]? = some d → Frz h n c d) : Frz h n (.pptr cs) (.pptr ds)
  | rsl (id off z : Nat) (cs : List AV) (ys : List (List AV)) (ho : h.cellsAt id = some cs) (hs : off + ys.length * z ≤ cs.length) (hz : ∀ (i : Nat) (y : List AV), ys[i]? = some y → y.length = z)
      (hc : ∀ (i : Nat) (y : List AV) (j : Nat) (c d : AV), ys[i]? = some y → y[j]? = some d → cs[off + i * z + j]? = some c → Frz h n c d) : Frz h n (.rsl id off ys.length z) (.psl ys)
  | ptr (id off : Nat) (cs ds : List AV) (ho : h.cellsAt id = some cs) (hs : off + ds.length ≤ cs.length) (hc : ∀ (i : Nat) (c d : AV), cs[off + i]? = some c → ds[i]? = some d → Frz h n c d) : Frz h n (.ptr id off) (.pptr ds)
  | func (fn : Fn) (f1 c1 f2 c2 : List AV) (hl1 : f1.length = f2.length) (hl2 : c1.length = c2.length) (h1 : ∀ (i : Nat) (c d : AV), f1[i]? = some c → f2[i]? = some d → Frz h n c d) (h2 : ∀ (i : Nat) (c d : AV), c1[i]? = some c → c2[i]? = some d → Frz h n c d) : Frz h n (.func fn f1 c1) (.func fn f2 c2)
  | iface (t : TypeId) (a b : AV) (hb : Frz h n a b) : Frz h n (.iface t a) (.iface t b)

theorem get_of_len {α β : Type} {l : List α} {m : List β} (h : l.length = m.length) {i : Nat} {x : β} (hx : m[i]? = some x) : ∃ y, l[i]? = some y := by
  have : i < m.length := (List.getElem?_eq_some_iff.1 hx).1
  exact ⟨l[i], by simp [h ▸ this]⟩

theorem cellsAt_get {h : AH} {id : Nat} {cs : List AV} (hc : h.cellsAt id = some cs) : h.H.get id = some (.cells cs) := by
  unfold AH.cellsAt at hc
  split at hc
  · rename_i o ho; cases hc; exact ho
  · cases hc

/-- What is frozen is related wherever the blocks of the objects, and what was frozen before, are not to be written. -/
theorem VR.frz {own : Nat → Prop} {β : Bl} {h : AH} {nx : Nat} {w : World} (hs : SimH own β h.H nx w) {L2 : Nat → Prop} {β2 : Bl} {n : Bool} (h1 : ∀ b, live β h.H b → ¬ L2 b) (h2 : n = false → ∀ b, ¬ LL own β h.H b → ¬ L2 b)
    {a a' : AV} (hf : Frz h n a a') : ∀ {v : Value}, VR w.heap (LL own β h.H) β a v → VR w.heap L2 β2 a' v := by
  induction hf with
  | undef a => intro v hv; exact .undef v
  | bool b => intro v hv; cases hv; exact .bool b
  | int k m => intro v hv; cases hv; exact .int k m
  | str s => intro v hv; cases hv; exact .str s
  | nilptr => intro v hv; cases hv; exact .nilptr
  | nilfunc => intro v hv; cases hv; exact .nilfunc
  | nilif => intro v hv; cases hv; exact .nilif
  | nilmap => intro v hv; cases hv; exact .nilmap
  | nilsl0 => intro v hv; cases hv; exact .nilsl
  | nilsl => intro v hv; cases hv; exact .psl0 _ _
  | esl0 => intro v hv; cases hv; exact .esl _
  | esl => intro v hv; cases hv; exact .psl0 _ _
  | gptr g o => intro v hv; cases hv; exact .gptr g o
  | agg cs ds hl hc ih =>
    intro v hv
    cases hv with
    | agg _ vs hl2 hv =>
      refine .agg ds vs (hl ▸ hl2) fun i d v hd hv' => ?_
      obtain ⟨c, hc'⟩ := get_of_len hl hd
      exact ih i c d hc' hd (hv i c v hc' hv')
  | tup cs ds hl hc ih =>
    intro v hv
    cases hv with
    | tup _ vs hl2 hv =>
      refine .tup ds vs (hl ▸ hl2) fun i d v hd hv' => ?_
      obtain ⟨c, hc'⟩ := get_of_len hl hd
      exact ih i c d hc' hd (hv i c v hc' hv')
  | psl0 => intro v hv; cases hv <;> exact .psl0 _ _
  | psl hn xs ys hl hx hc ih =>
    intro v hv
    cases hv with
    | psl0 a cap => cases ys with
      | nil => exact .psl0 a cap
      | cons y ys => simp at hl
    | psl _ z b o cap cur e fz hb hL hs' hz hcap hv =>
      rw [hl]
      refine .psl ys z b o cap cur e fz hb (h2 hn b hL) (hl ▸ hs') (fun i y hy => ?_) (hl ▸ hcap) fun i y j d v hy hd hv' => ?_
      · obtain ⟨x, hx'⟩ := get_of_len hl hy
        rw [← hx i x y hx' hy]; exact hz i x hx'
      · obtain ⟨x, hx'⟩ := get_of_len hl hy
        obtain ⟨c, hc'⟩ := get_of_len (hx i x y hx' hy) hd
        exact ih i x y j c d hx' hy hc' hd (hv i x j c v hx' hc' hv')
  | pptr hn cs ds hl hc ih =>
    intro v hv
    cases hv with
    | pptr _ b o cur e fz hb hL hs' hv =>
      refine .pptr ds b o cur e fz hb (h2 hn b hL) (hl ▸ hs') fun i d v hd hv' => ?_
      obtain ⟨c, hc'⟩ := get_of_len hl hd
      exact ih i c d hc' hd (hv i c v hc' hv')
  | rsl id off z cs ys ho hs' hz hc ih =>
    intro v hv
    obtain ⟨b, base, hb, hnb, cur, e, hcur, hcs, hcell⟩ := hs.obj id _ (cellsAt_get ho)
    have hlive : live β h.H b := ⟨id, _, base, cellsAt_get ho, hb⟩
    generalize hlen : ys.length = len at hv
    cases hv with
    | rsl _ _ _ _ b' base' cap cur' e' hb' hcur' hcap hm hs2 =>
      rw [hb] at hb'; cases hb'
      rw [hcur] at hcur'; cases hcur'
      subst hlen
      refine .psl ys z b (base + off) cap cur e (0, 0) hcur (h1 b hlive) (by omega) hz hcap fun i y j d v hy hd hv' => ?_
      have hi : i < ys.length := (List.getElem?_eq_some_iff.1 hy).1
      have hj : j < z := by rw [← hz i y hy]; exact (List.getElem?_eq_some_iff.1 hd).1
      have hb1 : i * z + z ≤ ys.length * z := by
        have := Nat.mul_le_mul_right z (show i + 1 ≤ ys.length by omega)
        rw [Nat.succ_mul] at this; exact this
      have hlt : off + i * z + j < cs.length := by omega
      exact ih i y j cs[off + i * z + j] d hy hd (by simp [hlt]) (hcell (off + i * z + j) _ v (by simp [hlt]) (by rw [← hv']; congr 1; omega))
    | rsl0 _ _ _ b' base' o hb' =>
      cases ys with
      | nil => exact .psl0 _ _
      | cons y ys => simp at hlen
  | ptr id off cs ds ho hs' hc ih =>
    intro v hv
    obtain ⟨b, base, hb, hnb, cur, e, hcur, hcs, hcell⟩ := hs.obj id _ (cellsAt_get ho)
    have hlive : live β h.H b := ⟨id, _, base, cellsAt_get ho, hb⟩
    cases hv with
    | ptr _ _ b' base' hb' =>
      rw [hb] at hb'; cases hb'
      refine .pptr ds b (base + off) cur e (0, 0) hcur (h1 b hlive) (by omega) fun i d v hd hv' => ?_
      have hi : i < ds.length := (List.getElem?_eq_some_iff.1 hd).1
      have hlt : off + i < cs.length := by omega
      exact ih i cs[off + i] d (by simp [hlt]) hd (hcell (off + i) _ v (by simp [hlt]) (by rw [← hv']; congr 1; omega))
  | func fn f1 c1 f2 c2 hl1 hl2 g1 g2 ih1 ih2 =>
    intro v hv
    cases hv with
    | func _ _ _ u1 u2 k1 k2 q1 q2 =>
      refine .func fn f2 c2 u1 u2 (hl1 ▸ k1) (hl2 ▸ k2) (fun i d v hd hv' => ?_) (fun i d v hd hv' => ?_)
      · obtain ⟨c, hc'⟩ := get_of_len hl1 hd
        exact ih1 i c d hc' hd (q1 i c v hc' hv')
      · obtain ⟨c, hc'⟩ := get_of_len hl2 hd
        exact ih2 i c d hc' hd (q2 i c v hc' hv')
  | iface t a b hb ih =>
    intro v hv
    cases hv with
    | iface _ _ v hv => exact .iface t b v (ih hv)

theorem live_emp (β : Bl) (b : Nat) : ¬ live β emp.H b := by
  rintro ⟨id, o, base, h, _⟩; simp [emp, PM.get] at h
theorem simH_emp {own : Nat → Prop} {w : World} (h : ∀ b, own b → b < w.heap.size) : SimH own noB emp.H emp.nx w :=
  ⟨fun _ _ => rfl, fun id b base h => by simp [noB] at h, h, fun id o h => by simp [emp, PM.get] at h, fun id id' o o' b x y h => by simp [emp, PM.get] at h⟩

theorem SimH.ll {own : Nat → Prop} {β : Bl} {H : Hp} {nx : Nat} {w : World} (hs : SimH own β H nx w) {b : Nat} (hb : LL own β H b) : b < w.heap.size := by
  rcases hb with h | ⟨id, o, base, _, h2⟩
  · exact hs.ownlt b h
  · exact hs.lt id b base h2

/-- A function that is run where nothing is owned, on arguments that are frozen here. -/
theorem frame {P : Program} {f : Nat} {args pargs : List AV} {h : AH} {n : Bool} {R : AV → AH → Prop} {v : AV} (hc : CallsA P f pargs emp R) (hR : ∀ v' h', R v' h' → Frz h' n v' v)
    (ha : (n = false ∧ pargs = args ∧ ∀ a ∈ args, Closed a) ∨ (n = true ∧ args.length = pargs.length ∧ ∀ (i : Nat) (a b : AV), args[i]? = some a → pargs[i]? = some b → Frz h false a b)) : CallD P f args h v h := by
  refine ⟨hc.1, fun own β w cargs hs hRL => ?_⟩
  have main : ∀ own' : Nat → Prop, (∀ b, own' b → b < w.heap.size) → RL w.heap (LL own' noB emp.H) noB pargs cargs.toList → (n = false → own' = LL own β h.H) →
      Calls P f cargs w fun e w' => ∃ cv v1 h1 β', e = .returned cv ∧ (v1 = v ∧ h1 = h) ∧ SimH own β' h1.H h1.nx w' ∧ VR w'.heap (LL own β' h1.H) β' v1 cv ∧ Trans own β h w β' h1 w' := by
    intro own' ho hp hn
    refine (hc.2 own' noB w cargs (simH_emp ho) hp).mono ?_
    rintro e w' ⟨cv, v0, h0, β0, rfl, hq, hs0, hv0, ht⟩
    have hkeep : ∀ b, b < w.heap.size → w'.heap[b]? = w.heap[b]? := fun b hb => ht.keep b hb (live_emp _ b)
    have hT : Trans own β h w β h w' := ⟨fun _ _ h => h, fun _ _ => rfl, Nat.le_refl _, ht.size, fun b hb _ => hkeep b hb, fun _ h => .inl h, fun b cur e fz hb => ⟨cur, by rw [hkeep b (lt_of_get hb)]; exact hb, rfl⟩, ht.os, ht.tape, ht.output⟩
    have hS : SimH own β h.H h.nx w' := by
      refine ⟨hs.fresh, fun id b base hb => Nat.lt_of_lt_of_le (hs.lt id b base hb) ht.size, fun b hb => Nat.lt_of_lt_of_le (hs.ownlt b hb) ht.size, fun id o hg => ?_, hs.inj⟩
      obtain ⟨b, base, hb, hnb, hor⟩ := hs.obj id o hg
      refine ⟨b, base, hb, hnb, ?_⟩
      have hlt := hs.lt id b base hb
      cases o with
      | cells cs =>
        obtain ⟨cur, e, q1, q2, q3⟩ := hor
        exact ⟨cur, e, by rw [hkeep b hlt]; exact q1, q2, fun i c v k1 k2 => (q3 i c v k1 k2).later hT.later⟩
      | map kvs =>
        obtain ⟨q0, es, clock, q1, q2, q3⟩ := hor
        exact ⟨q0, es, clock, by rw [hkeep b hlt]; exact q1, q2, fun i kv e k1 k2 => ⟨(q3 i kv e k1 k2).1.later hT.later, (q3 i kv e k1 k2).2.1.later hT.later, (q3 i kv e k1 k2).2.2⟩⟩
      | siter s pos => exact ⟨hor.1, by rw [hkeep b hlt]; exact hor.2⟩
      | glob g cs =>
        obtain ⟨q0, q00, cur, e, fz, q1, q2, q3⟩ := hor
        exact ⟨q0, q00, cur, e, fz, by rw [hkeep b hlt]; exact q1, q2, fun i c v k1 k2 => (q3 i c v k1 k2).later hT.later⟩
    refine ⟨cv, v, h, β, rfl, ⟨rfl, rfl⟩, hS, ?_, hT⟩
    refine VR.frz hs0 (fun b hb hl => ?_) (fun hn' b hb hl => ?_) (hR v0 h0 hq) hv0
    · rcases ht.live b hb with h1 | h1
      · exact live_emp _ b h1
      · have := hs.ll hl; omega
    · have := hn hn'
      subst this
      exact hb (.inl hl)
  rcases ha with ⟨hn, rfl, hcl⟩ | ⟨hn, hlen, hfz⟩
  · refine main (LL own β h.H) (fun b hb => hs.ll hb) ⟨hRL.1, fun i c v h1 h2 => ?_⟩ (fun _ => rfl)
    have := hcl c (List.mem_of_getElem? h1) _ _ _ _ (hRL.2 i c v h1 h2)
    have heq : LL (LL own β h.H) noB emp.H = LL own β h.H := by
      funext b
      apply propext
      exact ⟨fun hx => hx.elim id (fun hl => absurd hl (live_emp _ b)), .inl⟩
    rw [heq]; exact this
  · refine main (fun _ => False) (fun b hb => hb.elim) ⟨hlen ▸ hRL.1, fun i d v h1 h2 => ?_⟩ (fun h => by rw [hn] at h; cases h)
    obtain ⟨a, ha⟩ := get_of_len hlen h1
    exact VR.frz hs (fun b _ hl => hl.elim (fun h => h) (live_emp _ b)) (fun _ b _ hl => hl.elim (fun h => h) (live_emp _ b)) (hfz i a d ha h1) (hRL.2 i a v ha h2)

/-- wherever it is called with these arguments, it returns this value and leaves all objects as they are -/
def Pure (P : Program) (f : Nat) (args : List AV) (v : AV) : Prop := ∀ h, CallD P f args h v h
theorem Pure.of {P : Program} {f : Nat} {args : List AV} {v : AV} (hcl : ∀ a ∈ args, Closed a) (hc : CallsA P f args emp fun v' h' => Frz h' false v' v) : Pure P f args v :=
  fun _ => frame hc (fun _ _ h => h) (.inl ⟨rfl, rfl, hcl⟩)
/-- what it returns reaches nothing that was there before -/
def Fresh (P : Program) (f : Nat) (args : List AV) (v : AV) : Prop := CallsA P f args emp fun v' h' => Frz h' true v' v
theorem Fresh.call {P : Program} {f : Nat} {args pargs : List AV} {v : AV} {h : AH} (hf : Fresh P f pargs v) (hlen : args.length = pargs.length) (ha : ∀ (i : Nat) (a b : AV), args[i]? = some a → pargs[i]? = some b → Frz h false a b) : CallD P f args h v h :=
  frame hf (fun _ _ h => h) (.inr ⟨rfl, hlen, ha⟩)
end Go.Eng
end
noncomputable section
namespace Go.Eng
@[simp ↓] theorem wk_some (v : AV) (h : AH) (k : AV → AH → Prop) : wk (some (v, h)) k = k v h := Eq.trans rfl rfl
@[simp ↓] theorem wif_bool (b : Bool) (x y : Prop) : wif (.bool b) x y = ((b = true → x) ∧ (b = false → y)) := Eq.trans rfl rfl
@[simp ↓] theorem wg_some (b : Bool) (A : (AV → AH → Prop) → Prop) (h : AH) (k : AV → AH → Prop) : wg (some b) A h k = ((b = true → A k) ∧ (b = false → k skipped h)) := Eq.trans rfl rfl
@[simp ↓] theorem wgd_some (b : Bool) (A : (AV → Rec → AH → Prop) → Prop) (h : AH) (k : AV → Rec → AH → Prop) : wgd (some b) A h k = ((b = true → A k) ∧ (b = false → k skipped .pure h)) := Eq.trans rfl rfl
@[simp ↓] theorem wsp_bool (b : Bool) (K : AV → Prop) : wsp (.bool b) K = ((b = true → K (.bool true)) ∧ (b = false → K (.bool false))) := Eq.trans rfl rfl
attribute [simp ↓] xs
@[simp ↓ high] theorem wsp_true (K : AV → Prop) : wsp (.bool true) K = K (.bool true) := by simp [wsp]
@[simp ↓ high] theorem wsp_false (K : AV → Prop) : wsp (.bool false) K = K (.bool false) := by simp [wsp]
@[simp ↓ high] theorem wg_true (A : (AV → AH → Prop) → Prop) (h : AH) (k : AV → AH → Prop) : wg (some true) A h k = A k := by simp [wg]
@[simp ↓ high] theorem wg_false (A : (AV → AH → Prop) → Prop) (h : AH) (k : AV → AH → Prop) : wg (some false) A h k = k skipped h := by simp [wg]
@[simp ↓ high] theorem wgd_true (A : (AV → Rec → AH → Prop) → Prop) (h : AH) (k : AV → Rec → AH → Prop) : wgd (some true) A h k = A k := by simp [wgd]
@[simp ↓ high] theorem wgd_false (A : (AV → Rec → AH → Prop) → Prop) (h : AH) (k : AV → Rec → AH → Prop) : wgd (some false) A h k = k skipped .pure h := by simp [wgd]
@[simp ↓ high] theorem wif_true (x y : Prop) : wif (.bool true) x y = x := by simp [wif]
@[simp ↓ high] theorem wif_false (x y : Prop) : wif (.bool false) x y = y := by simp [wif]
@[simp high] theorem gdv_tt : gdv true (.bool true) = some true := Eq.trans rfl rfl
@[simp high] theorem gdv_tf : gdv true (.bool false) = some false := Eq.trans rfl rfl
@[simp high] theorem gdv_ft : gdv false (.bool true) = some false := Eq.trans rfl rfl
@[simp high] theorem gdv_ff : gdv false (.bool false) = some true := Eq.trans rfl rfl
@[simp high] theorem kPick_true (h : AH) (x y : AV) : kPick h (.bool true) x y = some (x, h) := Eq.trans rfl rfl
@[simp high] theorem kPick_false (h : AH) (x y : AV) : kPick h (.bool false) x y = some (y, h) := Eq.trans rfl rfl
@[simp ↓] theorem wres_some (vs : List AV) (h : AH) (Q : AV → AH → Prop) : wres (some vs) h Q = Q (aret vs) h := Eq.trans rfl rfl
@[simp] theorem aret_one (v : AV) : aret [v] = v := Eq.trans rfl rfl
@[simp] theorem aret_two (u v : AV) (vs : List AV) : aret (u :: v :: vs) = .tup (u :: v :: vs) := Eq.trans rfl rfl
@[simp] theorem nthD_zero (a : AV) (l : List AV) : nthD (a :: l) 0 = a := Eq.trans rfl rfl
@[simp] theorem nthD_succ (a : AV) (l : List AV) (n : Nat) : nthD (a :: l) (n + 1) = nthD l n := Eq.trans rfl rfl
@[simp ↓] theorem lk_nrm (m : Nat) (I : Nat → List AV → AH → Prop) (k : AX → List AV → AH → Prop) (vi vo : List AV) (h : AH) : lk m I k .nrm vi vo h = ∃ m', m' < m ∧ I m' vi h := Eq.trans rfl rfl
@[simp ↓] theorem lk_exit (m : Nat) (I : Nat → List AV → AH → Prop) (k : AX → List AV → AH → Prop) (j : Nat) (vi vo : List AV) (h : AH) : lk m I k (.exit j) vi vo h = k (.exit j) vo h := Eq.trans rfl rfl
@[simp ↓] theorem lk_ret (m : Nat) (I : Nat → List AV → AH → Prop) (k : AX → List AV → AH → Prop) (vi vo : List AV) (h : AH) : lk m I k .ret vi vo h = k .ret vo h := Eq.trans rfl rfl
@[simp ↓] theorem wcall_func (cl : CL) (g : Nat) (first captured args : List AV) (h : AH) (k : AV → AH → Prop) : wcall cl (.func (.func g) first captured) args h k = cl g (first ++ args ++ captured) h k := Eq.trans rfl rfl
@[simp ↓] theorem wdc_func (cl : CL) (g : Nat) (first captured args : List AV) (h : AH) (k : AV → Rec → AH → Prop) : wdc cl (.func (.func g) first captured) args h k = cl g (first ++ args ++ captured) h fun v h' => h.nx ≤ h'.nx ∧ k v (.eff h h') h' := Eq.trans rfl rfl
@[simp ↓] theorem wdr_eq (h : AH) (n : Nat) (k : Nat → AH → Prop) : wdr h n k = k h.nx ⟨h.H, h.nx + n⟩ := Eq.trans rfl rfl
@[simp ↓] theorem wdp_some (h : AH) (v : AV) (h' : AH) (c : Rec) (k : AV → Rec → AH → Prop) : wdp h (some (v, h')) c k = k v c h := Eq.trans rfl rfl
@[simp ↓] theorem wde_some (h : AH) (v : AV) (h' : AH) (k : AV → Rec → AH → Prop) : wde h (some (v, h')) k = (h.nx ≤ h'.nx ∧ k v (.eff h h') h') := Eq.trans rfl rfl

/-! the continuations are left alone until they are reached -/
@[congr] theorem wk_congr {r r' : Option (AV × AH)} {k : AV → AH → Prop} (h : r = r') : wk r k = wk r' k := by rw [h]
@[congr] theorem wif_congr {c c' : AV} {x y : Prop} (h : c = c') : wif c x y = wif c' x y := by rw [h]
@[congr] theorem wg_congr {g g' : Option Bool} {A : (AV → AH → Prop) → Prop} {h : AH} {k : AV → AH → Prop} (hg : g = g') : wg g A h k = wg g' A h k := by rw [hg]
@[congr] theorem wgd_congr {g g' : Option Bool} {A : (AV → Rec → AH → Prop) → Prop} {h : AH} {k : AV → Rec → AH → Prop} (hg : g = g') : wgd g A h k = wgd g' A h k := by rw [hg]
@[congr] theorem wdp_congr {h : AH} {x x' : Option (AV × AH)} {c : Rec} {k : AV → Rec → AH → Prop} (hx : x = x') : wdp h x c k = wdp h x' c k := by rw [hx]
@[congr] theorem wde_congr {h : AH} {x x' : Option (AV × AH)} {k : AV → Rec → AH → Prop} (hx : x = x') : wde h x k = wde h x' k := by rw [hx]
@[congr] theorem wda_congr {r : Nat} {h : AH} {x x' : Option (List AV × (Nat → AV))} {k : AV → Rec → AH → Prop} (hx : x = x') : wda r h x k = wda r h x' k := by rw [hx]
@[congr] theorem wcall_congr {cl : CL} {f f' : AV} {args args' : List AV} {h : AH} {k : AV → AH → Prop} (hf : f = f') (ha : args = args') : wcall cl f args h k = wcall cl f' args' h k := by rw [hf, ha]
@[congr] theorem wres_congr {r r' : Option (List AV)} {h : AH} {Q : AV → AH → Prop} (hr : r = r') : wres r h Q = wres r' h Q := by rw [hr]

@[simp] theorem stow_agg (cs : List AV) : stow (.agg cs) = true := by unfold stow; rfl
@[simp] theorem stow_int (k : IntKind) (n : Int) : stow (.int k n) = true := by unfold stow; rfl
@[simp] theorem stow_bool (b : Bool) : stow (.bool b) = true := by unfold stow; rfl
@[simp] theorem stow_func (f : Fn) (a b : List AV) : stow (.func f a b) = true := by unfold stow; rfl
@[simp] theorem stow_psl (l : List (List AV)) : stow (.psl l) = true := by unfold stow; rfl
@[simp] theorem stow_rsl (a b c d : Nat) : stow (.rsl a b c d) = true := by unfold stow; rfl
@[simp] theorem stow_nilsl : stow .nilsl = true := by unfold stow; rfl
@[simp] theorem stow_ptr (a b : Nat) : stow (.ptr a b) = true := by unfold stow; rfl
@[simp] theorem stow_nilptr : stow .nilptr = true := by unfold stow; rfl
@[simp] theorem aresV_nil (h : AH) : aresV h [] = some [] := Eq.trans rfl rfl
@[simp] theorem aresV_val (h : AH) (v : AV) (r : List RV) : aresV h (.val v :: r) = match aresV h r with | some l => some (v :: l) | none => none := Eq.trans rfl rfl
@[simp] theorem aresV_cell1 (h : AH) (a : AV) (r : List RV) : aresV h (.cell a none :: r) = match aload1 h a, aresV h r with | some v, some l => some (v :: l) | _, _ => none := Eq.trans rfl rfl
@[simp] theorem aresV_celln (h : AH) (a : AV) (n : Nat) (r : List RV) : aresV h (.cell a (some n) :: r) = match (aloadn h n a).map .agg, aresV h r with | some v, some l => some (v :: l) | _, _ => none := Eq.trans rfl rfl
@[simp] theorem kBuild_eq (h : AH) (zero : List AV) (ps : List (Nat × Nat × AV)) : kBuild h zero ps = match afill zero ps with | some cs => some (.agg cs, h) | none => none := Eq.trans rfl rfl
@[simp] theorem afill_nil (cs : List AV) : afill cs [] = some cs := Eq.trans rfl rfl
@[simp] theorem afill_cons (cs : List AV) (off size : Nat) (x : AV) (r : List (Nat × Nat × AV)) (hs : stow x = true) : afill cs ((off, size, x) :: r) = if x.cells.length = size then (match splice cs off x.cells with | some cs' => afill cs' r | none => none) else none := by
  show (if stow x then _ else _) = _
  rw [if_pos hs]; rfl
/-! ## the heap of owned objects -/
@[simp] theorem nx_add (h : AH) (o : AObj) : (h.add o).nx = h.nx + 1 := by cases h; rfl
@[simp] theorem nx_set (h : AH) (i : Nat) (o : AObj) : (h.set i o).nx = h.nx := by cases h; rfl
@[simp] theorem nx_kill (h : AH) (i : Nat) : (h.kill i).nx = h.nx := by cases h; rfl
@[simp] theorem nx_mk (H : Hp) (n : Nat) : AH.nx ⟨H, n⟩ = n := Eq.trans rfl rfl
@[simp] theorem nx_emp : emp.nx = 0 := by decide
theorem get_add (h : AH) (o : AObj) (i : Nat) : (h.add o).H.get i = if i = h.nx then some o else h.H.get i := PM.get_put _ _ _ _
theorem get_set (h : AH) (j : Nat) (o : AObj) (i : Nat) : (h.set j o).H.get i = if i = j then some o else h.H.get i := PM.get_put _ _ _ _
theorem get_kill (h : AH) (j : Nat) (i : Nat) : (h.kill j).H.get i = if i = j then none else h.H.get i := PM.get_del _ _ _
theorem cellsAt_congr {h h' : AH} {i : Nat} (he : h'.H.get i = h.H.get i) : h'.cellsAt i = h.cellsAt i := by unfold AH.cellsAt; rw [he]
theorem cellsAt_add_self (h : AH) (cs : List AV) (i : Nat) (hi : i = h.nx) : (h.add (.cells cs)).cellsAt i = some cs := by unfold AH.cellsAt; rw [get_add, if_pos hi]
theorem cellsAt_add_ne (h : AH) (o : AObj) (i : Nat) (hi : i ≠ h.nx) : (h.add o).cellsAt i = h.cellsAt i := cellsAt_congr (by rw [get_add, if_neg hi])
theorem cellsAt_set_self (h : AH) (cs : List AV) (i j : Nat) (hi : i = j) : (h.set j (.cells cs)).cellsAt i = some cs := by unfold AH.cellsAt; rw [get_set, if_pos hi]
theorem cellsAt_set_ne (h : AH) (o : AObj) (i j : Nat) (hi : i ≠ j) : (h.set j o).cellsAt i = h.cellsAt i := cellsAt_congr (by rw [get_set, if_neg hi])
theorem cellsAt_kill_ne (h : AH) (i j : Nat) (hi : i ≠ j) : (h.kill j).cellsAt i = h.cellsAt i := cellsAt_congr (by rw [get_kill, if_neg hi])
@[simp] theorem cellsAt_add (h : AH) (cs : List AV) (i : Nat) : (h.add (.cells cs)).cellsAt i = if i = h.nx then some cs else h.cellsAt i := by
  split
  · rename_i hi; exact cellsAt_add_self h cs i hi
  · rename_i hi; exact cellsAt_add_ne h _ i hi
@[simp] theorem cellsAt_set (h : AH) (cs : List AV) (i j : Nat) : (h.set j (.cells cs)).cellsAt i = if i = j then some cs else h.cellsAt i := by
  split
  · rename_i hi; exact cellsAt_set_self h cs i j hi
  · rename_i hi; exact cellsAt_set_ne h _ i j hi
@[simp] theorem cellsAt_kill (h : AH) (i j : Nat) : (h.kill j).cellsAt i = if i = j then none else h.cellsAt i := by
  split
  · rename_i hi; unfold AH.cellsAt; rw [get_kill, if_pos hi]
  · rename_i hi; exact cellsAt_kill_ne h i j hi
@[simp] theorem cellsAt_mk (h : AH) (n i : Nat) : AH.cellsAt ⟨h.H, n⟩ i = h.cellsAt i := Eq.trans rfl rfl
/-! ## operations -/
@[simp] theorem kMov_eq (h : AH) (x : AV) : kMov h x = some (x, h) := Eq.trans rfl rfl
@[simp] theorem kNew_eq (h : AH) (zero : List AV) : kNew h zero = some (.ptr h.nx 0, h.add (.cells zero)) := Eq.trans rfl rfl
@[simp] theorem kBox_agg (h : AH) (cs : List AV) : kBox h (.agg cs) = some (.ptr h.nx 0, h.add (.cells cs)) := Eq.trans rfl rfl
@[simp] theorem kLd1_ptr' (h : AH) (id off : Nat) : kLd1 h (.ptr id off) = match h.cellsAt id with | some cs => (match cs[off]? with | some v => some (v, h) | none => none) | none => none := by
  simp only [kLd1, aload1]; cases h.cellsAt id <;> rfl
@[simp] theorem kLdn_ptr' (h : AH) (n id off : Nat) : kLdn h n (.ptr id off) = match h.cellsAt id with | some cs => (match cut cs off n with | some ds => some (.agg ds, h) | none => none) | none => none := by
  simp only [kLdn, aloadn]; cases h.cellsAt id <;> rfl
@[simp] theorem kLd1_pptr (h : AH) (cs : List AV) : kLd1 h (.pptr cs) = match cs[0]? with | some v => some (v, h) | none => none := Eq.trans rfl rfl
@[simp] theorem kLdn_pptr (h : AH) (n : Nat) (cs : List AV) : kLdn h n (.pptr cs) = match cut cs 0 n with | some ds => some (.agg ds, h) | none => none := Eq.trans rfl rfl
@[simp] theorem aload1_ptr (h : AH) (id off : Nat) : aload1 h (.ptr id off) = match h.cellsAt id with | some cs => cs[off]? | none => none := Eq.trans rfl rfl
@[simp] theorem aloadn_ptr (h : AH) (n id off : Nat) : aloadn h n (.ptr id off) = match h.cellsAt id with | some cs => cut cs off n | none => none := Eq.trans rfl rfl
@[simp] theorem cut_all {cs : List AV} {n : Nat} (hn : cs.length = n) : cut cs 0 n = some cs := by simp [cut, ← hn]
@[simp] theorem splice_all {cs new : List AV} (h : new.length = cs.length) : splice cs 0 new = some new := by simp [splice, h]
@[simp] theorem splice_zero (a b : AV) (l : List AV) : splice (a :: l) 0 [b] = some (b :: l) := by simp [splice]
@[simp] theorem splice_succ (a : AV) (l : List AV) (n : Nat) (new : List AV) : splice (a :: l) (n + 1) new = (splice l n new).map (a :: ·) := by
  unfold splice
  simp only [List.length_cons, List.take_succ_cons, List.drop_succ_cons, show n + 1 + new.length = (n + new.length) + 1 by omega, Nat.add_le_add_iff_right]
  split <;> simp
@[simp] theorem cells_agg (cs : List AV) : AV.cells (.agg cs) = cs := Eq.trans rfl rfl
@[simp] theorem cells_int (k : IntKind) (n : Int) : AV.cells (.int k n) = [.int k n] := Eq.trans rfl rfl
@[simp] theorem cells_bool (b : Bool) : AV.cells (.bool b) = [.bool b] := Eq.trans rfl rfl
@[simp] theorem cells_func (f : Fn) (a b : List AV) : AV.cells (.func f a b) = [.func f a b] := Eq.trans rfl rfl
@[simp] theorem cells_rsl (a b c d : Nat) : AV.cells (.rsl a b c d) = [.rsl a b c d] := Eq.trans rfl rfl
@[simp] theorem cells_nilsl : AV.cells .nilsl = [.nilsl] := Eq.trans rfl rfl
@[simp] theorem cells_ptr (a b : Nat) : AV.cells (.ptr a b) = [.ptr a b] := Eq.trans rfl rfl
@[simp] theorem cells_nilptr : AV.cells .nilptr = [.nilptr] := Eq.trans rfl rfl
@[simp] theorem ones_nil : ones [] = true := Eq.trans rfl rfl
@[simp] theorem ones_cons (a : AV) (l : List AV) : ones (a :: l) = (a.one && ones l) := Eq.trans rfl rfl
@[simp] theorem one_int (k : IntKind) (n : Int) : AV.one (.int k n) = true := Eq.trans rfl rfl
@[simp] theorem one_bool (b : Bool) : AV.one (.bool b) = true := Eq.trans rfl rfl
@[simp] theorem one_str (b : List UInt8) : AV.one (.str b) = true := Eq.trans rfl rfl
@[simp] theorem one_func (f : Fn) (a b : List AV) : AV.one (.func f a b) = true := Eq.trans rfl rfl
@[simp] theorem one_rsl (a b c d : Nat) : AV.one (.rsl a b c d) = true := Eq.trans rfl rfl
@[simp] theorem one_nilsl : AV.one .nilsl = true := Eq.trans rfl rfl
@[simp] theorem one_ptr (a b : Nat) : AV.one (.ptr a b) = true := Eq.trans rfl rfl
@[simp] theorem one_nilptr : AV.one .nilptr = true := Eq.trans rfl rfl
@[simp] theorem kSt_ptr' (h : AH) (n id off : Nat) (x : AV) (hs : stow x = true) : kSt h n (.ptr id off) x = if x.cells.length = n && ones x.cells then (match h.cellsAt id with | some cs => (match splice cs off x.cells with | some cs' => some (.undef, h.set id (.cells cs')) | none => none) | none => none) else none := by
  show (if stow x then _ else _) = _
  rw [if_pos hs]; rfl
@[simp] theorem kNilchk_ptr (h : AH) (a b : Nat) : kNilchk h (.ptr a b) = some (.ptr a b, h) := Eq.trans rfl rfl
@[simp] theorem kArith_eql (h : AH) (k : IntKind) (a b : Int) : kArith h .eql (.int k a) (.int k b) = some (.bool (a == b), h) := by simp [kArith, aarith, isShift, iarith]
@[simp] theorem kArith_neq (h : AH) (k : IntKind) (a b : Int) : kArith h .neq (.int k a) (.int k b) = some (.bool (a != b), h) := by simp [kArith, aarith, isShift, iarith]
@[simp] theorem kArith_lss (h : AH) (k : IntKind) (a b : Int) : kArith h .lss (.int k a) (.int k b) = some (.bool (decide (a < b)), h) := by simp [kArith, aarith, isShift, iarith]
@[simp] theorem kArith_leq (h : AH) (k : IntKind) (a b : Int) : kArith h .leq (.int k a) (.int k b) = some (.bool (decide (a ≤ b)), h) := by simp [kArith, aarith, isShift, iarith]
@[simp] theorem kArith_gtr (h : AH) (k : IntKind) (a b : Int) : kArith h .gtr (.int k a) (.int k b) = some (.bool (decide (b < a)), h) := by simp [kArith, aarith, isShift, iarith]
@[simp] theorem kArith_geq (h : AH) (k : IntKind) (a b : Int) : kArith h .geq (.int k a) (.int k b) = some (.bool (decide (b ≤ a)), h) := by simp [kArith, aarith, isShift, iarith]
@[simp] theorem kArith_seql (h : AH) (a b : List UInt8) : kArith h .eql (.str a) (.str b) = some (.bool (a == b), h) := by simp [kArith, aarith, sarith]
theorem wrap64 {n : Int} (h1 : -9223372036854775808 ≤ n) (h2 : n ≤ 9223372036854775807) : IntKind.i64.wrap n = n := by
  unfold IntKind.wrap
  show (if (true && decide (n % 18446744073709551616 ≥ 9223372036854775808)) = true then n % 18446744073709551616 - 18446744073709551616 else n % 18446744073709551616) = n
  simp only [Bool.true_and, decide_eq_true_eq]
  split <;> omega
@[simp] theorem kArith_add (h : AH) (a b : Int) (h1 : -9223372036854775808 ≤ a + b) (h2 : a + b ≤ 9223372036854775807) : kArith h .add (.int .i64 a) (.int .i64 b) = some (.int .i64 (a + b), h) := by simp [kArith, aarith, isShift, iarith, wrap64 h1 h2]
@[simp] theorem kArith_sub (h : AH) (a b : Int) (h1 : -9223372036854775808 ≤ a - b) (h2 : a - b ≤ 9223372036854775807) : kArith h .sub (.int .i64 a) (.int .i64 b) = some (.int .i64 (a - b), h) := by simp [kArith, aarith, isShift, iarith, wrap64 h1 h2]
@[simp] theorem kArith_mul (h : AH) (a b : Int) (h1 : -9223372036854775808 ≤ a * b) (h2 : a * b ≤ 9223372036854775807) : kArith h .mul (.int .i64 a) (.int .i64 b) = some (.int .i64 (a * b), h) := by simp [kArith, aarith, isShift, iarith, wrap64 h1 h2]
theorem kArith_quo (h : AH) (a b : Int) (hb : b ≠ 0) (h1 : -9223372036854775808 ≤ a.tdiv b) (h2 : a.tdiv b ≤ 9223372036854775807) : kArith h .quo (.int .i64 a) (.int .i64 b) = some (.int .i64 (a.tdiv b), h) := by simp [kArith, aarith, isShift, iarith, hb, wrap64 h1 h2]
theorem kArith_rem (h : AH) (k : IntKind) (a b : Int) (hb : b ≠ 0) : kArith h .rem (.int k a) (.int k b) = some (.int k (a.tmod b), h) := by simp [kArith, aarith, isShift, iarith, hb]
@[simp] theorem kUn_neg (h : AH) (a : Int) (h1 : -9223372036854775807 ≤ a) (h2 : a ≤ 9223372036854775807) : kUn h .neg (.int .i64 a) = some (.int .i64 (-a), h) := by simp [kUn, aun, wrap64 (n := -a) (by omega) (by omega)]
@[simp] theorem kUn_not (h : AH) (b : Bool) : kUn h .not (.bool b) = some (.bool !b, h) := Eq.trans rfl rfl
@[simp] theorem kEqs_bool (h : AH) (neg a b : Bool) : kEqs h neg (.bool a) (.bool b) = some (.bool (if neg then !(a == b) else a == b), h) := Eq.trans rfl rfl
@[simp] theorem kEqf_agg (h : AH) (neg : Bool) (ks : List SK) (a b : List AV) : kEqf h neg ks (.agg a) (.agg b) = match eqCells ks a b with | some r => some (.bool (if neg then !r else r), h) | none => none := Eq.trans rfl rfl
@[simp] theorem kFldA_ptr (h : AH) (off id o : Nat) : kFldA h off (.ptr id o) = some (.ptr id (o + off), h) := Eq.trans rfl rfl
@[simp] theorem kLen_psl (h : AH) (l : List (List AV)) : kLen h (.psl l) = some (.int .i64 l.length, h) := Eq.trans rfl rfl
@[simp] theorem kLen_rsl (h : AH) (a b c d : Nat) : kLen h (.rsl a b c d) = some (.int .i64 c, h) := Eq.trans rfl rfl
@[simp] theorem kLen_nilsl (h : AH) : kLen h .nilsl = some (.int .i64 0, h) := Eq.trans rfl rfl
@[simp] theorem kExt_zero (h : AH) (v : AV) (vs : List AV) : kExt h (.tup (v :: vs)) 0 = some (v, h) := Eq.trans rfl rfl
@[simp] theorem kExt_one (h : AH) (u v : AV) (vs : List AV) : kExt h (.tup (u :: v :: vs)) 1 = some (v, h) := Eq.trans rfl rfl
@[simp] theorem kMkf_eq (h : AH) (fn : Fn) (a b : List AV) : kMkf h fn a b = some (.func fn a b, h) := Eq.trans rfl rfl
theorem aix_int {n : Nat} {i : Int} (h1 : 0 ≤ i) (h2 : i < n) (k : IntKind) : aix n (.int k i) = some i.toNat := by simp [aix, aidx, h1, h2]
theorem kIdxA_psl {h : AH} {z : Nat} {l : List (List AV)} {i : Nat} {c : List AV} (hc : l[i]? = some c) (hz : c.length = z) : kIdxA h z (.psl l) (.int .i64 i) = some (.pptr c, h) := by
  have hi : i < l.length := (List.getElem?_eq_some_iff.1 hc).1
  have : aix l.length (.int .i64 i) = some i := by simp [aix_int (Int.natCast_nonneg i) (by omega : (i : Int) < l.length)]
  simp [kIdxA, aidxA, this, hc, hz]
theorem kIdxA_rsl {h : AH} {z id off len : Nat} {i : Int} (h0 : 0 ≤ i) (h1 : i < len) : kIdxA h z (.rsl id off len z) (.int .i64 i) = some (.ptr id (off + i.toNat * z), h) := by
  simp [kIdxA, aidxA, aix_int h0 h1]

/-! ## records of regions that draw their order -/
mutual
theorem AV.beq_refl : ∀ (a : AV), AV.beq a a = true
  | .undef | .nilptr | .nilsl | .esl | .nilmap | .nilfunc | .nilif => by simp [AV.beq]
  | .bool _ | .int _ _ | .str _ | .ptr _ _ | .gptr _ _ | .rsl _ _ _ _ | .mapv _ => by simp [AV.beq]
  | .agg a => by simp [AV.beq, AV.beqL_refl a]
  | .tup a => by simp [AV.beq, AV.beqL_refl a]
  | .pptr a => by simp [AV.beq, AV.beqL_refl a]
  | .psl a => by simp [AV.beq, AV.beqLL_refl a]
  | .func _ a b => by simp [AV.beq, AV.beqL_refl a, AV.beqL_refl b]
  | .iface _ a => by simp [AV.beq, AV.beq_refl a]
theorem AV.beqL_refl : ∀ (a : List AV), AV.beqL a a = true
  | [] => by simp [AV.beqL]
  | x :: a => by simp [AV.beqL, AV.beq_refl x, AV.beqL_refl a]
theorem AV.beqLL_refl : ∀ (a : List (List AV)), AV.beqLL a a = true
  | [] => by simp [AV.beqLL]
  | x :: a => by simp [AV.beqLL, AV.beqL_refl x, AV.beqLL_refl a]
end
theorem beqKV_refl : ∀ (a : List (AV × AV)), beqKV a a = true
  | [] => by simp [beqKV]
  | (x, y) :: a => by simp [beqKV, AV.beq_refl, beqKV_refl a]
theorem obEq_refl (o : Option AObj) : obEq o o = true := by
  cases o with
  | none => rfl
  | some o => cases o <;> simp [obEq, AV.beqL_refl, beqKV_refl]
@[simp] theorem rdv_ptr (id o : Nat) : rdv (.ptr id o) = some id := Eq.trans rfl rfl
@[simp] theorem rdK_some (x : Nat) : rdK (some x) = .read x := Eq.trans rfl rfl
@[simp] theorem recOk_pure' (y : Rec) : recOk y .pure = true := by cases y <;> rfl
@[simp] theorem recOk_eff_read (h : AH) (x : Nat) : recOk (.eff h h) (.read x) = true := obEq_refl _
@[simp] theorem recOk_read_eff (h : AH) (x : Nat) : recOk (.read x) (.eff h h) = true := obEq_refl _
@[simp] theorem recOk_read_alloc (x r : Nat) (cs : List AV) : recOk (.read x) (.alloc r cs) = !decide (r = x) := by
  show (!Nat.beq r x) = _
  by_cases h : r = x
  · subst h; simp
  · have : Nat.beq r x = false := by cases hb : Nat.beq r x with | false => rfl | true => exact absurd (Nat.eq_of_beq_eq_true hb) h
    simp [this, h]
@[simp ↓] theorem wda_some (r : Nat) (h : AH) (cs : List AV) (mk : Nat → AV) (k : AV → Rec → AH → Prop) : wda r h (some (cs, mk)) k = k (mk r) (.alloc r cs) (h.set r (.cells cs)) := Eq.trans rfl rfl
@[simp] theorem alNew_eq (zero : List AV) : alNew zero = some (zero, fun r => .ptr r 0) := Eq.trans rfl rfl
@[simp] theorem alBuildSl_eq (z len : Nat) (zero : List AV) (ps : List (Nat × Nat × AV)) : alBuildSl z len zero ps = match afill zero ps with | some cs => some (cs, fun r => .rsl r 0 len z) | none => none := Eq.trans rfl rfl
/-! ## results -/
@[simp] theorem Frz_bool (h : AH) (n a b : Bool) : Frz h n (.bool a) (.bool b) ↔ a = b := ⟨fun h => by cases h; rfl, fun h => by subst h; exact .bool _⟩
@[simp] theorem Frz_int (h : AH) (n : Bool) (k : IntKind) (a b : Int) : Frz h n (.int k a) (.int k b) ↔ a = b := ⟨fun h => by cases h; rfl, fun h => by subst h; exact .int _ _⟩
def FrzL (h : AH) (n : Bool) : List AV → List AV → Prop
  | [], [] => True
  | c :: cs, d :: ds => Frz h n c d ∧ FrzL h n cs ds
  | _, _ => False
theorem FrzL_iff (h : AH) (n : Bool) : ∀ (cs ds : List AV), FrzL h n cs ds ↔ (cs.length = ds.length ∧ ∀ (i : Nat) (c d : AV), cs[i]? = some c → ds[i]? = some d → Frz h n c d)
  | [], [] => by simp [FrzL]
  | [], d :: ds => by simp [FrzL]
  | c :: cs, [] => by simp [FrzL]
  | c :: cs, d :: ds => by
    simp only [FrzL, FrzL_iff h n cs ds, List.length_cons]
    constructor
    · rintro ⟨h1, h2, h3⟩
      refine ⟨by omega, fun i x y hx hy => ?_⟩
      cases i with
      | zero => simp at hx hy; subst hx; subst hy; exact h1
      | succ i => simp at hx hy; exact h3 i x y hx hy
    · rintro ⟨h1, h2⟩
      exact ⟨h2 0 c d (by simp) (by simp), by omega, fun i x y hx hy => h2 (i + 1) x y (by simpa using hx) (by simpa using hy)⟩
@[simp] theorem FrzL_nil (h : AH) (n : Bool) : FrzL h n [] [] = True := Eq.trans rfl rfl
@[simp] theorem FrzL_cons (h : AH) (n : Bool) (c d : AV) (cs ds : List AV) : FrzL h n (c :: cs) (d :: ds) = (Frz h n c d ∧ FrzL h n cs ds) := Eq.trans rfl rfl
@[simp] theorem Frz_agg (h : AH) (n : Bool) (cs ds : List AV) : Frz h n (.agg cs) (.agg ds) ↔ FrzL h n cs ds := by
  rw [FrzL_iff]
  exact ⟨fun hf => by cases hf with | agg _ _ hl hc => exact ⟨hl, hc⟩, fun ⟨h1, h2⟩ => .agg _ _ h1 h2⟩
@[simp] theorem Frz_tup (h : AH) (n : Bool) (cs ds : List AV) : Frz h n (.tup cs) (.tup ds) ↔ FrzL h n cs ds := by
  rw [FrzL_iff]
  exact ⟨fun hf => by cases hf with | tup _ _ hl hc => exact ⟨hl, hc⟩, fun ⟨h1, h2⟩ => .tup _ _ h1 h2⟩
@[simp] theorem Frz_str (h : AH) (n : Bool) (a b : List UInt8) : Frz h n (.str a) (.str b) ↔ a = b := ⟨fun h => by cases h; rfl, fun h => by subst h; exact .str _⟩
/-! ## tables of contracts -/
structure QE (P : Program) where
  f : Nat
  q : List AV → AH → (AV → AH → Prop) → Prop
  ok : ∀ args h Q, q args h Q → ∃ v h', CallD P f args h v h' ∧ Q v h'
def tb {P : Program} : List (QE P) → CL
  | [], _, _, _, _ => False
  | e :: l, f, args, h, Q => cond (Nat.beq e.f f) (e.q args h Q) (tb l f args h Q)
theorem tb_ok {P : Program} : ∀ l : List (QE P), CLOk P (tb l)
  | [], _, _, _, _, h => h.elim
  | e :: l, f, args, h, Q, hq => by
    unfold tb at hq
    cases hb : Nat.beq e.f f with
    | true =>
      rw [hb] at hq
      obtain rfl := Nat.eq_of_beq_eq_true hb
      exact e.ok args h Q hq
    | false => rw [hb] at hq; exact tb_ok l f args h Q hq
theorem tb_here {P : Program} (e : QE P) (l : List (QE P)) (f : Nat) (args : List AV) (h : AH) (Q : AV → AH → Prop) (hf : e.f = f) : tb (e :: l) f args h Q = e.q args h Q := by
  subst hf; simp [tb]
theorem tb_there {P : Program} (e : QE P) (l : List (QE P)) (f : Nat) (args : List AV) (h : AH) (Q : AV → AH → Prop) (hf : e.f ≠ f) : tb (e :: l) f args h Q = tb l f args h Q := by
  have : Nat.beq e.f f = false := by cases hb : Nat.beq e.f f with | false => rfl | true => exact absurd (Nat.eq_of_beq_eq_true hb) hf
  simp [tb, this]
/-- a pure function: its arguments, a condition, its result -/
def QE.pure {P : Program} (f : Nat) {α : Type} (e : α → List AV) (pre : α → Prop) (res : α → AV) (ok : ∀ x, pre x → Pure P f (e x) (res x)) : QE P :=
  ⟨f, fun args h Q => ∃ x, args = e x ∧ pre x ∧ Q (res x) h, fun args h Q ⟨x, h1, h2, h3⟩ => ⟨res x, h, h1 ▸ ok x h2 h, h3⟩⟩
theorem QE.pure_q {P : Program} {f : Nat} {α : Type} {e : α → List AV} {pre : α → Prop} {res : α → AV} {ok : ∀ x, pre x → Pure P f (e x) (res x)} {x : α} (hinj : ∀ y, e x = e y → x = y) (h : AH) (Q : AV → AH → Prop) :
    (QE.pure f e pre res ok).q (e x) h Q = (pre x ∧ Q (res x) h) := by
  apply propext
  constructor
  · rintro ⟨y, h1, h2, h3⟩
    obtain rfl := hinj y h1
    exact ⟨h2, h3⟩
  · rintro ⟨h2, h3⟩
    exact ⟨x, rfl, h2, h3⟩
/-- a value in which nothing owned occurs, frozen -/
def Plain (a : AV) : Prop := ∀ (h : AH), Frz h false a a
theorem Plain.bool (b : Bool) : Plain (.bool b) := fun _ => .bool b
theorem Plain.int (k : IntKind) (n : Int) : Plain (.int k n) := fun _ => .int k n
theorem Plain.str (s : List UInt8) : Plain (.str s) := fun _ => .str s
theorem Plain.nilfunc : Plain .nilfunc := fun _ => .nilfunc
theorem Plain.nilptr : Plain .nilptr := fun _ => .nilptr
theorem Plain.agg {cs : List AV} (hc : ∀ c ∈ cs, Plain c) : Plain (.agg cs) := fun h => .agg cs cs rfl fun i c d h1 h2 => by
  rw [h1] at h2; cases h2; exact hc c (List.mem_of_getElem? h1) h
theorem Plain.psl {xs : List (List AV)} (hc : ∀ x ∈ xs, ∀ c ∈ x, Plain c) : Plain (.psl xs) := fun h => .psl rfl xs xs rfl (fun i x y h1 h2 => by rw [h1] at h2; cases h2; rfl) fun i x y j c d h1 h2 h3 h4 => by
  rw [h1] at h2; cases h2; rw [h3] at h4; cases h4; exact hc x (List.mem_of_getElem? h1) c (List.mem_of_getElem? h3) h
theorem Plain.pptr {cs : List AV} (hc : ∀ c ∈ cs, Plain c) : Plain (.pptr cs) := fun h => .pptr rfl cs cs rfl fun i c d h1 h2 => by
  rw [h1] at h2; cases h2; exact hc c (List.mem_of_getElem? h1) h
theorem Plain.func {fn : Fn} {f1 c1 : List AV} (h1 : ∀ c ∈ f1, Plain c) (h2 : ∀ c ∈ c1, Plain c) : Plain (.func fn f1 c1) := fun h => .func fn f1 c1 f1 c1 rfl rfl (fun i c d q1 q2 => by rw [q1] at q2; cases q2; exact h1 c (List.mem_of_getElem? q1) h) (fun i c d q1 q2 => by rw [q1] at q2; cases q2; exact h2 c (List.mem_of_getElem? q1) h)
/-- arguments that are frozen one by one -/
theorem frz_args2 {h : AH} {a b c d : AV} (h1 : Frz h false a c) (h2 : Frz h false b d) : ∀ (i : Nat) (x y : AV), [a, b][i]? = some x → [c, d][i]? = some y → Frz h false x y := by
  intro i x y hx hy
  match i with
  | 0 => simp at hx hy; subst hx; subst hy; exact h1
  | 1 => simp at hx hy; subst hx; subst hy; exact h2
  | i + 2 => simp at hx
theorem Pure.call {P : Program} {f : Nat} {args : List AV} {v : AV} {h : AH} {Q : AV → AH → Prop} (hp : Pure P f args v) (hq : Q v h) : CallsA P f args h Q := (hp h).calls hq
end Go.Eng
end
noncomputable section
namespace Go.Proofs.Ytpnekpbehcbmkaa
open Go.Eng
/-! The data of the layer, and how it lies in cells. -/
structure Rect where
  x : Int
  y : Int
  w : Int
  h : Int
structure Pt where
  x : Int
  y : Int
structure Tf where
  turn : Int
  mirror : Bool
  scale : Int
  dx : Int
  dy : Int
structure Gl where
  id : Int
  form : Int
  from' : Int
  to : Int
  x : Int
  adv : Int
  font : Int
  size : Int
structure Ln where
  from' : Int
  to : Int
  level : Int
  x : Int
  y : Int
  width : Int
  asc : Int
  desc : Int
  height : Int
  gl : List Gl
structure Cmd where
  kind : Int
  r : Rect
  t : Tf
  color : Int
  image : List UInt8
  line : Ln
abbrev I (n : Int) : AV := .int .i64 n
def Rect.enc (r : Rect) : List AV := [I r.x, I r.y, I r.w, I r.h]
def Pt.enc (p : Pt) : List AV := [I p.x, I p.y]
def Tf.enc (t : Tf) : List AV := [I t.turn, .bool t.mirror, I t.scale, I t.dx, I t.dy]
def Gl.enc (g : Gl) : List AV := [I g.id, I g.form, I g.from', I g.to, I g.x, I g.adv, I g.font, I g.size]
def gls (l : List Gl) : AV := .psl (l.map Gl.enc)
def Ln.enc (l : Ln) : List AV := [I l.from', I l.to, I l.level, I l.x, I l.y, I l.width, I l.asc, I l.desc, I l.height, gls l.gl]
def Cmd.enc (c : Cmd) : List AV := [I c.kind, I c.r.x, I c.r.y, I c.r.w, I c.r.h, I c.t.turn, .bool c.t.mirror, I c.t.scale, I c.t.dx, I c.t.dy, I c.color, .str c.image,
  I c.line.from', I c.line.to, I c.line.level, I c.line.x, I c.line.y, I c.line.width, I c.line.asc, I c.line.desc, I c.line.height, gls c.line.gl]
def cmds (l : List Cmd) : AV := .psl (l.map Cmd.enc)
theorem cI (n : Int) : Closed (I n) := .int _ _
theorem Rect.cl (r : Rect) : Closed (.agg r.enc) := .agg (by simp [Rect.enc, Closed.int])
theorem Pt.cl (r : Pt) : Closed (.agg r.enc) := .agg (by simp [Pt.enc, Closed.int])
theorem Tf.cl (r : Tf) : Closed (.agg r.enc) := .agg (by simp [Tf.enc, Closed.int, Closed.bool])
theorem gls_cl (l : List Gl) : Closed (gls l) := .psl (by
  intro x hx c hc
  simp at hx
  obtain ⟨g, _, rfl⟩ := hx
  simp [Gl.enc] at hc
  rcases hc with rfl | rfl | rfl | rfl | rfl | rfl | rfl | rfl <;> exact .int _ _)
theorem Ln.cl (l : Ln) : Closed (.agg l.enc) := .agg (by simp [Ln.enc, Closed.int, gls_cl])
theorem Gl.cl (l : Gl) : Closed (.agg l.enc) := .agg (by simp [Gl.enc, Closed.int])
theorem Cmd.cls (c : Cmd) : ∀ x ∈ c.enc, Closed x := by simp [Cmd.enc, Closed.int, Closed.bool, Closed.str, gls_cl]
theorem Cmd.cl (c : Cmd) : Closed (.agg c.enc) := .agg c.cls
theorem cmds_cl (l : List Cmd) : Closed (cmds l) := .psl (by
  intro x hx c hc
  simp at hx
  obtain ⟨g, _, rfl⟩ := hx
  exact g.cls c hc)
@[simp] theorem Rect.len (r : Rect) : r.enc.length = 4 := by cases r; rfl
@[simp] theorem Pt.len (r : Pt) : r.enc.length = 2 := by cases r; rfl
@[simp] theorem Tf.len (r : Tf) : r.enc.length = 5 := by cases r; rfl
@[simp] theorem Gl.len (r : Gl) : r.enc.length = 8 := by cases r; rfl
@[simp] theorem Ln.len (r : Ln) : r.enc.length = 10 := by cases r; rfl
@[simp] theorem Cmd.len (r : Cmd) : r.enc.length = 22 := by cases r; rfl
@[simp] theorem Rect.ones (r : Rect) : ones r.enc = true := Eq.trans rfl rfl
@[simp] theorem Pt.ones (r : Pt) : ones r.enc = true := Eq.trans rfl rfl
@[simp] theorem Tf.ones (r : Tf) : ones r.enc = true := Eq.trans rfl rfl
@[simp] theorem Gl.ones (r : Gl) : ones r.enc = true := Eq.trans rfl rfl
@[simp] theorem Ln.ones (r : Ln) : ones r.enc = true := Eq.trans rfl rfl
@[simp] theorem Cmd.ones (r : Cmd) : ones r.enc = true := Eq.trans rfl rfl
@[simp high] theorem Rect.g0 (r : Rect) : r.enc[0]? = some (I r.x) := Eq.trans rfl rfl
@[simp high] theorem Rect.g1 (r : Rect) : r.enc[1]? = some (I r.y) := Eq.trans rfl rfl
@[simp high] theorem Rect.g2 (r : Rect) : r.enc[2]? = some (I r.w) := Eq.trans rfl rfl
@[simp high] theorem Rect.g3 (r : Rect) : r.enc[3]? = some (I r.h) := Eq.trans rfl rfl
@[simp] theorem Rect.all (r : Rect) : cut r.enc 0 4 = some r.enc := Eq.trans rfl rfl
@[simp high] theorem Pt.g0 (r : Pt) : r.enc[0]? = some (I r.x) := Eq.trans rfl rfl
@[simp high] theorem Pt.g1 (r : Pt) : r.enc[1]? = some (I r.y) := Eq.trans rfl rfl
@[simp] theorem Pt.all (r : Pt) : cut r.enc 0 2 = some r.enc := Eq.trans rfl rfl
@[simp high] theorem Tf.g0 (r : Tf) : r.enc[0]? = some (I r.turn) := Eq.trans rfl rfl
@[simp high] theorem Tf.g1 (r : Tf) : r.enc[1]? = some (.bool r.mirror) := Eq.trans rfl rfl
@[simp high] theorem Tf.g2 (r : Tf) : r.enc[2]? = some (I r.scale) := Eq.trans rfl rfl
@[simp high] theorem Tf.g3 (r : Tf) : r.enc[3]? = some (I r.dx) := Eq.trans rfl rfl
@[simp high] theorem Tf.g4 (r : Tf) : r.enc[4]? = some (I r.dy) := Eq.trans rfl rfl
@[simp] theorem Tf.all (r : Tf) : cut r.enc 0 5 = some r.enc := Eq.trans rfl rfl
@[simp high] theorem Gl.g1 (r : Gl) : r.enc[1]? = some (I r.form) := Eq.trans rfl rfl
@[simp high] theorem Gl.g2 (r : Gl) : r.enc[2]? = some (I r.from') := Eq.trans rfl rfl
@[simp high] theorem Gl.g3 (r : Gl) : r.enc[3]? = some (I r.to) := Eq.trans rfl rfl
@[simp high] theorem Gl.g4 (r : Gl) : r.enc[4]? = some (I r.x) := Eq.trans rfl rfl
@[simp high] theorem Gl.g5 (r : Gl) : r.enc[5]? = some (I r.adv) := Eq.trans rfl rfl
@[simp] theorem Gl.all (r : Gl) : cut r.enc 0 8 = some r.enc := Eq.trans rfl rfl
@[simp high] theorem Ln.g0 (r : Ln) : r.enc[0]? = some (I r.from') := Eq.trans rfl rfl
@[simp high] theorem Ln.g1 (r : Ln) : r.enc[1]? = some (I r.to) := Eq.trans rfl rfl
@[simp high] theorem Ln.g2 (r : Ln) : r.enc[2]? = some (I r.level) := Eq.trans rfl rfl
@[simp high] theorem Ln.g3 (r : Ln) : r.enc[3]? = some (I r.x) := Eq.trans rfl rfl
@[simp high] theorem Ln.g4 (r : Ln) : r.enc[4]? = some (I r.y) := Eq.trans rfl rfl
@[simp high] theorem Ln.g5 (r : Ln) : r.enc[5]? = some (I r.width) := Eq.trans rfl rfl
@[simp high] theorem Ln.g6 (r : Ln) : r.enc[6]? = some (I r.asc) := Eq.trans rfl rfl
@[simp high] theorem Ln.g7 (r : Ln) : r.enc[7]? = some (I r.desc) := Eq.trans rfl rfl
@[simp high] theorem Ln.g8 (r : Ln) : r.enc[8]? = some (I r.height) := Eq.trans rfl rfl
@[simp high] theorem Ln.g9 (r : Ln) : r.enc[9]? = some (gls r.gl) := Eq.trans rfl rfl
@[simp] theorem Ln.all (r : Ln) : cut r.enc 0 10 = some r.enc := Eq.trans rfl rfl
@[simp high] theorem Cmd.g0 (r : Cmd) : r.enc[0]? = some (I r.kind) := Eq.trans rfl rfl
@[simp high] theorem Cmd.g1 (r : Cmd) : r.enc[1]? = some (I r.r.x) := Eq.trans rfl rfl
@[simp high] theorem Cmd.g2 (r : Cmd) : r.enc[2]? = some (I r.r.y) := Eq.trans rfl rfl
@[simp high] theorem Cmd.g3 (r : Cmd) : r.enc[3]? = some (I r.r.w) := Eq.trans rfl rfl
@[simp high] theorem Cmd.g10 (r : Cmd) : r.enc[10]? = some (I r.color) := Eq.trans rfl rfl
@[simp high] theorem Cmd.g11 (r : Cmd) : r.enc[11]? = some (.str r.image) := Eq.trans rfl rfl
@[simp high] theorem Cmd.g15 (r : Cmd) : r.enc[15]? = some (I r.line.x) := Eq.trans rfl rfl
@[simp high] theorem Cmd.g21 (r : Cmd) : r.enc[21]? = some (gls r.line.gl) := Eq.trans rfl rfl
@[simp] theorem Cmd.all (r : Cmd) : cut r.enc 0 22 = some r.enc := Eq.trans rfl rfl
@[simp] theorem Cmd.c1 (r : Cmd) : cut r.enc 1 4 = some r.r.enc := Eq.trans rfl rfl
@[simp] theorem Cmd.c5 (r : Cmd) : cut r.enc 5 5 = some r.t.enc := Eq.trans rfl rfl
@[simp] theorem Cmd.c12 (r : Cmd) : cut r.enc 12 10 = some r.line.enc := Eq.trans rfl rfl
theorem gls_pl (l : List Gl) : Plain (gls l) := .psl (by
  intro x hx c hc
  simp at hx
  obtain ⟨g, _, rfl⟩ := hx
  simp [Gl.enc] at hc
  rcases hc with rfl | rfl | rfl | rfl | rfl | rfl | rfl | rfl <;> exact .int _ _)
theorem Gl.pl (l : Gl) : Plain (.agg l.enc) := .agg (by simp [Gl.enc, Plain.int])
theorem Cmd.pls (c : Cmd) : ∀ x ∈ c.enc, Plain x := by simp [Cmd.enc, Plain.int, Plain.bool, Plain.str, gls_pl]
theorem Cmd.pl (c : Cmd) : Plain (.agg c.enc) := .agg c.pls
theorem cmds_pl (l : List Cmd) : Plain (cmds l) := .psl (by
  intro x hx c hc
  simp at hx
  obtain ⟨g, _, rfl⟩ := hx
  exact g.pls c hc)
@[simp] theorem kLen_gls (h : AH) (l : List Gl) : kLen h (gls l) = some (I l.length, h) := by simp [gls]
@[simp] theorem kLen_cmds (h : AH) (l : List Cmd) : kLen h (cmds l) = some (I l.length, h) := by simp [cmds]
@[simp] theorem kIdxA_gls (h : AH) (l : List Gl) (i : Nat) (hi : i < l.length) : kIdxA h 8 (gls l) (I i) = some (.pptr l[i].enc, h) := kIdxA_psl (by simp [hi]) rfl
@[simp] theorem kIdxA_cmds (h : AH) (l : List Cmd) (i : Nat) (hi : i < l.length) : kIdxA h 22 (cmds l) (I i) = some (.pptr l[i].enc, h) := kIdxA_psl (by simp [hi]) rfl
@[simp] theorem Rect.inj {a b : Rect} : a.enc = b.enc ↔ a = b := ⟨fun h => by cases a; cases b; simp [Rect.enc] at h; simp [h], fun h => by rw [h]⟩
@[simp] theorem Pt.inj {a b : Pt} : a.enc = b.enc ↔ a = b := ⟨fun h => by cases a; cases b; simp [Pt.enc] at h; simp [h], fun h => by rw [h]⟩
@[simp] theorem Tf.inj {a b : Tf} : a.enc = b.enc ↔ a = b := ⟨fun h => by cases a; cases b; simp [Tf.enc] at h; simp [h], fun h => by rw [h]⟩
@[simp] theorem Gl.inj {a b : Gl} : a.enc = b.enc ↔ a = b := ⟨fun h => by cases a; cases b; simp [Gl.enc] at h; simp [h], fun h => by rw [h]⟩
@[simp] theorem Rect.frz (h : AH) (n : Bool) (a b : Rect) : FrzL h n a.enc b.enc ↔ a = b := by
  cases a; cases b; simp [Rect.enc]
@[simp] theorem Pt.frz (h : AH) (n : Bool) (a b : Pt) : FrzL h n a.enc b.enc ↔ a = b := by
  cases a; cases b; simp [Pt.enc]
@[simp] theorem Tf.frz (h : AH) (n : Bool) (a b : Tf) : FrzL h n a.enc b.enc ↔ a = b := by
  cases a; cases b; simp [Tf.enc]
theorem map_inj {α β : Type} {f : α → β} (hf : ∀ x y, f x = f y → x = y) : ∀ {a b : List α}, a.map f = b.map f → a = b
  | [], [], _ => rfl
  | [], _ :: _, h => by simp at h
  | _ :: _, [], h => by simp at h
  | x :: a, y :: b, h => by simp at h; rw [hf _ _ h.1, map_inj hf h.2]
@[simp] theorem gls_inj {a b : List Gl} : gls a = gls b ↔ a = b := ⟨fun h => map_inj (fun _ _ h => Gl.inj.1 h) (by simpa [gls] using h), fun h => by rw [h]⟩
@[simp] theorem Ln.inj {a b : Ln} : a.enc = b.enc ↔ a = b := ⟨fun h => by cases a; cases b; simp [Ln.enc] at h; simp [h], fun h => by rw [h]⟩
@[simp] theorem Cmd.inj {a b : Cmd} : a.enc = b.enc ↔ a = b := ⟨fun h => by
  rcases a with ⟨_, ⟨_, _, _, _⟩, ⟨_, _, _, _, _⟩, _, _, ⟨_, _, _, _, _, _, _, _, _, _⟩⟩
  rcases b with ⟨_, ⟨_, _, _, _⟩, ⟨_, _, _, _, _⟩, _, _, ⟨_, _, _, _, _, _, _, _, _, _⟩⟩
  simp [Cmd.enc] at h; simp [h], fun h => by rw [h]⟩
@[simp] theorem cmds_inj {a b : List Cmd} : cmds a = cmds b ↔ a = b := ⟨fun h => map_inj (fun _ _ h => Cmd.inj.1 h) (by simpa [cmds] using h), fun h => by rw [h]⟩
end Go.Proofs.Ytpnekpbehcbmkaa
end
