/- The abstract interpreter's ground: maps, abstract values, how they stand to the model's values, the heap of owned objects. Over any program. The abstract interpreter: its operations, how the model's operations are turned into them, what they do. Over any program. -/
import Derived.Orders
import Derived.LoopN
import Derived.Laws.AppendOwn
import GoSem.Dispatch
set_option linter.unusedSimpArgs false
set_option linter.unusedVariables false
set_option linter.unnecessarySimpa false
namespace Go.Eng
/-! ## Maps from numbers -/
inductive PM (α : Type) where
  | leaf
  | node (l : PM α) (v : Option α) (r : PM α)

namespace PM
variable {α : Type}
def get : PM α → Nat → Option α
  | leaf, _ => none
  | node l v r, k => cond (Nat.beq k 0) v (cond (Nat.beq (Nat.mod k 2) 1) (l.get (Nat.div k 2)) (r.get (Nat.sub (Nat.div k 2) 1)))
def putF : Nat → PM α → Nat → Option α → PM α
  | 0, t, _, _ => t
  | f + 1, leaf, k, x => cond (Nat.beq k 0) (node leaf x leaf) (cond (Nat.beq (Nat.mod k 2) 1) (node (putF f leaf (Nat.div k 2) x) none leaf) (node leaf none (putF f leaf (Nat.sub (Nat.div k 2) 1) x)))
  | f + 1, node l v r, k, x => cond (Nat.beq k 0) (node l x r) (cond (Nat.beq (Nat.mod k 2) 1) (node (putF f l (Nat.div k 2) x) v r) (node l v (putF f r (Nat.sub (Nat.div k 2) 1) x)))
def put (t : PM α) (k : Nat) (x : α) : PM α := putF (Nat.succ k) t k (some x)
def del (t : PM α) (k : Nat) : PM α := putF (Nat.succ k) t k none

theorem get_putF : ∀ (f : Nat) (t : PM α) (k : Nat) (x : Option α) (j : Nat), k < f → (putF f t k x).get j = if j = k then x else t.get j := by
  intro f
  induction f with
  | zero => intro t k x j h; omega
  | succ f ih =>
    intro t k x j h
    have hb : ∀ a b : Nat, Nat.beq a b = decide (a = b) := fun a b => by
      cases hq : Nat.beq a b
      · exact (decide_eq_false (Nat.ne_of_beq_eq_false hq)).symm
      · exact (decide_eq_true (Nat.eq_of_beq_eq_true hq)).symm
    have hm : ∀ a : Nat, Nat.mod a 2 = a % 2 := fun _ => rfl
    have hd : ∀ a : Nat, Nat.div a 2 = a / 2 := fun _ => rfl
    have hs : ∀ a : Nat, Nat.sub a 1 = a - 1 := fun _ => rfl
    cases t with
    | leaf =>
      simp only [putF, get, hb, hm, hd, hs]
      by_cases hk : k = 0
      · subst hk
        by_cases hj : j = 0
        · simp [get, hb, hj]
        · simp [get, hb, hj]
      · by_cases hp : k % 2 = 1
        · simp only [hk, hp, decide_true, decide_false, cond_true, cond_false, get, hb, hm, hd, hs]
          by_cases hj : j = 0
          · have : ¬ (j = k) := by omega
            simp [hj]; omega
          · by_cases hjp : j % 2 = 1
            · simp only [hj, hjp, decide_true, decide_false, cond_true, cond_false]
              rw [ih _ _ _ _ (by omega)]
              by_cases he : j = k
              · subst he; simp
              · have : ¬ (j / 2 = k / 2) := by omega
                simp [he, this, get]
            · have : ¬ (j = k) := by intro h; subst h; omega
              simp [hj, hjp, this]
        · simp only [hk, hp, decide_false, cond_false, get, hb, hm, hd, hs]
          by_cases hj : j = 0
          · simp [hj]; omega
          · by_cases hjp : j % 2 = 1
            · have : ¬ (j = k) := by intro h; subst h; omega
              simp [hj, hjp, this]
            · simp only [hj, hjp, decide_false, cond_false]
              rw [ih _ _ _ _ (by omega)]
              by_cases he : j = k
              · subst he; simp
              · have : ¬ (j / 2 - 1 = k / 2 - 1) := by omega
                simp [he, this, get]
    | node l v r =>
      simp only [putF, get, hb, hm, hd, hs]
      by_cases hk : k = 0
      · subst hk
        by_cases hj : j = 0
        · simp [get, hb, hj]
        · simp [get, hb, hj, hm, hd, hs]
      · by_cases hp : k % 2 = 1
        · simp only [hk, hp, decide_true, decide_false, cond_true, cond_false, get, hb, hm, hd, hs]
          by_cases hj : j = 0
          · simp [hj]; omega
          · by_cases hjp : j % 2 = 1
            · simp only [hj, hjp, decide_true, decide_false, cond_true, cond_false]
              rw [ih _ _ _ _ (by omega)]
              by_cases he : j = k
              · subst he; simp
              · have : ¬ (j / 2 = k / 2) := by omega
                simp [he, this]
            · have : ¬ (j = k) := by intro h; subst h; omega
              simp [hj, hjp, this]
        · simp only [hk, hp, decide_false, cond_false, get, hb, hm, hd, hs]
          by_cases hj : j = 0
          · simp [hj]; omega
          · by_cases hjp : j % 2 = 1
            · have : ¬ (j = k) := by intro h; subst h; omega
              simp [hj, hjp, this]
            · simp only [hj, hjp, decide_false, cond_false]
              rw [ih _ _ _ _ (by omega)]
              by_cases he : j = k
              · subst he; simp
              · have : ¬ (j / 2 - 1 = k / 2 - 1) := by omega
                simp [he, this]
theorem get_put (t : PM α) (k : Nat) (x : α) (j : Nat) : (t.put k x).get j = if j = k then some x else t.get j := get_putF _ t k _ j (Nat.lt_succ_self k)
theorem get_del (t : PM α) (k : Nat) (j : Nat) : (t.del k).get j = if j = k then none else t.get j := get_putF _ t k _ j (Nat.lt_succ_self k)
theorem get_put_same (t : PM α) (k : Nat) (x : α) : (t.put k x).get k = some x := by rw [get_put, if_pos rfl]
theorem get_put_ne (t : PM α) {k j : Nat} (x : α) (h : j ≠ k) : (t.put k x).get j = t.get j := by rw [get_put, if_neg h]
theorem get_del_same (t : PM α) (k : Nat) : (t.del k).get k = none := by rw [get_del, if_pos rfl]
theorem get_del_ne (t : PM α) {k j : Nat} (h : j ≠ k) : (t.del k).get j = t.get j := by rw [get_del, if_neg h]
end PM
/-! ## The contrast of two colors, as a plain function -/
def lumN (n : Nat) : Nat := (2126 * (n / 65536) * (n / 65536) + 7152 * (n / 256 % 256) * (n / 256 % 256) + 722 * (n % 256) * (n % 256)) / 650250
def conN (a b : Nat) : Nat := ((if lumN a < lumN b then lumN b else lumN a) + 50) * 100 / ((if lumN b < lumN a then lumN b else lumN a) + 50)

/-! ## Abstract values -/
inductive AV where
  | undef
  | bool (b : Bool)
  | int (k : IntKind) (n : Int)
  | str (s : List UInt8)
  | agg (cs : List AV)
  | tup (vs : List AV)
  | ptr (id off : Nat)
  | nilptr
  | pptr (cs : List AV)
  | gptr (g off : Nat)
  | nilsl
  | esl
  | psl (xs : List (List AV))
  | rsl (id off len z : Nat)
  | mapv (id : Nat)
  | nilmap
  | func (fn : Fn) (first captured : List AV)
  | nilfunc
  | nilif
  | iface (t : TypeId) (v : AV)
  | sint (k : IntKind) (m i : Nat) (c lo hi : Int)
  | scol (k : IntKind) (m r i j l : Nat) (lo hi : Int)
  | oint (k : IntKind) (rs : List (BinOp × Int × Int))
  deriving Inhabited

def iarith (op : BinOp) (k : IntKind) (a b : Int) : Option AV :=
  match op with
  | .add => some (.int k (k.wrap (a + b)))
  | .sub => some (.int k (k.wrap (a - b)))
  | .mul => some (.int k (k.wrap (a * b)))
  | .quo => if b = 0 then none else some (.int k (k.wrap (a.tdiv b)))
  | .rem => if b = 0 then none else some (.int k (a.tmod b))
  | .and => some (.int k (k.wrap (BitVec.ofInt k.bits a &&& BitVec.ofInt k.bits b).toNat))
  | .or => some (.int k (k.wrap (BitVec.ofInt k.bits a ||| BitVec.ofInt k.bits b).toNat))
  | .xor => some (.int k (k.wrap (BitVec.ofInt k.bits a ^^^ BitVec.ofInt k.bits b).toNat))
  | .andNot => some (.int k (k.wrap (BitVec.ofInt k.bits a &&& ~~~BitVec.ofInt k.bits b).toNat))
  | .eql => some (.bool (a == b))
  | .neq => some (.bool (a != b))
  | .lss => some (.bool (decide (a < b)))
  | .leq => some (.bool (decide (a ≤ b)))
  | .gtr => some (.bool (decide (b < a)))
  | .geq => some (.bool (decide (b ≤ a)))
  | _ => none
/-- The value lies in one cell. -/
def AV.one : AV → Bool
  | .undef | .agg _ | .tup _ => false
  | _ => true
def AV.cells : AV → List AV
  | .agg cs => cs
  | v => [v]

abbrev Bl := Nat → Option (Nat × Nat)

/-- An abstract value and a value of the model: over a heap, a set of blocks that may be written, and where the owned objects lie. -/
inductive VR (hp : Array Obj) (L : Nat → Prop) (β : Bl) : AV → Value → Prop where
  | undef (v : Value) : VR hp L β .undef v
  | bool (b : Bool) : VR hp L β (.bool b) (.bool b)
  | int (k : IntKind) (n : Int) : VR hp L β (.int k n) (.int k n)
  | str (s : List UInt8) : VR hp L β (.str s) (.string ⟨s.toArray⟩)
  | agg (cs : List AV) (vs : Array Value) (hl : cs.length = vs.size) (h : ∀ (i : Nat) (c : AV) (v : Value), cs[i]? = some c → vs[i]? = some v → VR hp L β c v) : VR hp L β (.agg cs) (.agg vs)
  | tup (cs : List AV) (vs : Array Value) (hl : cs.length = vs.size) (h : ∀ (i : Nat) (c : AV) (v : Value), cs[i]? = some c → vs[i]? = some v → VR hp L β c v) : VR hp L β (.tup cs) (.tuple vs)
  | ptr (id off b base : Nat) (h : β id = some (b, base)) : VR hp L β (.ptr id off) (.pointer (some ⟨b, base + off, none⟩))
  | nilptr : VR hp L β .nilptr (.pointer none)
  | pptr (cs : List AV) (b o : Nat) (cur : Array Value) (e : TypeId) (fz : Nat × Nat) (hb : hp[b]? = some (.cells cur e fz)) (hL : ¬ L b) (hs : o + cs.length ≤ cur.size)
      (h : ∀ (i : Nat) (c : AV) (v : Value), cs[i]? = some c → cur[o + i]? = some v → VR hp L β c v) : VR hp L β (.pptr cs) (.pointer (some ⟨b, o, none⟩))
  | gptr (g off : Nat) : VR hp L β (.gptr g off) (.pointer (some ⟨g, off, none⟩))
  | nilsl : VR hp L β .nilsl (.slice none 0 0)
  | esl (a : Option Addr) : VR hp L β .esl (.slice a 0 0)
  | psl0 (a : Option Addr) (cap : Nat) : VR hp L β (.psl []) (.slice a 0 cap)
  | psl (xs : List (List AV)) (z b o cap : Nat) (cur : Array Value) (e : TypeId) (fz : Nat × Nat) (hb : hp[b]? = some (.cells cur e fz)) (hL : ¬ L b) (hs : o + xs.length * z ≤ cur.size)
      (hz : ∀ (i : Nat) (x : List AV), xs[i]? = some x → x.length = z) (hc : xs.length ≤ cap)
      (h : ∀ (i : Nat) (x : List AV) (j : Nat) (c : AV) (v : Value), xs[i]? = some x → x[j]? = some c → cur[o + i * z + j]? = some v → VR hp L β c v) : VR hp L β (.psl xs) (.slice (some ⟨b, o, none⟩) xs.length cap)
  | rsl (id off len z b base cap : Nat) (cur : Array Value) (e : TypeId) (h : β id = some (b, base)) (hb : hp[b]? = some (.cells cur e (0, 0))) (hc : len ≤ cap) (hm : cap ≤ maxLen) (hs : base + off + cap * z ≤ cur.size) :
      VR hp L β (.rsl id off len z) (.slice (some ⟨b, base + off, none⟩) len cap)
  | rsl0 (id off z b base o : Nat) (h : β id = some (b, base)) : VR hp L β (.rsl id off 0 z) (.slice (some ⟨b, o, none⟩) 0 0)
  | mapv (id b base : Nat) (h : β id = some (b, base)) : VR hp L β (.mapv id) (.map (some b))
  | nilmap : VR hp L β .nilmap (.map none)
  | func (fn : Fn) (f1 c1 : List AV) (f2 c2 : Array Value) (hl1 : f1.length = f2.size) (hl2 : c1.length = c2.size) (h1 : ∀ (i : Nat) (c : AV) (v : Value), f1[i]? = some c → f2[i]? = some v → VR hp L β c v)
      (h2 : ∀ (i : Nat) (c : AV) (v : Value), c1[i]? = some c → c2[i]? = some v → VR hp L β c v) : VR hp L β (.func fn f1 c1) (.func fn f2 c2)
  | nilfunc : VR hp L β .nilfunc .nilFunc
  | nilif : VR hp L β .nilif .nilIface
  | iface (t : TypeId) (a : AV) (v : Value) (h : VR hp L β a v) : VR hp L β (.iface t a) (.iface t v)
  | sint (k : IntKind) (m i : Nat) (c lo hi : Int) (b base : Nat) (h : β i = some (b, base)) (h1 : lo ≤ ((base % m : Nat) : Int) + c) (h2 : ((base % m : Nat) : Int) + c ≤ hi) : VR hp L β (.sint k m i c lo hi) (.int k (((base % m : Nat) : Int) + c))
  | scol (k : IntKind) (m r i j l : Nat) (lo hi : Int) (b1 n1 b2 n2 b3 : Nat) (h1 : β i = some (b1, n1)) (h2 : β j = some (b2, n2)) (h3 : β l = some (b3, conN (n1 % 16777216) (n2 % 16777216))) (q1 : n1 ≤ 4294967295) (q2 : n2 ≤ 4294967295)
      (q3 : lo ≤ ((conN (n1 % 16777216) (n2 % 16777216) : Nat) : Int)) (q4 : ((conN (n1 % 16777216) (n2 % 16777216) : Nat) : Int) ≤ hi) : VR hp L β (.scol k m r i j l lo hi) (.int k ((((if r = 0 then n1 else n2) % m : Nat) : Int)))
  | oint (k : IntKind) (rs : List (BinOp × Int × Int)) (n : Int) (h : ∀ o d r, (o, d, r) ∈ rs → iarith o k n d = some (.int k r)) : VR hp L β (.oint k rs) (.int k n)

/-- What a step may do to the heap, so that related values stay related. -/
structure Later (hp : Array Obj) (L : Nat → Prop) (β : Bl) (hp' : Array Obj) (L' : Nat → Prop) (β' : Bl) : Prop where
  ext : ∀ id x, β id = some x → β' id = some x
  keep : ∀ b, b < hp.size → ¬ L b → ¬ L' b ∧ hp'[b]? = hp[b]?
  shape : ∀ (b : Nat) (cur : Array Value) (e : TypeId) (fz : Nat × Nat), hp[b]? = some (.cells cur e fz) → ∃ cur', hp'[b]? = some (.cells cur' e fz) ∧ cur'.size = cur.size

theorem lt_of_get {α : Type} {a : Array α} {i : Nat} {x : α} (h : a[i]? = some x) : i < a.size := (Array.getElem?_eq_some_iff.1 h).1

theorem VR.later {hp : Array Obj} {L : Nat → Prop} {β : Bl} {hp' : Array Obj} {L' : Nat → Prop} {β' : Bl} (hl : Later hp L β hp' L' β') {a : AV} {v : Value} (h : VR hp L β a v) : VR hp' L' β' a v := by
  induction h with
  | undef v => exact .undef v
  | bool b => exact .bool b
  | int k n => exact .int k n
  | str s => exact .str s
  | agg cs vs hlen h ih => exact .agg cs vs hlen ih
  | tup cs vs hlen h ih => exact .tup cs vs hlen ih
  | ptr id off b base h => exact .ptr id off b base (hl.ext _ _ h)
  | nilptr => exact .nilptr
  | pptr cs b o cur e fz hb hL hs h ih =>
    obtain ⟨h1, h2⟩ := hl.keep b (lt_of_get hb) hL
    exact .pptr cs b o cur e fz (h2.trans hb) h1 hs ih
  | gptr g off => exact .gptr g off
  | nilsl => exact .nilsl
  | esl a => exact .esl a
  | psl0 a cap => exact .psl0 a cap
  | psl xs z b o cap cur e fz hb hL hs hz hc h ih =>
    obtain ⟨h1, h2⟩ := hl.keep b (lt_of_get hb) hL
    exact .psl xs z b o cap cur e fz (h2.trans hb) h1 hs hz hc ih
  | rsl id off len z b base cap cur e h hb hc hm hs =>
    obtain ⟨cur', h1, h2⟩ := hl.shape _ _ _ _ hb
    exact .rsl id off len z b base cap cur' e (hl.ext _ _ h) h1 hc hm (by omega)
  | rsl0 id off z b base o h => exact .rsl0 id off z b base o (hl.ext _ _ h)
  | mapv id b base h => exact .mapv id b base (hl.ext _ _ h)
  | nilmap => exact .nilmap
  | func fn f1 c1 f2 c2 hl1 hl2 h1 h2 ih1 ih2 => exact .func fn f1 c1 f2 c2 hl1 hl2 ih1 ih2
  | nilfunc => exact .nilfunc
  | nilif => exact .nilif
  | iface t a v h ih => exact .iface t a v ih
  | sint k m i c lo hi b base h h1 h2 => exact .sint k m i c lo hi b base (hl.ext _ _ h) h1 h2
  | scol k m r i j l lo hi b1 n1 b2 n2 b3 h1 h2 h3 q1 q2 q3 q4 => exact .scol k m r i j l lo hi b1 n1 b2 n2 b3 (hl.ext _ _ h1) (hl.ext _ _ h2) (hl.ext _ _ h3) q1 q2 q3 q4
  | oint k rs n h => exact .oint k rs n h

theorem Later.refl (hp : Array Obj) (L : Nat → Prop) (β : Bl) : Later hp L β hp L β :=
  ⟨fun _ _ h => h, fun _ _ h => ⟨h, rfl⟩, fun _ cur _ _ h => ⟨cur, h, rfl⟩⟩

theorem VR.one {hp : Array Obj} {L : Nat → Prop} {β : Bl} {a : AV} {v : Value} (h : VR hp L β a v) (h1 : a.one = true) : v.oneCell' = true := by
  cases h <;> first | rfl | simp [AV.one] at h1

/-! ## The heap of owned objects -/
inductive AObj where
  | cells (cs : List AV)
  | map (kvs : List (AV × AV))
  | siter (s : ByteArray) (pos : Nat)
  | glob (g : Nat) (cs : List AV)
  deriving Inhabited

abbrev Hp := PM AObj

/-- block b holds a live object -/
def live (β : Bl) (H : Hp) (b : Nat) : Prop := ∃ id o base, H.get id = some o ∧ β id = some (b, base)

/-- An abstract object and block b of the heap, from cell 'base' on. -/
def OR (hp : Array Obj) (L : Nat → Prop) (β : Bl) (b base : Nat) : AObj → Prop
  | .cells cs => ∃ cur e, hp[b]? = some (.cells cur e (0, 0)) ∧ base + cs.length ≤ cur.size ∧
      ∀ (i : Nat) (c : AV) (v : Value), cs[i]? = some c → cur[base + i]? = some v → VR hp L β c v
  | .map kvs => base = 0 ∧ ∃ es, hp[b]? = some (.map es kvs.length) ∧ es.size = kvs.length ∧
      ∀ (i : Nat) (kv : AV × AV) (e : MapEntry), kvs[i]? = some kv → es[i]? = some e → VR hp L β kv.1 e.key ∧ VR hp L β kv.2 e.val ∧ e.born = i
  | .siter s pos => base = 0 ∧ hp[b]? = some (.stringIter s pos)
  | .glob g cs => base = 0 ∧ b = g ∧ ∃ cur e fz, hp[b]? = some (.cells cur e fz) ∧ cs.length ≤ cur.size ∧
      ∀ (i : Nat) (c : AV) (v : Value), cs[i]? = some c → cur[i]? = some v → VR hp L β c v

structure SimH (own : Nat → Prop) (β : Bl) (H : Hp) (nx : Nat) (w : World) : Prop where
  fresh : ∀ id, nx ≤ id → β id = none
  lt : ∀ id b base, β id = some (b, base) → b < w.heap.size
  ownlt : ∀ b, own b → b < w.heap.size
  obj : ∀ id o, H.get id = some o → ∃ b base, β id = some (b, base) ∧ ¬ own b ∧ OR w.heap (fun b => own b ∨ live β H b) β b base o
  inj : ∀ id id' o o' b x y, H.get id = some o → H.get id' = some o' → β id = some (b, x) → β id' = some (b, y) → id = id'

structure AH where
  H : Hp
  nx : Nat

/-- What a piece of code does to the world, beside its results. -/
structure Trans (own : Nat → Prop) (β : Bl) (h : AH) (w : World) (β' : Bl) (h' : AH) (w' : World) : Prop where
  ext : ∀ id x, β id = some x → β' id = some x
  low : ∀ id, id < h.nx → β' id = β id
  up : h.nx ≤ h'.nx
  size : w.heap.size ≤ w'.heap.size
  keep : ∀ b, b < w.heap.size → ¬ live β h.H b → w'.heap[b]? = w.heap[b]?
  live : ∀ b, live β' h'.H b → live β h.H b ∨ w.heap.size ≤ b
  shape : ∀ (b : Nat) (cur : Array Value) (e : TypeId) (fz : Nat × Nat), w.heap[b]? = some (.cells cur e fz) → ∃ cur', w'.heap[b]? = some (.cells cur' e fz) ∧ cur'.size = cur.size
  os : w'.os = w.os
  tape : w'.tape = w.tape
  output : w'.output = w.output

theorem Trans.refl (own : Nat → Prop) (β : Bl) (h : AH) (w : World) : Trans own β h w β h w :=
  ⟨fun _ _ h => h, fun _ _ => rfl, Nat.le_refl _, Nat.le_refl _, fun _ _ _ => rfl, fun _ h => .inl h, fun _ cur _ _ h => ⟨cur, h, rfl⟩, rfl, rfl, rfl⟩

theorem Trans.trans {own : Nat → Prop} {β₁ β₂ β₃ : Bl} {h₁ h₂ h₃ : AH} {w₁ w₂ w₃ : World} (h : Trans own β₁ h₁ w₁ β₂ h₂ w₂) (k : Trans own β₂ h₂ w₂ β₃ h₃ w₃) : Trans own β₁ h₁ w₁ β₃ h₃ w₃ := by
  refine ⟨fun id x hx => k.ext _ _ (h.ext _ _ hx), fun id hid => (k.low id (Nat.lt_of_lt_of_le hid h.up)).trans (h.low id hid), Nat.le_trans h.up k.up, Nat.le_trans h.size k.size, fun b hb hn => ?_, fun b hb => ?_, fun b cur e fz hc => ?_, k.os.trans h.os, k.tape.trans h.tape, k.output.trans h.output⟩
  · rw [k.keep b (Nat.lt_of_lt_of_le hb h.size) (fun hl => ?_)]
    · exact h.keep b hb hn
    · rcases h.live b hl with h1 | h1
      · exact hn h1
      · omega
  · rcases k.live b hb with h1 | h1
    · exact h.live b h1
    · exact .inr (Nat.le_trans h.size h1)
  · obtain ⟨c1, h1, h2⟩ := h.shape _ _ _ _ hc
    obtain ⟨c2, h3, h4⟩ := k.shape _ _ _ _ h1
    exact ⟨c2, h3, h4.trans h2⟩

theorem Trans.later {own : Nat → Prop} {β β' : Bl} {h h' : AH} {w w' : World} (ht : Trans own β h w β' h' w') :
    Later w.heap (fun b => own b ∨ Eng.live β h.H b) β w'.heap (fun b => own b ∨ Eng.live β' h'.H b) β' :=
  ⟨ht.ext, fun b hb hn => ⟨fun hl => hl.elim (fun h1 => hn (.inl h1)) (fun h1 => (ht.live b h1).elim (fun h2 => hn (.inr h2)) (fun h2 => by omega)), ht.keep b hb (fun hl => hn (.inr hl))⟩, ht.shape⟩

end Go.Eng
noncomputable section
namespace Go.Eng
inductive Opd where
  | tmp (t : Nat)
  | const (v : AV)
  deriving Inhabited

/-- What is known of the registers. -/
def Tm : Type := Nat → Option AV
def Tm.get (T : Tm) (t : Nat) : Option AV := T t
def Tm.put (T : Tm) (d : Nat) (v : AV) : Tm := fun t => cond (Nat.beq t d) (some v) (T t)
def Tm.leaf : Tm := fun _ => none
theorem Tm.get_put (T : Tm) (k : Nat) (x : AV) (j : Nat) : (T.put k x).get j = if j = k then some x else T.get j := by
  unfold Tm.put Tm.get
  by_cases h : j = k
  · subst h; simp
  · have : Nat.beq j k = false := by cases hq : Nat.beq j k with | false => rfl | true => exact absurd (Nat.eq_of_beq_eq_true hq) h
    simp [this, h]
theorem Tm.get_put_same (T : Tm) (k : Nat) (x : AV) : (T.put k x).get k = some x := by rw [get_put, if_pos rfl]
theorem Tm.get_put_ne (T : Tm) {k j : Nat} (x : AV) (h : j ≠ k) : (T.put k x).get j = T.get j := by rw [get_put, if_neg h]
theorem Tm.get_leaf (t : Nat) : Tm.leaf.get t = none := rfl
def Opd.ev (T : Tm) : Opd → AV
  | .tmp t => (T.get t).getD .undef
  | .const v => v

/-- Kinds of plain cells. -/
inductive SK where
  | bool
  | int (k : IntKind)
  | str
  deriving DecidableEq

/-- Kinds of types that are held against nil. -/
inductive NK where
  | ptr | sl | mp | fn
  deriving DecidableEq

/-- Kinds of keys of maps: plain cells, flat structs of plain cells. -/
inductive MK where
  | one (k : SK)
  | st (ks : List SK)

/-- Further operations, all of them on values alone or with an effect. -/
inductive XK where
  | s2r
  | r2s
  | b2s
  | mkmap
  | mapset (k : MK)
  | mapget (k : MK) (ok : Bool) (zero : AV)
  | mapent (k : MK) (zero : AV)
  | entst
  | maplen
  | capz
  | appz (z bytes : Nat) (zero : List AV)
  | slpa (n z : Nat)

inductive AOp where
  | mov (x : Opd)
  | pick (c a b : Opd)
  | new (zero : List AV)
  | box (x : Opd)
  | build (zero : List AV) (parts : List (Nat × Nat × Opd))
  | buildSl (z len : Nat) (zero : List AV) (parts : List (Nat × Nat × Opd))
  | ld1 (a : Opd)
  | ldn (n : Nat) (a : Opd)
  | st (n : Nat) (a x : Opd)
  | nilchk (x : Opd)
  | arith (op : BinOp) (x y : Opd)
  | eqs (neg : Bool) (x y : Opd)
  | eqn (k : NK) (neg : Bool) (x y : Opd)
  | eqf (neg : Bool) (ks : List SK) (x y : Opd)
  | un (op : UnOp) (x : Opd)
  | convI (k : IntKind) (x : Opd)
  | fld (off : Nat) (n : Option Nat) (x : Opd)
  | fldA (off : Nat) (x : Opd)
  | idxA (z : Nat) (x i : Opd)
  | idxArrA (len z : Nat) (x i : Opd)
  | idx (len z : Nat) (n : Option Nat) (x i : Opd)
  | idxS (x i : Opd)
  | sl (z : Nat) (x : Opd) (lo hi mx : Option Opd)
  | slS (x : Opd) (lo hi : Option Opd)
  | len (x : Opd)
  | lenS (x : Opd)
  | convS (x : Opd)
  | lenc (n : Nat)
  | app (z bytes : Nat) (s x : Opd)
  | copy (z : Nat) (d s : Opd)
  | mnmx (mx : Bool) (x y : Opd)
  | ext (x : Opd) (i : Nat)
  | mkf (fn : Fn) (first captured : List Opd)
  | mksl (z bytes : Nat) (zero : List AV) (l c : Opd)
  | call (f : Opd) (args : List Opd)
  | xo (k : XK) (args : List Opd)
  | stuck
  deriving Inhabited

structure AOpr where
  dst : Option Nat
  op : AOp
  guard : Option (Nat × Bool)
  deriving Inhabited

/-! ## Turning the model's operations -/
def cScalar : Value → Option AV
  | .bool b => some (.bool b)
  | .int k n => some (.int k n)
  | .string s => some (.str s.data.toList)
  | .pointer none => some .nilptr
  | .slice none 0 0 => some .nilsl
  | .map none => some .nilmap
  | .nilFunc => some .nilfunc
  | .nilIface => some .nilif
  | _ => none
def cVals : List Value → Option (List AV)
  | [] => some []
  | v :: vs => match cScalar v, cVals vs with
    | some a, some as => some (a :: as)
    | _, _ => none
def cVal : Value → Option AV
  | .agg cs => (cVals cs.toList).map .agg
  | v => cScalar v
def cOpd : Operand → Option Opd
  | .tmp t => some (.tmp t)
  | .const v => (cVal v).map .const
  | .func f => some (.const (.func (.func f) [] []))
  | .global g => some (.const (.gptr g 0))
def cOpds : List Operand → Option (List Opd)
  | [] => some []
  | v :: vs => match cOpd v, cOpds vs with
    | some a, some as => some (a :: as)
    | _, _ => none
def cOpdO : Option Operand → Option (Option Opd)
  | none => some none
  | some x => (cOpd x).map some

section
variable (P : Program)
def zeroOf (t : TypeId) : Option (List AV) :=
  match P.info? t with
  | some i => match i.zero with
    | some v => cVals v.cells.toList
    | none => none
  | none => none
def szOf (t : TypeId) : Option Nat := (P.info? t).map (·.size)
def byOf (t : TypeId) : Option Nat := (P.info? t).map (·.bytes)
/-- none: one cell; some n: an aggregate of n cells -/
def aggOf (t : TypeId) : Option (Option Nat) :=
  match P.underlying t with
  | some (.struct _) | some (.array _ _) => (szOf P t).map some
  | some _ => some none
  | none => none

def flatFs (rec : TypeId → Option (List SK)) (off : Nat) : List Field → Option (List SK)
  | [] => some []
  | f :: fs =>
    if f.name = "_" ∨ f.offset ≠ off then none else
    match rec f.type with
    | some ks => if szOf P f.type = some ks.length then (match flatFs rec (off + ks.length) fs with | some r => some (ks ++ r) | none => none) else none
    | none => none
def flatK : Nat → TypeId → Option (List SK)
  | 0, _ => none
  | d + 1, t =>
    match P.underlying t with
    | some .bool => some [.bool]
    | some (.int k) => some [.int k]
    | some .string => some [.str]
    | some (.struct fs) => if P.stoodInHeld t then none else flatFs P (flatK d) 0 fs.toList
    | _ => none

def cParts (place : Nat → Option (Nat × Nat)) : List (Nat × Operand) → Option (List (Nat × Nat × Opd))
  | [] => some []
  | (i, x) :: r => match place i, cOpd x, cParts place r with
    | some (o, s), some y, some l => some ((o, s, y) :: l)
    | _, _, _ => none

def fieldPlaces (fs : Array Field) (i : Nat) : Option (Nat × Nat) :=
  match fs[i]? with
  | some f => (szOf P f.type).map fun s => (f.offset, s)
  | none => none

def repl (n : Nat) (zero : List AV) : List AV := (List.replicate n zero).flatten

def cEq (neg : Bool) (t : TypeId) (a b : Opd) : Option AOp :=
  match P.underlying t with
  | some .bool => some (.eqs neg a b)
  | some (.int _) => some (.arith (if neg then .neq else .eql) a b)
  | some .string => some (.arith (if neg then .neq else .eql) a b)
  | some (.pointer _) => some (.eqn .ptr neg a b)
  | some (.slice _) => some (.eqn .sl neg a b)
  | some (.map _ _) => some (.eqn .mp neg a b)
  | some (.func _ _ _) => some (.eqn .fn neg a b)
  | some (.struct _) => if P.eqGuardType P.depth t then none else (flatK P 50 t).map fun ks => .eqf neg ks a b
  | _ => none

def cOp : Op → Option AOp
  | .move x | .assign x => (cOpd x).map .mov
  | .pick c a b => do pure (.pick (← cOpd c) (← cOpd a) (← cOpd b))
  | .alloc e => (zeroOf P e).map .new
  | .box _ x => (cOpd x).map .box
  | .build t parts => do
    match P.underlying t with
    | some (.struct fs) => if fs.all (fun f => (P.info? f.type).isSome) then pure (.build (← zeroOf P t) (← cParts (fieldPlaces P fs) parts.toList)) else none
    | some (.array _ e) => do
      let s ← szOf P e
      pure (.build (← zeroOf P t) (← cParts (fun i => some (i * s, s)) parts.toList))
    | _ => none
  | .buildSlice t len parts => do
    match P.underlying t with
    | some (.slice e) => do
      let s ← szOf P e
      if len * s > 2 ^ 24 || s == 0 then none else
      let z ← zeroOf P e
      if z.length ≠ s then none else
      pure (.buildSl s len (repl len z) (← cParts (fun i => some (i * s, s)) parts.toList))
    | _ => none
  | .load t a => do
    match ← aggOf P t with
    | some n => pure (.ldn n (← cOpd a))
    | none => pure (.ld1 (← cOpd a))
  | .store t a x => do pure (.st (← szOf P t) (← cOpd a) (← cOpd x))
  | .nilCheck x => (cOpd x).map .nilchk
  | .binOp op t x y _ => do
    let a ← cOpd x
    let b ← cOpd y
    match op with
    | .eql => cEq P false t a b
    | .neq => cEq P true t a b
    | op => pure (.arith op a b)
  | .unOp op _ x => (cOpd x).map (.un op)
  | .convert src dst x => do
    match P.underlying src, P.underlying dst with
    | some _, some (.int k) => pure (.convI k (← cOpd x))
    | some .string, some .string => pure (.convS (← cOpd x))
    | _, _ => none
  | .fieldAddr s x f => do
    match P.underlying s with
    | some (.struct fs) => do
      let g ← fs[f]?
      if (← szOf P g.type) = 0 then none else pure (.fldA g.offset (← cOpd x))
    | _ => none
  | .field s x f => do
    match P.underlying s with
    | some (.struct fs) => do
      let g ← fs[f]?
      pure (.fld g.offset (← aggOf P g.type) (← cOpd x))
    | _ => none
  | .indexAddr t x i => do
    match P.underlying t with
    | some (.slice e) => pure (.idxA (← szOf P e) (← cOpd x) (← cOpd i))
    | some (.array n e) => pure (.idxArrA n (← szOf P e) (← cOpd x) (← cOpd i))
    | _ => none
  | .index t x i => do
    match P.underlying t with
    | some (.array n e) => pure (.idx n (← szOf P e) (← aggOf P e) (← cOpd x) (← cOpd i))
    | some .string => pure (.idxS (← cOpd x) (← cOpd i))
    | _ => none
  | .slice t x lo hi mx => do
    match P.underlying t with
    | some (.slice e) => do
      let s ← szOf P e
      if s == 0 then none else
      pure (.sl s (← cOpd x) (← cOpdO lo) (← cOpdO hi) (← cOpdO mx))
    | some .string => if mx.isSome then none else do pure (.slS (← cOpd x) (← cOpdO lo) (← cOpdO hi))
    | _ => none
  | .extract x i => do pure (.ext (← cOpd x) i)
  | .makeFunc fn first captured => do pure (.mkf fn (← cOpds first.toList) (← cOpds captured.toList))
  | .makeSlice t l c => do
    match P.underlying t with
    | some (.slice e) => do
      let s ← szOf P e
      let z ← zeroOf P e
      if z.length ≠ s || s == 0 then none else
      pure (.mksl s (← byOf P e) z (← cOpd l) (← cOpd c))
    | _ => none
  | .call c =>
    match c.callee with
    | .value f => do pure (.call (← cOpd f) (← cOpds c.args.toList))
    | .builtin .len => do
      match c.args.toList, c.argTypes.toList with
      | [x], [t] =>
        match P.underlying t with
        | some (.array n _) => pure (.lenc n)
        | some .string => pure (.lenS (← cOpd x))
        | some (.slice _) => pure (.len (← cOpd x))
        | _ => none
      | _, _ => none
    | .builtin .append => do
      match c.args.toList, c.argTypes.toList with
      | [s, x], [t, u] =>
        if t ≠ u then none else
        match P.underlying t with
        | some (.slice e) => do
          let z ← zeroOf P e
          let sz ← szOf P e
          if z.length ≠ sz || sz == 0 then none else
          pure (.app sz (← byOf P e) (← cOpd s) (← cOpd x))
        | _ => none
      | _, _ => none
    | .builtin .copy => do
      match c.args.toList, c.argTypes.toList with
      | [d, s], [t, u] =>
        if t ≠ u then none else
        match P.underlying t with
        | some (.slice e) => do
          let sz ← szOf P e
          if sz == 0 then none else
          pure (.copy sz (← cOpd d) (← cOpd s))
        | _ => none
      | _, _ => none
    | .builtin .min => do
      match c.args.toList with
      | [x, y] => pure (.mnmx false (← cOpd x) (← cOpd y))
      | _ => none
    | .builtin .max => do
      match c.args.toList with
      | [x, y] => pure (.mnmx true (← cOpd x) (← cOpd y))
      | _ => none
    | _ => none
  | _ => none
end
section
variable (P : Program)
def cX : Op → Option AOp
  | .convert src dst x =>
    match P.underlying src, P.underlying dst with
    | some .string, some (.slice e) => match P.underlying e, cOpd x with
      | some (.int .i32), some y => some (.xo .s2r [y])
      | _, _ => none
    | some (.slice e), some .string => match P.underlying e, cOpd x with
      | some (.int .i32), some y => some (.xo .r2s [y])
      | some (.int .u8), some y => some (.xo .b2s [y])
      | _, _ => none
    | _, _ => none
  | _ => none
def skOf (t : TypeId) : Option SK :=
  match P.underlying t with
  | some .bool => some .bool
  | some (.int k) => some (.int k)
  | some .string => some .str
  | _ => none
def mkOf (t : TypeId) : Option MK :=
  match skOf P t with
  | some k => some (.one k)
  | none => match P.underlying t with
    | some (.struct fs) => if fs.toList.all (fun f => (skOf P f.type).isSome) && (szOf P t).isSome then (flatK P 2 t).map .st else none
    | some (.array n e) => if szOf P e = some 1 then (skOf P e).map fun k => .st (List.replicate n k) else none
    | _ => none
def mapOf (t : TypeId) : Option (MK × TypeId) :=
  match P.underlying t with
  | some (.map k e) => (mkOf P k).map fun s => (s, e)
  | _ => none
def zeroAV (t : TypeId) : Option AV :=
  match P.info? t with
  | some i => match i.zero with
    | some v => cVal v
    | none => none
  | none => none
/-- operations on maps -/
def cM : Op → Option AOp
  | .makeMap _ none => some (.xo .mkmap [])
  | .makeMap t (some r) => match P.underlying t, cOpd r with
    | some (.map _ _), some x => some (.xo .mkmap [x])
    | _, _ => none
  | .mapUpdate t m k x | .insert t m k x => match mapOf P t, cOpd m, cOpd k, cOpd x with
    | some q, some m, some k, some x => some (.xo (.mapset q.1) [m, k, x])
    | _, _, _, _ => none
  | .lookup t m k ok => match mapOf P t, cOpd m, cOpd k with
    | some q, some m, some k => match zeroAV P q.2 with
      | some z => some (.xo (.mapget q.1 ok z) [m, k])
      | none => none
    | _, _, _ => none
  | .mapEntry t m k => match mapOf P t, cOpd m, cOpd k with
    | some q, some m, some k => match zeroAV P q.2 with
      | some z => some (.xo (.mapent q.1 z) [m, k])
      | none => none
    | _, _, _ => none
  | .entryStore _ m i x => match cOpd m, cOpd i, cOpd x with
    | some m, some i, some x => some (.xo .entst [m, i, x])
    | _, _, _ => none
  | .call c =>
    match c.callee with
    | .builtin .len => match c.args.toList, c.argTypes.toList with
      | [x], [t] => match mapOf P t, cOpd x with
        | some _, some y => some (.xo .maplen [y])
        | _, _ => none
      | _, _ => none
    | .builtin .cap => match c.args.toList, c.argTypes.toList with
      | [x], [t] => match P.underlying t, cOpd x with
        | some (.slice _), some y => some (.xo .capz [y])
        | _, _ => none
      | _, _ => none
    | .builtin .append => match c.args.toList, c.argTypes.toList with
      | [s, x], [t, u] => match P.underlying t, P.underlying u, cOpd s, cOpd x with
        | some (.slice e), some (.int _), some s, some x => match zeroOf P e, szOf P e, byOf P e with
          | some zero, some z, some by' => if zero.length = z ∧ z ≠ 0 then some (.xo (.appz z by' zero) [s, x]) else none
          | _, _, _ => none
        | _, _, _, _ => none
      | _, _ => none
    | _ => none
  | .slice t x none none none =>
    match P.underlying t, cOpd x with
    | some (.array n e), some y => match szOf P e with
      | some z => some (.xo (.slpa n z) [y])
      | none => none
    | _, _ => none
  | _ => none
/-- what is not covered is stuck -/
def cOpX (op : Op) : AOp :=
  match cOp P op with
  | some ao => ao
  | none => match cX P op with
    | some ao => ao
    | none => match cM P op with
      | some ao => ao
      | none => .stuck
end
/-! ## What the operations do -/
def AH.cellsAt (h : AH) (id : Nat) : Option (List AV) :=
  match h.H.get id with
  | some (.cells cs) => some cs
  | _ => none
def AH.globAt (h : AH) (g : Nat) : Option (List AV) :=
  match h.H.get g with
  | some (.glob g' cs) => if g' = g then some cs else none
  | _ => none
def AH.mapAt (h : AH) (id : Nat) : Option (List (AV × AV)) :=
  match h.H.get id with
  | some (.map kvs) => some kvs
  | _ => none
def AH.add (h : AH) (o : AObj) : AH := ⟨h.H.put h.nx o, h.nx + 1⟩
def AH.set (h : AH) (id : Nat) (o : AObj) : AH := ⟨h.H.put id o, h.nx⟩
def AH.kill (h : AH) (id : Nat) : AH := ⟨h.H.del id, h.nx⟩

/-- n cells from 'off' on, all there -/
def cut (cs : List AV) (off n : Nat) : Option (List AV) := if off + n ≤ cs.length then some ((cs.drop off).take n) else none

def ones (cs : List AV) : Bool := cs.all AV.one

def splice (cs : List AV) (off : Nat) (new : List AV) : Option (List AV) :=
  if off + new.length ≤ cs.length then some (cs.take off ++ new ++ cs.drop (off + new.length)) else none

/-- a value that can lie in memory: of one cell, or an aggregate -/
def stow : AV → Bool
  | .agg _ => true
  | x => x.one

def afill : List AV → List (Nat × Nat × AV) → Option (List AV)
  | cs, [] => some cs
  | cs, (off, size, x) :: r =>
    if stow x then
      let new := x.cells
      if new.length = size then match splice cs off new with | some cs' => afill cs' r | none => none else none
    else none

def evP (T : Tm) (ps : List (Nat × Nat × Opd)) : List (Nat × Nat × AV) := ps.map fun q => (q.1, q.2.1, q.2.2.ev T)
def afillT (T : Tm) : List AV → List (Nat × Nat × Opd) → Option (List AV)
  | cs, [] => some cs
  | cs, (off, size, x) :: r =>
    if stow (x.ev T) then
      let new := (x.ev T).cells
      if new.length = size then match splice cs off new with | some cs' => afillT T cs' r | none => none else none
    else none
theorem afillT_eq (T : Tm) : ∀ (ps : List (Nat × Nat × Opd)) (cs : List AV), afillT T cs ps = afill cs (evP T ps)
  | [], cs => rfl
  | (off, size, x) :: r, cs => by
    simp only [afillT, evP, List.map_cons, afill]
    split
    · split
      · split
        · exact afillT_eq T r _
        · rfl
      · rfl
    · rfl

def aload1 (h : AH) : AV → Option AV
  | .ptr id off => match h.cellsAt id with
    | some cs => cs[off]?
    | none => none
  | .pptr cs => cs[0]?
  | .gptr g off => match h.globAt g with
    | some cs => cs[off]?
    | none => none
  | _ => none
def aloadn (h : AH) (n : Nat) : AV → Option (List AV)
  | .ptr id off => match h.cellsAt id with
    | some cs => cut cs off n
    | none => none
  | .pptr cs => cut cs 0 n
  | .gptr g off => match h.globAt g with
    | some cs => cut cs off n
    | none => none
  | _ => none

def sarith (op : BinOp) (a b : List UInt8) : Option AV :=
  match op with
  | .add => if a.length + b.length ≤ 9223372036854775807 then some (.str (a ++ b)) else none
  | .eql => some (.bool (a == b))
  | .neq => some (.bool (!(a == b)))
  | .lss => some (.bool (Op.bytesLess a b))
  | .leq => some (.bool (Op.bytesLess a b || a == b))
  | .gtr => some (.bool (!(Op.bytesLess a b || a == b)))
  | .geq => some (.bool (!(Op.bytesLess a b)))
  | _ => none
def ishift (op : BinOp) (k : IntKind) (a b : Int) : Option AV :=
  match op with
  | .shl => if b < 0 then none else some (.int k (k.wrap (a * 2 ^ (min b.toNat k.bits))))
  | .shr => if b < 0 then none else some (.int k (a.fdiv (2 ^ (min b.toNat k.bits))))
  | _ => none
def isShift : BinOp → Bool
  | .shl | .shr => true
  | _ => false
def hiC (m : Nat) : Int := if m = 0 then 4294967295 else (m : Int) - 1
/-- what is known of a number -/
def rngI : AV → Option (IntKind × Int × Int)
  | .int k n => some (k, n, n)
  | .sint k _ _ _ lo hi => some (k, lo, hi)
  | .scol k m _ _ _ _ _ _ => some (k, 0, hiC m)
  | _ => none
def cmpR (op : BinOp) (l1 h1 l2 h2 : Int) : Option Bool :=
  match op with
  | .lss => if h1 < l2 then some true else if h2 ≤ l1 then some false else none
  | .leq => if h1 ≤ l2 then some true else if h2 < l1 then some false else none
  | .gtr => if h2 < l1 then some true else if h1 ≤ l2 then some false else none
  | .geq => if h2 ≤ l1 then some true else if h1 < l2 then some false else none
  | .eql => if h1 < l2 ∨ h2 < l1 then some false else if l1 = h1 ∧ l2 = h2 ∧ l1 = l2 then some true else none
  | .neq => if h1 < l2 ∨ h2 < l1 then some true else if l1 = h1 ∧ l2 = h2 ∧ l1 = l2 then some false else none
  | _ => none
def fitsK (k : IntKind) (lo hi : Int) : Bool :=
  match k with
  | .i64 => decide (-9223372036854775808 ≤ lo) && decide (hi ≤ 9223372036854775807)
  | .i32 => decide (-2147483648 ≤ lo) && decide (hi ≤ 2147483647)
  | .u8 => decide (0 ≤ lo) && decide (hi ≤ 255)
  | .u32 => decide (0 ≤ lo) && decide (hi ≤ 4294967295)
  | _ => false
def shiftI (k : IntKind) (m i : Nat) (c lo hi : Int) : Option AV := if fitsK k lo hi then some (.sint k m i c lo hi) else none
/-- arithmetic on numbers of which bounds are known -/
def sarI (op : BinOp) (x y : AV) : Option AV :=
  match rngI x, rngI y with
  | some (k, l1, h1), some (k', l2, h2) =>
    if k = k' then
      match cmpR op l1 h1 l2 h2 with
      | some b => some (.bool b)
      | none => match op, x, y with
        | .add, .sint k m i c lo hi, .int _ b => shiftI k m i (c + b) (lo + b) (hi + b)
        | .add, .int _ b, .sint k m i c lo hi => shiftI k m i (c + b) (lo + b) (hi + b)
        | .sub, .sint k m i c lo hi, .int _ b => shiftI k m i (c - b) (lo - b) (hi - b)
        | .rem, .sint k m i c lo _, .int _ b => if m = 0 ∧ c = 0 ∧ 0 < b ∧ 0 ≤ lo then some (.sint k b.toNat i 0 0 (b - 1)) else none
        | .and, .sint k m i c lo hi, .int _ b => if m = 0 ∧ c = 0 ∧ 0 ≤ lo ∧ hi ≤ 4294967295 ∧ b = 16777215 ∧ k = .u32 then some (.sint k 16777216 i 0 0 16777215) else none
        | .and, .scol k m r i j l lo hi, .int _ b => if m = 0 ∧ b = 16777215 ∧ k = .u32 then some (.scol k 16777216 r i j l lo hi) else none
        | _, _, _ => none
    else none
  | _, _ => none
def olook (op : BinOp) (b : Int) (k : IntKind) : List (BinOp × Int × Int) → Option AV
  | [] => none
  | (o, d, r) :: t => if o = op ∧ d = b then some (.int k r) else olook op b k t
theorem olook_some {op : BinOp} {b : Int} {k : IntKind} {v : AV} : ∀ {rs : List (BinOp × Int × Int)}, olook op b k rs = some v → ∃ r, (op, b, r) ∈ rs ∧ v = .int k r
  | [], h => by simp [olook] at h
  | (o, d, r) :: t, h => by
    simp only [olook] at h
    split at h
    · rename_i hh
      obtain ⟨rfl, rfl⟩ := hh
      cases h
      exact ⟨r, by simp, rfl⟩
    · obtain ⟨r', h1, h2⟩ := olook_some h
      exact ⟨r', by simp [h1], h2⟩
def aarith (op : BinOp) : AV → AV → Option AV
  | .int k a, .int k' b => if isShift op then ishift op k a b else if k = k' then iarith op k a b else none
  | .str a, .str b => sarith op a b
  | .oint k rs, .int k' b => if isShift op then none else if k = k' then olook op b k rs else none
  | x, y => sarI op x y

def aeqn : NK → AV → AV → Option Bool
  | .ptr, .nilptr, .nilptr | .sl, .nilsl, .nilsl | .mp, .nilmap, .nilmap | .fn, .nilfunc, .nilfunc => some true
  | .ptr, .nilptr, .ptr _ _ | .ptr, .nilptr, .pptr _ | .ptr, .ptr _ _, .nilptr | .ptr, .pptr _, .nilptr => some false
  | .sl, .rsl _ _ _ _, .nilsl | .sl, .nilsl, .rsl _ _ _ _ => some false
  | .sl, .psl (_ :: _), .nilsl => some false
  | .mp, .mapv _, .nilmap | .mp, .nilmap, .mapv _ => some false
  | .fn, .func _ _ _, .nilfunc | .fn, .nilfunc, .func _ _ _ => some false
  | _, _, _ => none

def eqCell : SK → AV → AV → Option Bool
  | .bool, .bool a, .bool b => some (a == b)
  | .int k, .int k1 a, .int k2 b => if k1 = k ∧ k2 = k then some (a == b) else none
  | .int k, .sint k1 m i c lo hi, y => if k1 = k then (match sarI .eql (.sint k1 m i c lo hi) y with
    | some (.bool b) => some b
    | _ => none) else none
  | .str, .str a, .str b => some (a == b)
  | _, _, _ => none
def eqCells : List SK → List AV → List AV → Option Bool
  | [], [], [] => some true
  | k :: ks, x :: xs, y :: ys => match eqCell k x y, eqCells ks xs ys with
    | some a, some b => some (a && b)
    | _, _ => none
  | _, _, _ => none

def aun (op : UnOp) : AV → Option AV
  | .int k n => match op with
    | .neg => some (.int k (k.wrap (0 - n)))
    | .xor => some (.int k (k.wrap (BitVec.ofInt k.bits (if k.signed then -1 else k.max) ^^^ BitVec.ofInt k.bits n).toNat))
    | _ => none
  | .bool b => match op with
    | .not => some (.bool !b)
    | _ => none
  | _ => none

def apart (n : Option Nat) (cs : List AV) (off : Nat) : Option AV :=
  match n with
  | some n => (cut cs off n).map .agg
  | none => cs[off]?

def aidx : AV → Option Int
  | .int _ i => some i
  | _ => none
/-- an index below n -/
def aix (n : Nat) (v : AV) : Option Nat :=
  match aidx v with
  | some i => if 0 ≤ i ∧ i < n then some i.toNat else none
  | none => none
/-- a bound at most n -/
def abd (n : Nat) : Option AV → Nat → Option Nat
  | none, d => some d
  | some v, _ => match aidx v with
    | some i => if 0 ≤ i ∧ i ≤ n then some i.toNat else none
    | none => none

def alen : AV → Option Nat
  | .nilsl | .esl => some 0
  | .psl xs => some xs.length
  | .rsl _ _ len _ => some len
  | _ => none

/-- the cells of a slice's elements, z cells an element -/
def acells (h : AH) (z : Nat) : AV → Option (List AV)
  | .nilsl | .esl => some []
  | .psl xs => if xs.all (fun x => x.length == z) then some xs.flatten else none
  | .rsl id off len z' => if z' = z then (match h.cellsAt id with | some cs => cut cs off (len * z) | none => none) else none
  | _ => none

def asl (z lo hi mx : Nat) (three : Bool) : AV → Option AV
  | .nilsl => if hi = 0 then some .nilsl else none
  | .esl => if hi = 0 then some .esl else none
  | .psl xs => if xs.all (fun x => x.length == z) then some (if three && mx == lo then .esl else .psl ((xs.drop lo).take (hi - lo))) else none
  | .rsl id off _ z' => if z' = z then some (if three && mx == lo then .esl else .rsl id (off + lo * z) (hi - lo) z) else none
  | _ => none

def roomy (n bytes : Nat) : Bool := n * bytes ≤ 140737488355328 && n ≤ 9223372036854775807

def aapp (h : AH) (z bytes : Nat) (s x : AV) : Option (AV × AH) :=
  match acells h z x, alen x with
  | some new, some m =>
    if !ones new then none else
    match s with
    | .nilsl =>
      if m = 0 then some (.nilsl, h) else
      if roomy m bytes then some (.rsl h.nx 0 m z, h.add (.cells new)) else none
    | .esl =>
      if m = 0 then some (.esl, h) else
      if roomy m bytes then some (.rsl h.nx 0 m z, h.add (.cells new)) else none
    | .psl xs => if m = 0 then some (.psl xs, h) else none
    | .rsl id off len z' =>
      if z' = z && roomy (len + m) bytes then
        match h.cellsAt id with
        | some cs => match cut cs off (len * z) with
          | some old => some (.rsl h.nx 0 (len + m) z, (h.kill id).add (.cells (old ++ new)))
          | none => none
        | none => none
      else none
    | _ => none
  | _, _ => none

def acopy (h : AH) (z : Nat) (d s : AV) : Option (AV × AH) :=
  match acells h z s, alen s, alen d with
  | some src, some m, some n =>
    let k := min m n
    if k = 0 then some (.int .i64 0, h) else
    if !ones (src.take (k * z)) then none else
    match d with
    | .rsl id off _ z' =>
      if z' = z then
        match h.cellsAt id with
        | some cs => match splice cs off (src.take (k * z)) with
          | some cs' => some (.int .i64 k, h.set id (.cells cs'))
          | none => none
        | none => none
      else none
    | _ => none
  | _, _, _ => none

def afldA (off : Nat) : AV → Option AV
  | .ptr id o => some (.ptr id (o + off))
  | .pptr cs => if off ≤ cs.length then some (.pptr (cs.drop off)) else none
  | .gptr g o => some (.gptr g (o + off))
  | _ => none
def aidxA (z : Nat) (x i : AV) : Option AV :=
  match x with
  | .psl xs => match aix xs.length i with
    | some j => match xs[j]? with
      | some c => if c.length = z then some (.pptr c) else none
      | none => none
    | none => none
  | .rsl id off len z' => if z' = z then match aix len i with
    | some j => some (.ptr id (off + j * z))
    | none => none else none
  | _ => none
def aslice (z : Nat) (x : AV) (lo hi mx : Option AV) : Option AV :=
  match alen x with
  | some n => match abd n mx n with
    | some m => match abd m hi n with
      | some hb => match abd hb lo 0 with
        | some l => if mx.isSome && hi.isNone then none else asl z l hb m mx.isSome x
        | none => none
      | none => none
    | none => none
  | none => none
def asliceS (s : List UInt8) (lo hi : Option AV) : Option (List UInt8) :=
  match abd s.length hi s.length with
  | some hb => match abd hb lo 0 with
    | some l => some ((s.drop l).take (hb - l))
    | none => none
  | none => none

abbrev Handler := Nat → List AV → AH → Option (AV × AH)

def kMov (h : AH) (x : AV) : Option (AV × AH) :=
  some (x, h)
def kPick (h : AH) (c : AV) (a : AV) (b : AV) : Option (AV × AH) :=
  match c with
    | .bool t => some (if t then a else b, h)
    | _ => none
def kNew (h : AH) (zero : List AV) : Option (AV × AH) :=
  some (.ptr h.nx 0, h.add (.cells zero))
def kBox (h : AH) (x : AV) : Option (AV × AH) :=
  if stow x then some (.ptr h.nx 0, h.add (.cells x.cells)) else none
def kBuild (h : AH) (zero : List AV) (parts : List (Nat × Nat × AV)) : Option (AV × AH) :=
  match afill zero parts with
    | some cs => some (.agg cs, h)
    | none => none
def kBuildSl (h : AH) (z : Nat) (len : Nat) (zero : List AV) (parts : List (Nat × Nat × AV)) : Option (AV × AH) :=
  match afill zero parts with
    | some cs => some (.rsl h.nx 0 len z, h.add (.cells cs))
    | none => none
def kLd1 (h : AH) (a : AV) : Option (AV × AH) :=
  match aload1 h (a) with
    | some v => some (v, h)
    | none => none
def kLdn (h : AH) (n : Nat) (a : AV) : Option (AV × AH) :=
  match aloadn h n (a) with
    | some cs => some (.agg cs, h)
    | none => none
def kSt (h : AH) (n : Nat) (a : AV) (x : AV) : Option (AV × AH) :=
 
    if stow x then
      let new := x.cells
      if new.length = n && ones new then
        match a with
        | .ptr id off => match h.cellsAt id with
          | some cs => match splice cs off new with
            | some cs' => some (.undef, h.set id (.cells cs'))
            | none => none
          | none => none
        | _ => none
      else none
    else none
def kNilchk (h : AH) (x : AV) : Option (AV × AH) :=
  match x with
    | .ptr id off => some (.ptr id off, h)
    | .pptr cs => some (.pptr cs, h)
    | .gptr g o => some (.gptr g o, h)
    | .func (.func f) a b => some (.func (.func f) a b, h)
    | _ => none
def kArith (h : AH) (op : BinOp) (x : AV) (y : AV) : Option (AV × AH) :=
  match aarith op x (y) with
    | some v => some (v, h)
    | none => none
def kEqs (h : AH) (neg : Bool) (x : AV) (y : AV) : Option (AV × AH) :=
  match x, y with
    | .bool a, .bool b => some (.bool (if neg then !(a == b) else a == b), h)
    | _, _ => none
def kEqn (h : AH) (k : NK) (neg : Bool) (x : AV) (y : AV) : Option (AV × AH) :=
  match aeqn k x (y) with
    | some b => some (.bool (if neg then !b else b), h)
    | none => none
def kEqf (h : AH) (neg : Bool) (ks : List SK) (x : AV) (y : AV) : Option (AV × AH) :=
  match x, y with
    | .agg xs, .agg ys => match eqCells ks xs ys with
      | some b => some (.bool (if neg then !b else b), h)
      | none => none
    | _, _ => none
def kUn (h : AH) (op : UnOp) (x : AV) : Option (AV × AH) :=
  match aun op x with
    | some v => some (v, h)
    | none => none
def kConvI (h : AH) (k : IntKind) (x : AV) : Option (AV × AH) :=
  match x with
    | .int _ n => some (.int k (k.wrap n), h)
    | .sint _ m i c lo hi => if fitsK k lo hi then some (.sint k m i c lo hi, h) else none
    | .scol _ m r i j l lo hi => if fitsK k 0 (hiC m) then some (.scol k m r i j l lo hi, h) else none
    | _ => none
def kFld (h : AH) (off : Nat) (n : Option Nat) (x : AV) : Option (AV × AH) :=
  match x with
    | .agg cs => match apart n cs off with
      | some v => some (v, h)
      | none => none
    | _ => none
def kFldA (h : AH) (off : Nat) (x : AV) : Option (AV × AH) :=
  match afldA off x with
    | some v => some (v, h)
    | none => none
def kIdxA (h : AH) (z : Nat) (x : AV) (i : AV) : Option (AV × AH) :=
  match aidxA z x (i) with
    | some v => some (v, h)
    | none => none
def kIdxArrA (h : AH) (len : Nat) (z : Nat) (x : AV) (i : AV) : Option (AV × AH) :=
  match aix len (i) with
    | some j => match afldA (j * z) x with
      | some v => some (v, h)
      | none => none
    | none => none
def kIdx (h : AH) (len : Nat) (z : Nat) (n : Option Nat) (x : AV) (i : AV) : Option (AV × AH) :=
  match aix len (i), x with
    | some j, .agg cs => match apart n cs (j * z) with
      | some v => some (v, h)
      | none => none
    | _, _ => none
def kIdxS (h : AH) (x : AV) (i : AV) : Option (AV × AH) :=
  match x with
    | .str s => match aix s.length (i) with
      | some j => match s[j]? with
        | some c => some (.int .u8 c.toNat, h)
        | none => none
      | none => none
    | _ => none
def kSl (h : AH) (z : Nat) (x : AV) (lo : Option AV) (hi : Option AV) (mx : Option AV) : Option (AV × AH) :=
  match aslice z x (lo) (hi) (mx) with
    | some v => some (v, h)
    | none => none
def kSlS (h : AH) (x : AV) (lo : Option AV) (hi : Option AV) : Option (AV × AH) :=
  match x with
    | .str s => match asliceS s (lo) (hi) with
      | some r => some (.str r, h)
      | none => none
    | _ => none
def kLen (h : AH) (x : AV) : Option (AV × AH) :=
  match alen x with
    | some n => some (.int .i64 n, h)
    | none => none
def kLenS (h : AH) (x : AV) : Option (AV × AH) :=
  match x with
    | .str s => some (.int .i64 s.length, h)
    | _ => none
def kConvS (h : AH) (x : AV) : Option (AV × AH) :=
  match x with
    | .str s => some (.str s, h)
    | _ => none
def kLenc (h : AH) (n : Nat) : Option (AV × AH) :=
  some (.int .i64 n, h)
def kApp (h : AH) (z : Nat) (bytes : Nat) (s : AV) (x : AV) : Option (AV × AH) :=
  aapp h z bytes (s) x
def kCopy (h : AH) (z : Nat) (d : AV) (s : AV) : Option (AV × AH) :=
  acopy h z (d) (s)
def smm (mx : Bool) (x y : AV) : Option AV :=
  match rngI x, rngI y with
  | some (k, l1, h1), some (k', l2, h2) =>
    if k = k' then
      (if mx then (if h2 ≤ l1 then some x else if h1 ≤ l2 then some y else none) else (if h1 ≤ l2 then some x else if h2 ≤ l1 then some y else none))
    else none
  | _, _ => none
def kMnmx (h : AH) (mx : Bool) (x : AV) (y : AV) : Option (AV × AH) :=
  match x, y with
    | .int k a, .int _ b => some (.int k (if mx then (if a < b then b else a) else (if b < a then b else a)), h)
    | x, y => match smm mx x y with
      | some v => some (v, h)
      | none => none
def kExt (h : AH) (x : AV) (i : Nat) : Option (AV × AH) :=
  match x with
    | .tup vs => match vs[i]? with
      | some v => some (v, h)
      | none => none
    | _ => none
def kMkf (h : AH) (fn : Fn) (first : List AV) (captured : List AV) : Option (AV × AH) :=
  some (.func fn (first) (captured), h)
def kMksl (h : AH) (z : Nat) (bytes : Nat) (zero : List AV) (l : AV) (c : AV) : Option (AV × AH) :=
  match l, c with
    | .int .i64 n, .int .i64 m =>
      if 0 ≤ n ∧ n ≤ m ∧ m ≤ 9223372036854775807 then
        if m.toNat * bytes ≤ 140737488355328 then some (.rsl h.nx 0 n.toNat z, h.add (.cells (repl m.toNat zero))) else none
      else none
    | _, _ => none
def kCall (cl : Handler) (h : AH) (f : AV) (args : List AV) : Option (AV × AH) :=
  match f with
    | .func (.func g) first captured => cl g (first ++ args ++ captured) h
    | _ => none

def asc (s : List UInt8) : Bool := s.all (fun b => Nat.blt b.toNat 128)
def ascI : List AV → Option (List UInt8)
  | [] => some []
  | .int .i32 n :: r => if 0 ≤ n ∧ n < 128 then (match ascI r with | some l => some (UInt8.ofNat n.toNat :: l) | none => none) else none
  | _ => none
def bytesI : List AV → Option (List UInt8)
  | [] => some []
  | .int .u8 n :: r => (match bytesI r with | some l => some (UInt8.ofNat n.toNat :: l) | none => none)
  | _ => none
def runesOf : List UInt8 → List AV
  | [] => []
  | b :: r => .int .i32 b.toNat :: runesOf r
def keyS : SK → AV → Bool
  | .bool, .bool _ => true
  | .int k, .int k' _ => decide (k' = k)
  | .str, .str _ => true
  | _, _ => false
def keysS : List SK → List AV → Bool
  | [], [] => true
  | k :: ks, a :: as => keyS k a && keysS ks as
  | _, _ => false
def keyOf : MK → AV → Bool
  | .one k, a => keyS k a
  | .st ks, .agg cs => keysS ks cs
  | .st _, _ => false
def keqS : AV → AV → Bool
  | .bool a, .bool b => a == b
  | .int _ a, .int _ b => a == b
  | .str a, .str b => a == b
  | _, _ => false
def keqL : List AV → List AV → Bool
  | [], [] => true
  | a :: as, b :: bs => keqS a b && keqL as bs
  | _, _ => false
def keq : AV → AV → Bool
  | .agg as, .agg bs => keqL as bs
  | a, b => keqS a b
/-- where a key stands among the entries, and what is there -/
def kfind (k : MK) (key : AV) : List (AV × AV) → Nat → Option (Option (Nat × AV))
  | [], _ => some none
  | e :: es, i => if keyOf k e.1 then (if keq key e.1 then some (some (i, e.2)) else kfind k key es (i + 1)) else none
def amap (h : AH) : AV → Option (List (AV × AV))
  | .nilmap => some []
  | .mapv id => h.mapAt id
  | _ => none
def kX (h : AH) : XK → List AV → Option (AV × AH)
  | .s2r, [.str s] => if asc s && Nat.ble s.length 1000000 then some (.rsl h.nx 0 s.length 1, h.add (.cells (runesOf s))) else none
  | .r2s, [x] => match acells h 1 x, alen x with
    | some cs, some _ => match ascI cs with
      | some s => some (.str s, h)
      | none => none
    | _, _ => none
  | .b2s, [x] => match acells h 1 x, alen x with
    | some cs, some _ => match bytesI cs with
      | some s => some (.str s, h)
      | none => none
    | _, _ => none
  | .mkmap, [] => some (.mapv h.nx, h.add (.map []))
  | .mkmap, [.int _ _] => some (.mapv h.nx, h.add (.map []))
  | .mapset k, [.mapv id, key, x] => if keyOf k key then (match h.mapAt id with
    | some kvs => match kfind k key kvs 0 with
      | some (some r) => some (.undef, h.set id (.map (kvs.set r.1 (key, x))))
      | some none => some (.undef, h.set id (.map (kvs ++ [(key, x)])))
      | none => none
    | none => none) else none
  | .mapget k ok zero, [m, key] => if keyOf k key then (match amap h m with
    | some kvs => match kfind k key kvs 0 with
      | some (some r) => some (if ok then .tup [r.2, .bool true] else r.2, h)
      | some none => some (if ok then .tup [zero, .bool false] else zero, h)
      | none => none
    | none => none) else none
  | .mapent k zero, [.mapv id, key] => if keyOf k key then (match h.mapAt id with
    | some kvs => match kfind k key kvs 0 with
      | some (some r) => some (.tup [r.2, .int .i64 r.1], h)
      | some none => some (.tup [zero, .int .i64 kvs.length], h.set id (.map (kvs ++ [(key, zero)])))
      | none => none
    | none => none) else none
  | .entst, [.mapv id, .int _ n, x] => match h.mapAt id with
    | some kvs => if 0 ≤ n then (match kvs[n.toNat]? with
      | some e => some (.undef, h.set id (.map (kvs.set n.toNat (e.1, x))))
      | none => none) else none
    | none => none
  | .maplen, [m] => match amap h m with
    | some kvs => some (.int .i64 kvs.length, h)
    | none => none
  | .capz, [.nilsl] => some (.int .i64 0, h)
  | .appz z bytes zero, [.nilsl, .int .i64 n] => if 0 < n then (if roomy n.toNat bytes then some (.rsl h.nx 0 n.toNat z, h.add (.cells (repl n.toNat zero))) else none) else none
  | .slpa n z, [.ptr id off] => match h.cellsAt id with
    | some cs => if Nat.ble (off + n * z) cs.length && Nat.ble n 4611686018427387904 then some (.rsl id off n z, h) else none
    | none => none
  | _, _ => none

def aop (cl : Handler) (T : Tm) (h : AH) : AOp → Option (AV × AH)
  | .mov x => kMov h (x.ev T)
  | .pick c a b => kPick h (c.ev T) (a.ev T) (b.ev T)
  | .new zero => kNew h zero
  | .box x => kBox h (x.ev T)
  | .build zero parts => kBuild h zero (evP T parts)
  | .buildSl z len zero parts => kBuildSl h z len zero (evP T parts)
  | .ld1 a => kLd1 h (a.ev T)
  | .ldn n a => kLdn h n (a.ev T)
  | .st n a x => kSt h n (a.ev T) (x.ev T)
  | .nilchk x => kNilchk h (x.ev T)
  | .arith op x y => kArith h op (x.ev T) (y.ev T)
  | .eqs neg x y => kEqs h neg (x.ev T) (y.ev T)
  | .eqn k neg x y => kEqn h k neg (x.ev T) (y.ev T)
  | .eqf neg ks x y => kEqf h neg ks (x.ev T) (y.ev T)
  | .un op x => kUn h op (x.ev T)
  | .convI k x => kConvI h k (x.ev T)
  | .fld off n x => kFld h off n (x.ev T)
  | .fldA off x => kFldA h off (x.ev T)
  | .idxA z x i => kIdxA h z (x.ev T) (i.ev T)
  | .idxArrA len z x i => kIdxArrA h len z (x.ev T) (i.ev T)
  | .idx len z n x i => kIdx h len z n (x.ev T) (i.ev T)
  | .idxS x i => kIdxS h (x.ev T) (i.ev T)
  | .sl z x lo hi mx => kSl h z (x.ev T) (lo.map (·.ev T)) (hi.map (·.ev T)) (mx.map (·.ev T))
  | .slS x lo hi => kSlS h (x.ev T) (lo.map (·.ev T)) (hi.map (·.ev T))
  | .len x => kLen h (x.ev T)
  | .lenS x => kLenS h (x.ev T)
  | .convS x => kConvS h (x.ev T)
  | .lenc n => kLenc h n
  | .app z bytes s x => kApp h z bytes (s.ev T) (x.ev T)
  | .copy z d s => kCopy h z (d.ev T) (s.ev T)
  | .mnmx mx x y => kMnmx h mx (x.ev T) (y.ev T)
  | .ext x i => kExt h (x.ev T) i
  | .mkf fn first captured => kMkf h fn (first.map (·.ev T)) (captured.map (·.ev T))
  | .mksl z bytes zero l c => kMksl h z bytes zero (l.ev T) (c.ev T)
  | .call f args => kCall cl h (f.ev T) (args.map (·.ev T))
  | .xo k args => kX h k (args.map (·.ev T))
  | .stuck => none

end Go.Eng
end
