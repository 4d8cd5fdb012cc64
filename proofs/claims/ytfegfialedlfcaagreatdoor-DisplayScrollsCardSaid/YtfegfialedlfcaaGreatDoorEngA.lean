/- The abstract interpreter's ground: maps, abstract values, how they stand to the model's values, the heap of owned objects. Over any program. -/
import Derived.Orders
import Derived.LoopN
import Derived.Laws.AppendOwn
set_option linter.unusedSimpArgs false
set_option linter.unusedVariables false
set_option linter.unnecessarySimpa false
namespace Go.Eng
/-! ## Maps from numbers -/
inductive PM (α : Type) where
  | leaf
  | node (l : PM α) (v : Option α) (r : PM α)

namespace PM
variable {α : Type}
def get : PM α → Nat → Option α
  | leaf, _ => none
  | node l v r, k => cond (Nat.beq k 0) v (cond (Nat.beq (Nat.mod k 2) 1) (l.get (Nat.div k 2)) (r.get (Nat.sub (Nat.div k 2) 1)))
def putF : Nat → PM α → Nat → Option α → PM α
  | 0, t, _, _ => t
  | f + 1, leaf, k, x => cond (Nat.beq k 0) (node leaf x leaf) (cond (Nat.beq (Nat.mod k 2) 1) (node (putF f leaf (Nat.div k 2) x) none leaf) (node leaf none (putF f leaf (Nat.sub (Nat.div k 2) 1) x)))
  | f + 1, node l v r, k, x => cond (Nat.beq k 0) (node l x r) (cond (Nat.beq (Nat.mod k 2) 1) (node (putF f l (Nat.div k 2) x) v r) (node l v (putF f r (Nat.sub (Nat.div k 2) 1) x)))
def put (t : PM α) (k : Nat) (x : α) : PM α := putF (Nat.succ k) t k (some x)
def del (t : PM α) (k : Nat) : PM α := putF (Nat.succ k) t k none

theorem get_putF : ∀ (f : Nat) (t : PM α) (k : Nat) (x : Option α) (j : Nat), k < f → (putF f t k x).get j = if j = k then x else t.get j := by
  intro f
  induction f with
  | zero => intro t k x j h; omega
  | succ f ih =>
    intro t k x j h
    have hb : ∀ a b : Nat, Nat.beq a b = decide (a = b) := fun a b => by
      cases hq : Nat.beq a b
      · exact (decide_eq_false (Nat.ne_of_beq_eq_false hq)).symm
      · exact (decide_eq_true (Nat.eq_of_beq_eq_true hq)).symm
    have hm : ∀ a : Nat, Nat.mod a 2 = a % 2 := fun _ => rfl
    have hd : ∀ a : Nat, Nat.div a 2 = a / 2 := fun _ => rfl
    have hs : ∀ a : Nat, Nat.sub a 1 = a - 1 := fun _ => rfl
    cases t with
    | leaf =>
      simp only [putF, get, hb, hm, hd, hs]
      by_cases hk : k = 0
      · subst hk
        by_cases hj : j = 0
        · simp [get, hb, hj]
        · simp [get, hb, hj]
      · by_cases hp : k % 2 = 1
        · simp only [hk, hp, decide_true, decide_false, cond_true, cond_false, get, hb, hm, hd, hs]
          by_cases hj : j = 0
          · have : ¬ (j = k) := by omega
            simp [hj]; omega
          · by_cases hjp : j % 2 = 1
            · simp only [hj, hjp, decide_true, decide_false, cond_true, cond_false]
              rw [ih _ _ _ _ (by omega)]
              by_cases he : j = k
              · subst he; simp
              · have : ¬ (j / 2 = k / 2) := by omega
                simp [he, this, get]
            · have : ¬ (j = k) := by intro h; subst h; omega
              simp [hj, hjp, this]
        · simp only [hk, hp, decide_false, cond_false, get, hb, hm, hd, hs]
          by_cases hj : j = 0
          · simp [hj]; omega
          · by_cases hjp : j % 2 = 1
            · have : ¬ (j = k) := by intro h; subst h; omega
              simp [hj, hjp, this]
            · simp only [hj, hjp, decide_false, cond_false]
              rw [ih _ _ _ _ (by omega)]
              by_cases he : j = k
              · subst he; simp
              · have : ¬ (j / 2 - 1 = k / 2 - 1) := by omega
                simp [he, this, get]
    | node l v r =>
      simp only [putF, get, hb, hm, hd, hs]
      by_cases hk : k = 0
      · subst hk
        by_cases hj : j = 0
        · simp [get, hb, hj]
        · simp [get, hb, hj, hm, hd, hs]
      · by_cases hp : k % 2 = 1
        · simp only [hk, hp, decide_true, decide_false, cond_true, cond_false, get, hb, hm, hd, hs]
          by_cases hj : j = 0
          · simp [hj]; omega
          · by_cases hjp : j % 2 = 1
            · simp only [hj, hjp, decide_true, decide_false, cond_true, cond_false]
              rw [ih _ _ _ _ (by omega)]
              by_cases he : j = k
              · subst he; simp
              · have : ¬ (j / 2 = k / 2) := by omega
                simp [he, this]
            · have : ¬ (j = k) := by intro h; subst h; omega
              simp [hj, hjp, this]
        · simp only [hk, hp, decide_false, cond_false, get, hb, hm, hd, hs]
          by_cases hj : j = 0
          · simp [hj]; omega
          · by_cases hjp : j % 2 = 1
            · have : ¬ (j = k) := by intro h; subst h; omega
              simp [hj, hjp, this]
            · simp only [hj, hjp, decide_false, cond_false]
              rw [ih _ _ _ _ (by omega)]
              by_cases he : j = k
              · subst he; simp
              · have : ¬ (j / 2 - 1 = k / 2 - 1) := by omega
                simp [he, this]
theorem get_put (t : PM α) (k : Nat) (x : α) (j : Nat) : (t.put k x).get j = if j = k then some x else t.get j := get_putF _ t k _ j (Nat.lt_succ_self k)
theorem get_del (t : PM α) (k : Nat) (j : Nat) : (t.del k).get j = if j = k then none else t.get j := get_putF _ t k _ j (Nat.lt_succ_self k)
theorem get_put_same (t : PM α) (k : Nat) (x : α) : (t.put k x).get k = some x := by rw [get_put, if_pos rfl]
theorem get_put_ne (t : PM α) {k j : Nat} (x : α) (h : j ≠ k) : (t.put k x).get j = t.get j := by rw [get_put, if_neg h]
theorem get_del_same (t : PM α) (k : Nat) : (t.del k).get k = none := by rw [get_del, if_pos rfl]
theorem get_del_ne (t : PM α) {k j : Nat} (h : j ≠ k) : (t.del k).get j = t.get j := by rw [get_del, if_neg h]
end PM
/-! ## The contrast of two colors, as a plain function -/
def lumN (n : Nat) : Nat := (2126 * (n / 65536) * (n / 65536) + 7152 * (n / 256 % 256) * (n / 256 % 256) + 722 * (n % 256) * (n % 256)) / 650250
def conN (a b : Nat) : Nat := ((if lumN a < lumN b then lumN b else lumN a) + 50) * 100 / ((if lumN b < lumN a then lumN b else lumN a) + 50)

/-! ## sums of ghosts -/
def linE (f : Nat → Nat) : List (Int × Nat) → Int
  | [] => 0
  | p :: r => p.1 * (f p.2 : Int) + linE f r
theorem linE_congr {f g : Nat → Nat} : ∀ {l : List (Int × Nat)}, (∀ p ∈ l, f p.2 = g p.2) → linE f l = linE g l
  | [], _ => rfl
  | p :: r, h => by simp only [linE]; rw [h p (by simp), linE_congr fun q hq => h q (by simp [hq])]
theorem linE_app (f : Nat → Nat) : ∀ (l m : List (Int × Nat)), linE f (l ++ m) = linE f l + linE f m
  | [], m => by simp [linE]
  | p :: r, m => by simp only [List.cons_append, linE, linE_app f r m]; omega
def linN : List (Int × Nat) → List (Int × Nat)
  | [] => []
  | p :: r => (-p.1, p.2) :: linN r
theorem linE_neg (f : Nat → Nat) : ∀ (l : List (Int × Nat)), linE f (linN l) = - linE f l
  | [] => rfl
  | p :: r => by simp only [linN, linE, linE_neg f r, Int.neg_mul]; omega
theorem linN_mem : ∀ {l : List (Int × Nat)} {p : Int × Nat}, p ∈ linN l → ∃ q ∈ l, q.2 = p.2
  | [], p, h => by simp [linN] at h
  | q :: r, p, h => by
    simp only [linN, List.mem_cons] at h
    rcases h with rfl | h
    · exact ⟨q, by simp, rfl⟩
    · obtain ⟨q', h1, h2⟩ := linN_mem h; exact ⟨q', by simp [h1], h2⟩
def linEq : List (Int × Nat) → List (Int × Nat) → Bool
  | [], [] => true
  | p :: l, q :: m => (p.1 == q.1) && Nat.beq p.2 q.2 && linEq l m
  | _, _ => false
theorem linEq_eq : ∀ {l m : List (Int × Nat)}, linEq l m = true → l = m
  | [], [], _ => rfl
  | [], _ :: _, h => by simp [linEq] at h
  | _ :: _, [], h => by simp [linEq] at h
  | p :: l, q :: m, h => by
    simp only [linEq, Bool.and_eq_true] at h
    obtain ⟨⟨h1, h2⟩, h3⟩ := h
    have e1 : p.1 = q.1 := by simpa using h1
    have e2 := Nat.eq_of_beq_eq_true h2
    rw [linEq_eq h3, show p = q from Prod.ext e1 e2]
theorem linEq_refl : ∀ (l : List (Int × Nat)), linEq l l = true
  | [] => rfl
  | p :: l => by simp [linEq, linEq_refl l]

/-! ## Abstract values -/
inductive AV where
  | undef
  | bool (b : Bool)
  | int (k : IntKind) (n : Int)
  | str (s : List UInt8)
  | agg (cs : List AV)
  | tup (vs : List AV)
  | ptr (id off : Nat)
  | nilptr
  | pptr (cs : List AV)
  | gptr (g off : Nat)
  | nilsl
  | esl
  | psl (xs : List (List AV))
  | rsl (id off len z : Nat)
  | mapv (id : Nat)
  | nilmap
  | func (fn : Fn) (first captured : List AV)
  | nilfunc
  | nilif
  | iface (t : TypeId) (v : AV)
  | sint (k : IntKind) (m i : Nat) (c lo hi : Int)
  | scol (k : IntKind) (m r i j l : Nat) (lo hi : Int)
  | oint (k : IntKind) (rs : List (BinOp × Int × Int))
  | lin (k : IntKind) (l : List (Int × Nat)) (c lo hi : Int)
  | gsl (g off len : Nat)
  deriving Inhabited

def iarith (op : BinOp) (k : IntKind) (a b : Int) : Option AV :=
  match op with
  | .add => some (.int k (k.wrap (a + b)))
  | .sub => some (.int k (k.wrap (a - b)))
  | .mul => some (.int k (k.wrap (a * b)))
  | .quo => if b = 0 then none else some (.int k (k.wrap (a.tdiv b)))
  | .rem => if b = 0 then none else some (.int k (a.tmod b))
  | .and => some (.int k (k.wrap (BitVec.ofInt k.bits a &&& BitVec.ofInt k.bits b).toNat))
  | .or => some (.int k (k.wrap (BitVec.ofInt k.bits a ||| BitVec.ofInt k.bits b).toNat))
  | .xor => some (.int k (k.wrap (BitVec.ofInt k.bits a ^^^ BitVec.ofInt k.bits b).toNat))
  | .andNot => some (.int k (k.wrap (BitVec.ofInt k.bits a &&& ~~~BitVec.ofInt k.bits b).toNat))
  | .eql => some (.bool (a == b))
  | .neq => some (.bool (a != b))
  | .lss => some (.bool (decide (a < b)))
  | .leq => some (.bool (decide (a ≤ b)))
  | .gtr => some (.bool (decide (b < a)))
  | .geq => some (.bool (decide (b ≤ a)))
  | _ => none
/-- The value lies in one cell. -/
def AV.one : AV → Bool
  | .undef | .agg _ | .tup _ => false
  | _ => true
def AV.cells : AV → List AV
  | .agg cs => cs
  | v => [v]

abbrev Bl := Nat → Option (Nat × Nat)

/-- An abstract value and a value of the model: over a heap, a set of blocks that may be written, and where the owned objects lie. -/
inductive VR (hp : Array Obj) (L : Nat → Prop) (β : Bl) : AV → Value → Prop where
  | undef (v : Value) : VR hp L β .undef v
  | bool (b : Bool) : VR hp L β (.bool b) (.bool b)
  | int (k : IntKind) (n : Int) : VR hp L β (.int k n) (.int k n)
  | str (s : List UInt8) : VR hp L β (.str s) (.string ⟨s.toArray⟩)
  | agg (cs : List AV) (vs : Array Value) (hl : cs.length = vs.size) (h : ∀ (i : Nat) (c : AV) (v : Value), cs[i]? = some c → vs[i]? = some v → VR hp L β c v) : VR hp L β (.agg cs) (.agg vs)
  | tup (cs : List AV) (vs : Array Value) (hl : cs.length = vs.size) (h : ∀ (i : Nat) (c : AV) (v : Value), cs[i]? = some c → vs[i]? = some v → VR hp L β c v) : VR hp L β (.tup cs) (.tuple vs)
  | ptr (id off b base : Nat) (h : β id = some (b, base)) : VR hp L β (.ptr id off) (.pointer (some ⟨b, base + off, none⟩))
  | nilptr : VR hp L β .nilptr (.pointer none)
  | pptr (cs : List AV) (b o : Nat) (cur : Array Value) (e : TypeId) (fz : Nat × Nat) (hb : hp[b]? = some (.cells cur e fz)) (hL : ¬ L b) (hs : o + cs.length ≤ cur.size)
      (h : ∀ (i : Nat) (c : AV) (v : Value), cs[i]? = some c → cur[o + i]? = some v → VR hp L β c v) : VR hp L β (.pptr cs) (.pointer (some ⟨b, o, none⟩))
  | gptr (g off : Nat) : VR hp L β (.gptr g off) (.pointer (some ⟨g, off, none⟩))
  | nilsl : VR hp L β .nilsl (.slice none 0 0)
  | esl (a : Option Addr) : VR hp L β .esl (.slice a 0 0)
  | psl0 (a : Option Addr) (cap : Nat) : VR hp L β (.psl []) (.slice a 0 cap)
  | psl (xs : List (List AV)) (z b o cap : Nat) (cur : Array Value) (e : TypeId) (fz : Nat × Nat) (hb : hp[b]? = some (.cells cur e fz)) (hL : ¬ L b) (hs : o + xs.length * z ≤ cur.size)
      (hz : ∀ (i : Nat) (x : List AV), xs[i]? = some x → x.length = z) (hc : xs.length ≤ cap)
      (h : ∀ (i : Nat) (x : List AV) (j : Nat) (c : AV) (v : Value), xs[i]? = some x → x[j]? = some c → cur[o + i * z + j]? = some v → VR hp L β c v) : VR hp L β (.psl xs) (.slice (some ⟨b, o, none⟩) xs.length cap)
  | rsl (id off len z b base cap : Nat) (cur : Array Value) (e : TypeId) (fz : Nat × Nat) (h : β id = some (b, base)) (hb : hp[b]? = some (.cells cur e fz)) (hc : len ≤ cap) (hm : cap ≤ maxLen) (hs : base + off + cap * z ≤ cur.size) :
      VR hp L β (.rsl id off len z) (.slice (some ⟨b, base + off, none⟩) len cap)
  | rsl0 (id off z b base o : Nat) (h : β id = some (b, base)) : VR hp L β (.rsl id off 0 z) (.slice (some ⟨b, o, none⟩) 0 0)
  | mapv (id b base : Nat) (h : β id = some (b, base)) : VR hp L β (.mapv id) (.map (some b))
  | nilmap : VR hp L β .nilmap (.map none)
  | func (fn : Fn) (f1 c1 : List AV) (f2 c2 : Array Value) (hl1 : f1.length = f2.size) (hl2 : c1.length = c2.size) (h1 : ∀ (i : Nat) (c : AV) (v : Value), f1[i]? = some c → f2[i]? = some v → VR hp L β c v)
      (h2 : ∀ (i : Nat) (c : AV) (v : Value), c1[i]? = some c → c2[i]? = some v → VR hp L β c v) : VR hp L β (.func fn f1 c1) (.func fn f2 c2)
  | nilfunc : VR hp L β .nilfunc .nilFunc
  | nilif : VR hp L β .nilif .nilIface
  | iface (t : TypeId) (a : AV) (v : Value) (h : VR hp L β a v) : VR hp L β (.iface t a) (.iface t v)
  | sint (k : IntKind) (m i : Nat) (c lo hi : Int) (b base : Nat) (h : β i = some (b, base)) (h1 : lo ≤ ((base % m : Nat) : Int) + c) (h2 : ((base % m : Nat) : Int) + c ≤ hi) : VR hp L β (.sint k m i c lo hi) (.int k (((base % m : Nat) : Int) + c))
  | scol (k : IntKind) (m r i j l : Nat) (lo hi : Int) (b1 n1 b2 n2 b3 : Nat) (h1 : β i = some (b1, n1)) (h2 : β j = some (b2, n2)) (h3 : β l = some (b3, conN (n1 % 16777216) (n2 % 16777216))) (q1 : n1 ≤ 4294967295) (q2 : n2 ≤ 4294967295)
      (q3 : lo ≤ ((conN (n1 % 16777216) (n2 % 16777216) : Nat) : Int)) (q4 : ((conN (n1 % 16777216) (n2 % 16777216) : Nat) : Int) ≤ hi) : VR hp L β (.scol k m r i j l lo hi) (.int k ((((if r = 0 then n1 else n2) % m : Nat) : Int)))
  | oint (k : IntKind) (rs : List (BinOp × Int × Int)) (n : Int) (h : ∀ o d r, (o, d, r) ∈ rs → iarith o k n d = some (.int k r)) : VR hp L β (.oint k rs) (.int k n)
  | lin (k : IntKind) (l : List (Int × Nat)) (c lo hi : Int) (f : Nat → Nat) (h0 : ∀ p ∈ l, ∃ b, β p.2 = some (b, f p.2)) (h1 : lo ≤ linE f l + c) (h2 : linE f l + c ≤ hi) : VR hp L β (.lin k l c lo hi) (.int k (linE f l + c))
  | gsl (g off len cap : Nat) (hc : len ≤ cap) : VR hp L β (.gsl g off len) (.slice (some ⟨g, off, none⟩) len cap)

/-- What a step may do to the heap, so that related values stay related. -/
structure Later (hp : Array Obj) (L : Nat → Prop) (β : Bl) (hp' : Array Obj) (L' : Nat → Prop) (β' : Bl) : Prop where
  ext : ∀ id x, β id = some x → β' id = some x
  keep : ∀ b, b < hp.size → ¬ L b → ¬ L' b ∧ hp'[b]? = hp[b]?
  shape : ∀ (b : Nat) (cur : Array Value) (e : TypeId) (fz : Nat × Nat), hp[b]? = some (.cells cur e fz) → ∃ cur' fz', hp'[b]? = some (.cells cur' e fz') ∧ cur'.size = cur.size

theorem lt_of_get {α : Type} {a : Array α} {i : Nat} {x : α} (h : a[i]? = some x) : i < a.size := (Array.getElem?_eq_some_iff.1 h).1

theorem VR.later {hp : Array Obj} {L : Nat → Prop} {β : Bl} {hp' : Array Obj} {L' : Nat → Prop} {β' : Bl} (hl : Later hp L β hp' L' β') {a : AV} {v : Value} (h : VR hp L β a v) : VR hp' L' β' a v := by
  induction h with
  | undef v => exact .undef v
  | bool b => exact .bool b
  | int k n => exact .int k n
  | str s => exact .str s
  | agg cs vs hlen h ih => exact .agg cs vs hlen ih
  | tup cs vs hlen h ih => exact .tup cs vs hlen ih
  | ptr id off b base h => exact .ptr id off b base (hl.ext _ _ h)
  | nilptr => exact .nilptr
  | pptr cs b o cur e fz hb hL hs h ih =>
    obtain ⟨h1, h2⟩ := hl.keep b (lt_of_get hb) hL
    exact .pptr cs b o cur e fz (h2.trans hb) h1 hs ih
  | gptr g off => exact .gptr g off
  | nilsl => exact .nilsl
  | esl a => exact .esl a
  | psl0 a cap => exact .psl0 a cap
  | psl xs z b o cap cur e fz hb hL hs hz hc h ih =>
    obtain ⟨h1, h2⟩ := hl.keep b (lt_of_get hb) hL
    exact .psl xs z b o cap cur e fz (h2.trans hb) h1 hs hz hc ih
  | rsl id off len z b base cap cur e fz h hb hc hm hs =>
    obtain ⟨cur', fz', h1, h2⟩ := hl.shape _ _ _ _ hb
    exact .rsl id off len z b base cap cur' e fz' (hl.ext _ _ h) h1 hc hm (by omega)
  | rsl0 id off z b base o h => exact .rsl0 id off z b base o (hl.ext _ _ h)
  | mapv id b base h => exact .mapv id b base (hl.ext _ _ h)
  | nilmap => exact .nilmap
  | func fn f1 c1 f2 c2 hl1 hl2 h1 h2 ih1 ih2 => exact .func fn f1 c1 f2 c2 hl1 hl2 ih1 ih2
  | nilfunc => exact .nilfunc
  | nilif => exact .nilif
  | iface t a v h ih => exact .iface t a v ih
  | sint k m i c lo hi b base h h1 h2 => exact .sint k m i c lo hi b base (hl.ext _ _ h) h1 h2
  | scol k m r i j l lo hi b1 n1 b2 n2 b3 h1 h2 h3 q1 q2 q3 q4 => exact .scol k m r i j l lo hi b1 n1 b2 n2 b3 (hl.ext _ _ h1) (hl.ext _ _ h2) (hl.ext _ _ h3) q1 q2 q3 q4
  | oint k rs n h => exact .oint k rs n h
  | lin k l c lo hi f h0 h1 h2 => exact .lin k l c lo hi f (fun p hp => let ⟨b, hb⟩ := h0 p hp; ⟨b, hl.ext _ _ hb⟩) h1 h2
  | gsl g off len cap hc => exact .gsl g off len cap hc

theorem VR.one {hp : Array Obj} {L : Nat → Prop} {β : Bl} {a : AV} {v : Value} (h : VR hp L β a v) (h1 : a.one = true) : v.oneCell' = true := by
  cases h <;> first | rfl | simp [AV.one] at h1

/-! ## The heap of owned objects -/
inductive AObj where
  | cells (cs : List AV)
  | map (kvs : List (AV × AV))
  | siter (s : ByteArray) (pos : Nat)
  | glob (g : Nat) (cs : List AV)
  | typ (t : TypeId) (cs : List AV)
  deriving Inhabited

abbrev Hp := PM AObj

/-- block b holds a live object -/
def live (β : Bl) (H : Hp) (b : Nat) : Prop := ∃ id o base, H.get id = some o ∧ β id = some (b, base)

theorem half_odd (t : Nat) : (2 * t + 1) / 2 = t := by omega
/-- n cells of a block of m: all of them where the number t is odd (t / 2 is the block's type) -/
def fits (t n m : Nat) : Prop := n ≤ m ∧ (t % 2 = 1 → m = n)
/-- An abstract object and block b of the heap, from cell 'base' on. -/
def OR (hp : Array Obj) (L : Nat → Prop) (β : Bl) (b base : Nat) : AObj → Prop
  | .cells cs => ∃ cur e, hp[b]? = some (.cells cur e (0, 0)) ∧ base + cs.length ≤ cur.size ∧
      ∀ (i : Nat) (c : AV) (v : Value), cs[i]? = some c → cur[base + i]? = some v → VR hp L β c v
  | .map kvs => base = 0 ∧ ∃ es, hp[b]? = some (.map es kvs.length) ∧ es.size = kvs.length ∧
      ∀ (i : Nat) (kv : AV × AV) (e : MapEntry), kvs[i]? = some kv → es[i]? = some e → VR hp L β kv.1 e.key ∧ VR hp L β kv.2 e.val ∧ e.born = i
  | .siter s pos => base = 0 ∧ hp[b]? = some (.stringIter s pos)
  | .glob g cs => base = 0 ∧ b = g ∧ ∃ cur e fz, hp[b]? = some (.cells cur e fz) ∧ cs.length = cur.size ∧
      ∀ (i : Nat) (c : AV) (v : Value), cs[i]? = some c → cur[i]? = some v → VR hp L β c v
  | .typ t cs => base = 0 ∧ ∃ cur, hp[b]? = some (.cells cur (t / 2) (0, 0)) ∧ fits t cs.length cur.size ∧
      ∀ (i : Nat) (c : AV) (v : Value), cs[i]? = some c → cur[i]? = some v → VR hp L β c v

structure SimH (own : Nat → Prop) (β : Bl) (H : Hp) (nx : Nat) (w : World) : Prop where
  fresh : ∀ id, nx ≤ id → β id = none
  lt : ∀ id b base, β id = some (b, base) → b < w.heap.size
  ownlt : ∀ b, own b → b < w.heap.size
  obj : ∀ id o, H.get id = some o → ∃ b base, β id = some (b, base) ∧ ¬ own b ∧ OR w.heap (fun b => own b ∨ live β H b) β b base o
  inj : ∀ id id' o o' b x y, H.get id = some o → H.get id' = some o' → β id = some (b, x) → β id' = some (b, y) → id = id'

structure AH where
  H : Hp
  nx : Nat

/-- What a piece of code does to the world, beside its results. -/
structure Trans (own : Nat → Prop) (β : Bl) (h : AH) (w : World) (β' : Bl) (h' : AH) (w' : World) : Prop where
  ext : ∀ id x, β id = some x → β' id = some x
  low : ∀ id, id < h.nx → β' id = β id
  up : h.nx ≤ h'.nx
  size : w.heap.size ≤ w'.heap.size
  keep : ∀ b, b < w.heap.size → ¬ live β h.H b → w'.heap[b]? = w.heap[b]?
  live : ∀ b, live β' h'.H b → live β h.H b ∨ w.heap.size ≤ b
  shape : ∀ (b : Nat) (cur : Array Value) (e : TypeId) (fz : Nat × Nat), w.heap[b]? = some (.cells cur e fz) → ∃ cur' fz', w'.heap[b]? = some (.cells cur' e fz') ∧ cur'.size = cur.size ∧ (Eng.live β' h'.H b → fz' = fz)
  os : w'.os = w.os
  tape : w'.tape = w.tape
  output : w'.output = w.output

theorem Trans.refl (own : Nat → Prop) (β : Bl) (h : AH) (w : World) : Trans own β h w β h w :=
  ⟨fun _ _ h => h, fun _ _ => rfl, Nat.le_refl _, Nat.le_refl _, fun _ _ _ => rfl, fun _ h => .inl h, fun _ cur _ fz h => ⟨cur, fz, h, rfl, fun _ => rfl⟩, rfl, rfl, rfl⟩

theorem Trans.trans {own : Nat → Prop} {β₁ β₂ β₃ : Bl} {h₁ h₂ h₃ : AH} {w₁ w₂ w₃ : World} (h : Trans own β₁ h₁ w₁ β₂ h₂ w₂) (k : Trans own β₂ h₂ w₂ β₃ h₃ w₃) : Trans own β₁ h₁ w₁ β₃ h₃ w₃ := by
  refine ⟨fun id x hx => k.ext _ _ (h.ext _ _ hx), fun id hid => (k.low id (Nat.lt_of_lt_of_le hid h.up)).trans (h.low id hid), Nat.le_trans h.up k.up, Nat.le_trans h.size k.size, fun b hb hn => ?_, fun b hb => ?_, fun b cur e fz hc => ?_, k.os.trans h.os, k.tape.trans h.tape, k.output.trans h.output⟩
  · rw [k.keep b (Nat.lt_of_lt_of_le hb h.size) (fun hl => ?_)]
    · exact h.keep b hb hn
    · rcases h.live b hl with h1 | h1
      · exact hn h1
      · omega
  · rcases k.live b hb with h1 | h1
    · exact h.live b h1
    · exact .inr (Nat.le_trans h.size h1)
  · obtain ⟨c1, f1, h1, h2, h5⟩ := h.shape _ _ _ _ hc
    obtain ⟨c2, f2, h3, h4, h6⟩ := k.shape _ _ _ _ h1
    refine ⟨c2, f2, h3, h4.trans h2, fun hl => (h6 hl).trans (h5 ((k.live b hl).elim id fun hle => ?_))⟩
    have := lt_of_get h1
    omega

theorem Trans.later {own : Nat → Prop} {β β' : Bl} {h h' : AH} {w w' : World} (ht : Trans own β h w β' h' w') :
    Later w.heap (fun b => own b ∨ Eng.live β h.H b) β w'.heap (fun b => own b ∨ Eng.live β' h'.H b) β' :=
  ⟨ht.ext, fun b hb hn => ⟨fun hl => hl.elim (fun h1 => hn (.inl h1)) (fun h1 => (ht.live b h1).elim (fun h2 => hn (.inr h2)) (fun h2 => by omega)), ht.keep b hb (fun hl => hn (.inr hl))⟩, fun b cur e fz hc => let ⟨c, f, h1, h2, _⟩ := ht.shape b cur e fz hc; ⟨c, f, h1, h2⟩⟩

end Go.Eng
