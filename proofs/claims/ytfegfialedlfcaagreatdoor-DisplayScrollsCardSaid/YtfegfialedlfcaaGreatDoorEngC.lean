/- The abstract interpreter: its operations, how the model's operations are turned into them, what they do. Over any program. Lengths and indexes of the abstract interpreter. -/
import Derived.Test.YtfegfialedlfcaaGreatDoorEngA
import GoSem.Dispatch
set_option linter.unusedSimpArgs false
set_option linter.unusedVariables false
set_option linter.unnecessarySimpa false
noncomputable section
namespace Go.Eng
inductive Opd where
  | tmp (t : Nat)
  | const (v : AV)
  deriving Inhabited

/-- What is known of the registers. -/
def Tm : Type := Nat → Option AV
def Tm.get (T : Tm) (t : Nat) : Option AV := T t
def Tm.put (T : Tm) (d : Nat) (v : AV) : Tm := fun t => cond (Nat.beq t d) (some v) (T t)
def Tm.leaf : Tm := fun _ => none
theorem Tm.get_put (T : Tm) (k : Nat) (x : AV) (j : Nat) : (T.put k x).get j = if j = k then some x else T.get j := by
  unfold Tm.put Tm.get
  by_cases h : j = k
  · subst h; simp
  · have : Nat.beq j k = false := by cases hq : Nat.beq j k with | false => rfl | true => exact absurd (Nat.eq_of_beq_eq_true hq) h
    simp [this, h]
theorem Tm.get_put_same (T : Tm) (k : Nat) (x : AV) : (T.put k x).get k = some x := by rw [get_put, if_pos rfl]
theorem Tm.get_put_ne (T : Tm) {k j : Nat} (x : AV) (h : j ≠ k) : (T.put k x).get j = T.get j := by rw [get_put, if_neg h]
theorem Tm.get_leaf (t : Nat) : Tm.leaf.get t = none := rfl
def Opd.ev (T : Tm) : Opd → AV
  | .tmp t => (T.get t).getD .undef
  | .const v => v

/-- Kinds of plain cells. -/
inductive SK where
  | bool
  | int (k : IntKind)
  | str
  deriving DecidableEq

/-- Kinds of types that are held against nil. -/
inductive NK where
  | ptr | sl | mp | fn
  deriving DecidableEq

/-- Kinds of keys of maps: plain cells, flat structs of plain cells. -/
inductive MK where
  | one (k : SK)
  | st (ks : List SK)

/-- Further operations, all of them on values alone or with an effect. -/
inductive XK where
  | s2r
  | r2s
  | b2s
  | mkmap
  | mapset (k : MK)
  | mapget (k : MK) (ok : Bool) (zero : AV)
  | mapent (k : MK) (zero : AV)
  | entst
  | maplen
  | capz
  | appz (z bytes : Nat) (zero : List AV)
  | slpa (n z : Nat)
  | newT (t : TypeId) (zero : List AV)
  | eqif (neg : Bool)
  | i2s
  | s2b
  | mkif (t : TypeId)

inductive AOp where
  | mov (x : Opd)
  | pick (c a b : Opd)
  | new (zero : List AV)
  | box (x : Opd)
  | build (zero : List AV) (parts : List (Nat × Nat × Opd))
  | buildSl (z len : Nat) (zero : List AV) (parts : List (Nat × Nat × Opd))
  | ld1 (a : Opd)
  | ldn (n : Nat) (a : Opd)
  | st (n : Nat) (a x : Opd)
  | nilchk (x : Opd)
  | arith (op : BinOp) (x y : Opd)
  | eqs (neg : Bool) (x y : Opd)
  | eqn (k : NK) (neg : Bool) (x y : Opd)
  | eqf (neg : Bool) (ks : List SK) (x y : Opd)
  | un (op : UnOp) (x : Opd)
  | convI (k : IntKind) (x : Opd)
  | fld (off : Nat) (n : Option Nat) (x : Opd)
  | fldA (off : Nat) (x : Opd)
  | idxA (z : Nat) (x i : Opd)
  | idxArrA (len z : Nat) (x i : Opd)
  | idx (len z : Nat) (n : Option Nat) (x i : Opd)
  | idxS (x i : Opd)
  | sl (z : Nat) (x : Opd) (lo hi mx : Option Opd)
  | slS (x : Opd) (lo hi : Option Opd)
  | len (x : Opd)
  | lenS (x : Opd)
  | convS (x : Opd)
  | lenc (n : Nat)
  | app (z bytes : Nat) (s x : Opd)
  | copy (z : Nat) (d s : Opd)
  | mnmx (mx : Bool) (x y : Opd)
  | ext (x : Opd) (i : Nat)
  | mkf (fn : Fn) (first captured : List Opd)
  | mksl (z bytes : Nat) (zero : List AV) (l c : Opd)
  | call (f : Opd) (args : List Opd)
  | xo (k : XK) (args : List Opd)
  | stuck
  deriving Inhabited

structure AOpr where
  dst : Option Nat
  op : AOp
  guard : Option (Nat × Bool)
  deriving Inhabited

/-! ## Turning the model's operations -/
def cScalar : Value → Option AV
  | .bool b => some (.bool b)
  | .int k n => some (.int k n)
  | .string s => some (.str s.data.toList)
  | .pointer none => some .nilptr
  | .slice none 0 0 => some .nilsl
  | .map none => some .nilmap
  | .nilFunc => some .nilfunc
  | .nilIface => some .nilif
  | _ => none
def cVals : List Value → Option (List AV)
  | [] => some []
  | v :: vs => match cScalar v, cVals vs with
    | some a, some as => some (a :: as)
    | _, _ => none
def cVal : Value → Option AV
  | .agg cs => (cVals cs.toList).map .agg
  | v => cScalar v
def cOpd : Operand → Option Opd
  | .tmp t => some (.tmp t)
  | .const v => (cVal v).map .const
  | .func f => some (.const (.func (.func f) [] []))
  | .global g => some (.const (.gptr g 0))
def cOpds : List Operand → Option (List Opd)
  | [] => some []
  | v :: vs => match cOpd v, cOpds vs with
    | some a, some as => some (a :: as)
    | _, _ => none
def cOpdO : Option Operand → Option (Option Opd)
  | none => some none
  | some x => (cOpd x).map some

section
variable (P : Program)
def zeroOf (t : TypeId) : Option (List AV) :=
  match P.info? t with
  | some i => match i.zero with
    | some v => cVals v.cells.toList
    | none => none
  | none => none
def szOf (t : TypeId) : Option Nat := (P.info? t).map (·.size)
def byOf (t : TypeId) : Option Nat := (P.info? t).map (·.bytes)
/-- none: one cell; some n: an aggregate of n cells -/
def aggOf (t : TypeId) : Option (Option Nat) :=
  match P.underlying t with
  | some (.struct _) | some (.array _ _) => (szOf P t).map some
  | some _ => some none
  | none => none

def flatFs (rec : TypeId → Option (List SK)) (off : Nat) : List Field → Option (List SK)
  | [] => some []
  | f :: fs =>
    if f.name = "_" ∨ f.offset ≠ off then none else
    match rec f.type with
    | some ks => if szOf P f.type = some ks.length then (match flatFs rec (off + ks.length) fs with | some r => some (ks ++ r) | none => none) else none
    | none => none
def flatK : Nat → TypeId → Option (List SK)
  | 0, _ => none
  | d + 1, t =>
    match P.underlying t with
    | some .bool => some [.bool]
    | some (.int k) => some [.int k]
    | some .string => some [.str]
    | some (.struct fs) => if P.stoodInHeld t then none else flatFs P (flatK d) 0 fs.toList
    | _ => none

def cParts (place : Nat → Option (Nat × Nat)) : List (Nat × Operand) → Option (List (Nat × Nat × Opd))
  | [] => some []
  | (i, x) :: r => match place i, cOpd x, cParts place r with
    | some (o, s), some y, some l => some ((o, s, y) :: l)
    | _, _, _ => none

def fieldPlaces (fs : Array Field) (i : Nat) : Option (Nat × Nat) :=
  match fs[i]? with
  | some f => (szOf P f.type).map fun s => (f.offset, s)
  | none => none

def repl (n : Nat) (zero : List AV) : List AV := (List.replicate n zero).flatten

def cEq (neg : Bool) (t : TypeId) (a b : Opd) : Option AOp :=
  match P.underlying t with
  | some .bool => some (.eqs neg a b)
  | some (.int _) => some (.arith (if neg then .neq else .eql) a b)
  | some .string => some (.arith (if neg then .neq else .eql) a b)
  | some (.pointer _) => some (.eqn .ptr neg a b)
  | some (.slice _) => some (.eqn .sl neg a b)
  | some (.map _ _) => some (.eqn .mp neg a b)
  | some (.func _ _ _) => some (.eqn .fn neg a b)
  | some (.struct _) => if P.eqGuardType P.depth t then none else (flatK P 50 t).map fun ks => .eqf neg ks a b
  | _ => none

/-- types of which the blocks' types are kept in mind: strings.Builder -/
def bldT (t : TypeId) : Bool :=
  match P.underlying t with
  | some (.struct fs) => match fs.toList with
    | [a, b] => a.name == "addr" && b.name == "buf" && a.pkgPath == "strings"
    | _ => false
  | _ => false
def cOp : Op → Option AOp
  | .move x | .assign x => (cOpd x).map .mov
  | .pick c a b => do pure (.pick (← cOpd c) (← cOpd a) (← cOpd b))
  | .alloc e => if bldT P e then none else (zeroOf P e).map .new
  | .box _ x => (cOpd x).map .box
  | .build t parts => do
    match P.underlying t with
    | some (.struct fs) => if fs.all (fun f => (P.info? f.type).isSome) then pure (.build (← zeroOf P t) (← cParts (fieldPlaces P fs) parts.toList)) else none
    | some (.array _ e) => do
      let s ← szOf P e
      pure (.build (← zeroOf P t) (← cParts (fun i => some (i * s, s)) parts.toList))
    | _ => none
  | .buildSlice t len parts => do
    match P.underlying t with
    | some (.slice e) => do
      let s ← szOf P e
      if len * s > 2 ^ 24 || s == 0 then none else
      let z ← zeroOf P e
      if z.length ≠ s then none else
      pure (.buildSl s len (repl len z) (← cParts (fun i => some (i * s, s)) parts.toList))
    | _ => none
  | .load t a => do
    match ← aggOf P t with
    | some n => pure (.ldn n (← cOpd a))
    | none => pure (.ld1 (← cOpd a))
  | .store t a x => do pure (.st (← szOf P t) (← cOpd a) (← cOpd x))
  | .nilCheck x => (cOpd x).map .nilchk
  | .binOp op t x y _ => do
    let a ← cOpd x
    let b ← cOpd y
    match op with
    | .eql => cEq P false t a b
    | .neq => cEq P true t a b
    | op => pure (.arith op a b)
  | .unOp op _ x => (cOpd x).map (.un op)
  | .convert src dst x => do
    match P.underlying src, P.underlying dst with
    | some _, some (.int k) => pure (.convI k (← cOpd x))
    | some .string, some .string => pure (.convS (← cOpd x))
    | _, _ => none
  | .fieldAddr s x f => do
    match P.underlying s with
    | some (.struct fs) => do
      let g ← fs[f]?
      if (← szOf P g.type) = 0 then none else pure (.fldA g.offset (← cOpd x))
    | _ => none
  | .field s x f => do
    match P.underlying s with
    | some (.struct fs) => do
      let g ← fs[f]?
      pure (.fld g.offset (← aggOf P g.type) (← cOpd x))
    | _ => none
  | .indexAddr t x i => do
    match P.underlying t with
    | some (.slice e) => pure (.idxA (← szOf P e) (← cOpd x) (← cOpd i))
    | some (.array n e) => pure (.idxArrA n (← szOf P e) (← cOpd x) (← cOpd i))
    | _ => none
  | .index t x i => do
    match P.underlying t with
    | some (.array n e) => pure (.idx n (← szOf P e) (← aggOf P e) (← cOpd x) (← cOpd i))
    | some .string => pure (.idxS (← cOpd x) (← cOpd i))
    | _ => none
  | .slice t x lo hi mx => do
    match P.underlying t with
    | some (.slice e) => do
      let s ← szOf P e
      if s == 0 then none else
      pure (.sl s (← cOpd x) (← cOpdO lo) (← cOpdO hi) (← cOpdO mx))
    | some .string => if mx.isSome then none else do pure (.slS (← cOpd x) (← cOpdO lo) (← cOpdO hi))
    | _ => none
  | .extract x i => do pure (.ext (← cOpd x) i)
  | .makeFunc fn first captured => do pure (.mkf fn (← cOpds first.toList) (← cOpds captured.toList))
  | .makeSlice t l c => do
    match P.underlying t with
    | some (.slice e) => do
      let s ← szOf P e
      let z ← zeroOf P e
      if z.length ≠ s || s == 0 then none else
      pure (.mksl s (← byOf P e) z (← cOpd l) (← cOpd c))
    | _ => none
  | .call c =>
    match c.callee with
    | .value f => do pure (.call (← cOpd f) (← cOpds c.args.toList))
    | .builtin .len => do
      match c.args.toList, c.argTypes.toList with
      | [x], [t] =>
        match P.underlying t with
        | some (.array n _) => pure (.lenc n)
        | some .string => pure (.lenS (← cOpd x))
        | some (.slice _) => pure (.len (← cOpd x))
        | _ => none
      | _, _ => none
    | .builtin .append => do
      match c.args.toList, c.argTypes.toList with
      | [s, x], [t, u] =>
        if t ≠ u then none else
        match P.underlying t with
        | some (.slice e) => do
          let z ← zeroOf P e
          let sz ← szOf P e
          if z.length ≠ sz || sz == 0 then none else
          pure (.app sz (← byOf P e) (← cOpd s) (← cOpd x))
        | _ => none
      | _, _ => none
    | .builtin .copy => do
      match c.args.toList, c.argTypes.toList with
      | [d, s], [t, u] =>
        if t ≠ u then none else
        match P.underlying t with
        | some (.slice e) => do
          let sz ← szOf P e
          if sz == 0 then none else
          pure (.copy sz (← cOpd d) (← cOpd s))
        | _ => none
      | _, _ => none
    | .builtin .min => do
      match c.args.toList with
      | [x, y] => pure (.mnmx false (← cOpd x) (← cOpd y))
      | _ => none
    | .builtin .max => do
      match c.args.toList with
      | [x, y] => pure (.mnmx true (← cOpd x) (← cOpd y))
      | _ => none
    | _ => none
  | _ => none
end
section
variable (P : Program)
def cX : Op → Option AOp
  | .convert src dst x =>
    match P.underlying src, P.underlying dst with
    | some .string, some (.slice e) => match P.underlying e, cOpd x with
      | some (.int .i32), some y => some (.xo .s2r [y])
      | some (.int .u8), some y => some (.xo .s2b [y])
      | _, _ => none
    | some (.slice e), some .string => match P.underlying e, cOpd x with
      | some (.int .i32), some y => some (.xo .r2s [y])
      | some (.int .u8), some y => some (.xo .b2s [y])
      | _, _ => none
    | some (.int _), some .string => match cOpd x with
      | some y => some (.xo .i2s [y])
      | none => none
    | _, _ => none
  | .makeInterface t x =>
    match P.underlying t with
    | some (.interface _) => none
    | some _ => match cOpd x with
      | some y => some (.xo (.mkif t) [y])
      | none => none
    | none => none
  | _ => none
def skOf (t : TypeId) : Option SK :=
  match P.underlying t with
  | some .bool => some .bool
  | some (.int k) => some (.int k)
  | some .string => some .str
  | _ => none
def mkOf (t : TypeId) : Option MK :=
  match skOf P t with
  | some k => some (.one k)
  | none => match P.underlying t with
    | some (.struct fs) => if fs.toList.all (fun f => (skOf P f.type).isSome) && (szOf P t).isSome then (flatK P 2 t).map .st else none
    | some (.array n e) => if szOf P e = some 1 then (skOf P e).map fun k => .st (List.replicate n k) else none
    | _ => none
def mapOf (t : TypeId) : Option (MK × TypeId) :=
  match P.underlying t with
  | some (.map k e) => (mkOf P k).map fun s => (s, e)
  | _ => none
def zeroAV (t : TypeId) : Option AV :=
  match P.info? t with
  | some i => match i.zero with
    | some v => cVal v
    | none => none
  | none => none
/-- operations on maps -/
def cM : Op → Option AOp
  | .binOp .eql t x (.const .nilIface) _ => match P.underlying t, cOpd x with
    | some (.interface _), some y => some (.xo (.eqif false) [y])
    | _, _ => none
  | .binOp .neq t x (.const .nilIface) _ => match P.underlying t, cOpd x with
    | some (.interface _), some y => some (.xo (.eqif true) [y])
    | _, _ => none
  | .alloc e => if bldT P e then (zeroOf P e).map fun z => .xo (.newT e z) [] else none
  | .makeMap _ none => some (.xo .mkmap [])
  | .makeMap t (some r) => match P.underlying t, cOpd r with
    | some (.map _ _), some x => some (.xo .mkmap [x])
    | _, _ => none
  | .mapUpdate t m k x | .insert t m k x => match mapOf P t, cOpd m, cOpd k, cOpd x with
    | some q, some m, some k, some x => some (.xo (.mapset q.1) [m, k, x])
    | _, _, _, _ => none
  | .lookup t m k ok => match mapOf P t, cOpd m, cOpd k with
    | some q, some m, some k => match zeroAV P q.2 with
      | some z => some (.xo (.mapget q.1 ok z) [m, k])
      | none => none
    | _, _, _ => none
  | .mapEntry t m k => match mapOf P t, cOpd m, cOpd k with
    | some q, some m, some k => match zeroAV P q.2 with
      | some z => some (.xo (.mapent q.1 z) [m, k])
      | none => none
    | _, _, _ => none
  | .entryStore _ m i x => match cOpd m, cOpd i, cOpd x with
    | some m, some i, some x => some (.xo .entst [m, i, x])
    | _, _, _ => none
  | .call c =>
    match c.callee with
    | .builtin .len => match c.args.toList, c.argTypes.toList with
      | [x], [t] => match mapOf P t, cOpd x with
        | some _, some y => some (.xo .maplen [y])
        | _, _ => none
      | _, _ => none
    | .builtin .cap => match c.args.toList, c.argTypes.toList with
      | [x], [t] => match P.underlying t, cOpd x with
        | some (.slice _), some y => some (.xo .capz [y])
        | _, _ => none
      | _, _ => none
    | .builtin .append => match c.args.toList, c.argTypes.toList with
      | [s, x], [t, u] => match P.underlying t, P.underlying u, cOpd s, cOpd x with
        | some (.slice e), some (.int _), some s, some x => match zeroOf P e, szOf P e, byOf P e with
          | some zero, some z, some by' => if zero.length = z ∧ z ≠ 0 then some (.xo (.appz z by' zero) [s, x]) else none
          | _, _, _ => none
        | _, _, _, _ => none
      | _, _ => none
    | _ => none
  | .slice t x none none none =>
    match P.underlying t, cOpd x with
    | some (.array n e), some y => match szOf P e with
      | some z => some (.xo (.slpa n z) [y])
      | none => none
    | _, _ => none
  | _ => none
/-- what is not covered is stuck -/
def cOpX (op : Op) : AOp :=
  match cOp P op with
  | some ao => ao
  | none => match cX P op with
    | some ao => ao
    | none => match cM P op with
      | some ao => ao
      | none => .stuck
end
/-! ## What the operations do -/
def AH.cellsAt (h : AH) (id : Nat) : Option (List AV) :=
  match h.H.get id with
  | some (.cells cs) => some cs
  | _ => none
def AH.globAt (h : AH) (g : Nat) : Option (List AV) :=
  match h.H.get g with
  | some (.glob g' cs) => if g' = g then some cs else none
  | _ => none
def AH.mapAt (h : AH) (id : Nat) : Option (List (AV × AV)) :=
  match h.H.get id with
  | some (.map kvs) => some kvs
  | _ => none
def AH.add (h : AH) (o : AObj) : AH := ⟨h.H.put h.nx o, h.nx + 1⟩
def AH.set (h : AH) (id : Nat) (o : AObj) : AH := ⟨h.H.put id o, h.nx⟩
def AH.kill (h : AH) (id : Nat) : AH := ⟨h.H.del id, h.nx⟩

/-- n cells from 'off' on, all there -/
def cut (cs : List AV) (off n : Nat) : Option (List AV) := if off + n ≤ cs.length then some ((cs.drop off).take n) else none

def ones (cs : List AV) : Bool := cs.all AV.one

def splice (cs : List AV) (off : Nat) (new : List AV) : Option (List AV) :=
  if off + new.length ≤ cs.length then some (cs.take off ++ new ++ cs.drop (off + new.length)) else none

/-- a value that can lie in memory: of one cell, or an aggregate -/
def stow : AV → Bool
  | .agg _ => true
  | x => x.one

def afill : List AV → List (Nat × Nat × AV) → Option (List AV)
  | cs, [] => some cs
  | cs, (off, size, x) :: r =>
    if stow x then
      let new := x.cells
      if new.length = size then match splice cs off new with | some cs' => afill cs' r | none => none else none
    else none

def evP (T : Tm) (ps : List (Nat × Nat × Opd)) : List (Nat × Nat × AV) := ps.map fun q => (q.1, q.2.1, q.2.2.ev T)
def afillT (T : Tm) : List AV → List (Nat × Nat × Opd) → Option (List AV)
  | cs, [] => some cs
  | cs, (off, size, x) :: r =>
    if stow (x.ev T) then
      let new := (x.ev T).cells
      if new.length = size then match splice cs off new with | some cs' => afillT T cs' r | none => none else none
    else none
theorem afillT_eq (T : Tm) : ∀ (ps : List (Nat × Nat × Opd)) (cs : List AV), afillT T cs ps = afill cs (evP T ps)
  | [], cs => rfl
  | (off, size, x) :: r, cs => by
    simp only [afillT, evP, List.map_cons, afill]
    split
    · split
      · split
        · exact afillT_eq T r _
        · rfl
      · rfl
    · rfl

def aload1 (h : AH) : AV → Option AV
  | .ptr id off => match h.cellsAt id with
    | some cs => cs[off]?
    | none => none
  | .pptr cs => cs[0]?
  | .gptr g off => match h.globAt g with
    | some cs => cs[off]?
    | none => none
  | _ => none
def aloadn (h : AH) (n : Nat) : AV → Option (List AV)
  | .ptr id off => match h.cellsAt id with
    | some cs => cut cs off n
    | none => none
  | .pptr cs => cut cs 0 n
  | .gptr g off => match h.globAt g with
    | some cs => cut cs off n
    | none => none
  | _ => none

def sarith (op : BinOp) (a b : List UInt8) : Option AV :=
  match op with
  | .add => if a.length + b.length ≤ 9223372036854775807 then some (.str (a ++ b)) else none
  | .eql => some (.bool (a == b))
  | .neq => some (.bool (!(a == b)))
  | .lss => some (.bool (Op.bytesLess a b))
  | .leq => some (.bool (Op.bytesLess a b || a == b))
  | .gtr => some (.bool (!(Op.bytesLess a b || a == b)))
  | .geq => some (.bool (!(Op.bytesLess a b)))
  | _ => none
def ishift (op : BinOp) (k : IntKind) (a b : Int) : Option AV :=
  match op with
  | .shl => if b < 0 then none else some (.int k (k.wrap (a * 2 ^ (min b.toNat k.bits))))
  | .shr => if b < 0 then none else some (.int k (a.fdiv (2 ^ (min b.toNat k.bits))))
  | _ => none
def isShift : BinOp → Bool
  | .shl | .shr => true
  | _ => false
def hiC (m : Nat) : Int := if m = 0 then 4294967295 else (m : Int) - 1
/-- what is known of a number -/
def rngI : AV → Option (IntKind × Int × Int)
  | .int k n => some (k, n, n)
  | .sint k _ _ _ lo hi => some (k, lo, hi)
  | .scol k m _ _ _ _ _ _ => some (k, 0, hiC m)
  | .lin k _ _ lo hi => some (k, lo, hi)
  | _ => none
def cmpR (op : BinOp) (l1 h1 l2 h2 : Int) : Option Bool :=
  match op with
  | .lss => if h1 < l2 then some true else if h2 ≤ l1 then some false else none
  | .leq => if h1 ≤ l2 then some true else if h2 < l1 then some false else none
  | .gtr => if h2 < l1 then some true else if h1 ≤ l2 then some false else none
  | .geq => if h2 ≤ l1 then some true else if h1 < l2 then some false else none
  | .eql => if h1 < l2 ∨ h2 < l1 then some false else if l1 = h1 ∧ l2 = h2 ∧ l1 = l2 then some true else none
  | .neq => if h1 < l2 ∨ h2 < l1 then some true else if l1 = h1 ∧ l2 = h2 ∧ l1 = l2 then some false else none
  | _ => none
def fitsK (k : IntKind) (lo hi : Int) : Bool :=
  match k with
  | .i64 => decide (-9223372036854775808 ≤ lo) && decide (hi ≤ 9223372036854775807)
  | .i32 => decide (-2147483648 ≤ lo) && decide (hi ≤ 2147483647)
  | .u8 => decide (0 ≤ lo) && decide (hi ≤ 255)
  | .u32 => decide (0 ≤ lo) && decide (hi ≤ 4294967295)
  | _ => false
def shiftI (k : IntKind) (m i : Nat) (c lo hi : Int) : Option AV := if fitsK k lo hi then some (.sint k m i c lo hi) else none
def shiftL (k : IntKind) (l : List (Int × Nat)) (c lo hi : Int) : Option AV := if fitsK k lo hi then some (.lin k l c lo hi) else none
/-- arithmetic on numbers of which bounds are known -/
def sarI (op : BinOp) (x y : AV) : Option AV :=
  match rngI x, rngI y with
  | some (k, l1, h1), some (k', l2, h2) =>
    if k = k' then
      match cmpR op l1 h1 l2 h2 with
      | some b => some (.bool b)
      | none => match op, x, y with
        | .add, .sint k m i c lo hi, .int _ b => shiftI k m i (c + b) (lo + b) (hi + b)
        | .add, .int _ b, .sint k m i c lo hi => shiftI k m i (c + b) (lo + b) (hi + b)
        | .sub, .sint k m i c lo hi, .int _ b => shiftI k m i (c - b) (lo - b) (hi - b)
        | .rem, .sint k m i c lo _, .int _ b => if m = 0 ∧ c = 0 ∧ 0 < b ∧ 0 ≤ lo then some (.sint k b.toNat i 0 0 (b - 1)) else none
        | .and, .sint k m i c lo hi, .int _ b => if m = 0 ∧ c = 0 ∧ 0 ≤ lo ∧ hi ≤ 4294967295 ∧ b = 16777215 ∧ k = .u32 then some (.sint k 16777216 i 0 0 16777215) else none
        | .and, .scol k m r i j l lo hi, .int _ b => if m = 0 ∧ b = 16777215 ∧ k = .u32 then some (.scol k 16777216 r i j l lo hi) else none
        | .add, .lin k l c lo hi, .int _ d => shiftL k l (c + d) (lo + d) (hi + d)
        | .add, .int _ d, .lin k l c lo hi => shiftL k l (c + d) (lo + d) (hi + d)
        | .sub, .lin k l c lo hi, .int _ d => shiftL k l (c - d) (lo - d) (hi - d)
        | .add, .lin k l c lo hi, .lin _ l' c' lo' hi' => shiftL k (l ++ l') (c + c') (lo + lo') (hi + hi')
        | .sub, .lin k l c lo hi, .lin _ l' c' lo' hi' => shiftL k (l ++ linN l') (c - c') (lo - hi') (hi - lo')
        | .eql, .lin _ l c _ _, .lin _ l' c' _ _ => if linEq l l' = true ∧ c = c' then some (.bool true) else none
        | _, _, _ => none
    else none
  | _, _ => none
def olook (op : BinOp) (b : Int) (k : IntKind) : List (BinOp × Int × Int) → Option AV
  | [] => none
  | (o, d, r) :: t => if o = op ∧ d = b then some (.int k r) else olook op b k t
theorem olook_some {op : BinOp} {b : Int} {k : IntKind} {v : AV} : ∀ {rs : List (BinOp × Int × Int)}, olook op b k rs = some v → ∃ r, (op, b, r) ∈ rs ∧ v = .int k r
  | [], h => by simp [olook] at h
  | (o, d, r) :: t, h => by
    simp only [olook] at h
    split at h
    · rename_i hh
      obtain ⟨rfl, rfl⟩ := hh
      cases h
      exact ⟨r, by simp, rfl⟩
    · obtain ⟨r', h1, h2⟩ := olook_some h
      exact ⟨r', by simp [h1], h2⟩
def aarith (op : BinOp) : AV → AV → Option AV
  | .int k a, .int k' b => if isShift op then ishift op k a b else if k = k' then iarith op k a b else none
  | .str a, .str b => sarith op a b
  | .oint k rs, .int k' b => if isShift op then none else if k = k' then olook op b k rs else none
  | x, y => sarI op x y

def aeqn : NK → AV → AV → Option Bool
  | .ptr, .nilptr, .nilptr | .sl, .nilsl, .nilsl | .mp, .nilmap, .nilmap | .fn, .nilfunc, .nilfunc => some true
  | .ptr, .nilptr, .ptr _ _ | .ptr, .nilptr, .pptr _ | .ptr, .ptr _ _, .nilptr | .ptr, .pptr _, .nilptr => some false
  | .sl, .rsl _ _ _ _, .nilsl | .sl, .nilsl, .rsl _ _ _ _ => some false
  | .sl, .psl (_ :: _), .nilsl => some false
  | .mp, .mapv _, .nilmap | .mp, .nilmap, .mapv _ => some false
  | .fn, .func _ _ _, .nilfunc | .fn, .nilfunc, .func _ _ _ => some false
  | _, _, _ => none

def eqCell : SK → AV → AV → Option Bool
  | .bool, .bool a, .bool b => some (a == b)
  | .int k, .int k1 a, .int k2 b => if k1 = k ∧ k2 = k then some (a == b) else none
  | .int k, .sint k1 m i c lo hi, y => if k1 = k then (match sarI .eql (.sint k1 m i c lo hi) y with
    | some (.bool b) => some b
    | _ => none) else none
  | .int k, .lin k1 l c lo hi, y => if k1 = k then (match sarI .eql (.lin k1 l c lo hi) y with
    | some (.bool b) => some b
    | _ => none) else none
  | .str, .str a, .str b => some (a == b)
  | _, _, _ => none
def eqCells : List SK → List AV → List AV → Option Bool
  | [], [], [] => some true
  | k :: ks, x :: xs, y :: ys => match eqCell k x y, eqCells ks xs ys with
    | some a, some b => some (a && b)
    | _, _ => none
  | _, _, _ => none

def aun (op : UnOp) : AV → Option AV
  | .int k n => match op with
    | .neg => some (.int k (k.wrap (0 - n)))
    | .xor => some (.int k (k.wrap (BitVec.ofInt k.bits (if k.signed then -1 else k.max) ^^^ BitVec.ofInt k.bits n).toNat))
    | _ => none
  | .bool b => match op with
    | .not => some (.bool !b)
    | _ => none
  | _ => none

def apart (n : Option Nat) (cs : List AV) (off : Nat) : Option AV :=
  match n with
  | some n => (cut cs off n).map .agg
  | none => cs[off]?

def aidx : AV → Option Int
  | .int _ i => some i
  | _ => none
/-- an index below n -/
def aix (n : Nat) (v : AV) : Option Nat :=
  match aidx v with
  | some i => if 0 ≤ i ∧ i < n then some i.toNat else none
  | none => none
/-- a bound at most n -/
def abd (n : Nat) : Option AV → Nat → Option Nat
  | none, d => some d
  | some v, _ => match aidx v with
    | some i => if 0 ≤ i ∧ i ≤ n then some i.toNat else none
    | none => none

def alen : AV → Option Nat
  | .nilsl | .esl => some 0
  | .psl xs => some xs.length
  | .rsl _ _ len _ => some len
  | .gsl _ _ len => some len
  | _ => none

/-- the cells of a slice's elements, z cells an element -/
def acells (h : AH) (z : Nat) : AV → Option (List AV)
  | .nilsl | .esl => some []
  | .psl xs => if xs.all (fun x => x.length == z) then some xs.flatten else none
  | .rsl id off len z' => if z' = z then (match h.cellsAt id with | some cs => cut cs off (len * z) | none => none) else none
  | _ => none

def asl (z lo hi mx : Nat) (three : Bool) : AV → Option AV
  | .nilsl => if hi = 0 then some .nilsl else none
  | .esl => if hi = 0 then some .esl else none
  | .psl xs => if xs.all (fun x => x.length == z) then some (if three && mx == lo then .esl else .psl ((xs.drop lo).take (hi - lo))) else none
  | .rsl id off _ z' => if z' = z then some (if three && mx == lo then .esl else .rsl id (off + lo * z) (hi - lo) z) else none
  | _ => none

def roomy (n bytes : Nat) : Bool := n * bytes ≤ 140737488355328 && n ≤ 9223372036854775807

def aapp (h : AH) (z bytes : Nat) (s x : AV) : Option (AV × AH) :=
  match acells h z x, alen x with
  | some new, some m =>
    if !ones new then none else
    match s with
    | .nilsl =>
      if m = 0 then some (.nilsl, h) else
      if roomy m bytes then some (.rsl h.nx 0 m z, h.add (.cells new)) else none
    | .esl =>
      if m = 0 then some (.esl, h) else
      if roomy m bytes then some (.rsl h.nx 0 m z, h.add (.cells new)) else none
    | .psl xs => if m = 0 then some (.psl xs, h) else none
    | .rsl id off len z' =>
      if z' = z && roomy (len + m) bytes then
        match h.cellsAt id with
        | some cs => match cut cs off (len * z) with
          | some old => some (.rsl h.nx 0 (len + m) z, (h.kill id).add (.cells (old ++ new)))
          | none => none
        | none => none
      else none
    | _ => none
  | _, _ => none

def acopy (h : AH) (z : Nat) (d s : AV) : Option (AV × AH) :=
  match acells h z s, alen s, alen d with
  | some src, some m, some n =>
    let k := min m n
    if k = 0 then some (.int .i64 0, h) else
    if !ones (src.take (k * z)) then none else
    match d with
    | .rsl id off _ z' =>
      if z' = z then
        match h.cellsAt id with
        | some cs => match splice cs off (src.take (k * z)) with
          | some cs' => some (.int .i64 k, h.set id (.cells cs'))
          | none => none
        | none => none
      else none
    | _ => none
  | _, _, _ => none

def afldA (off : Nat) : AV → Option AV
  | .ptr id o => some (.ptr id (o + off))
  | .pptr cs => if off ≤ cs.length then some (.pptr (cs.drop off)) else none
  | .gptr g o => some (.gptr g (o + off))
  | _ => none
def aidxA (z : Nat) (x i : AV) : Option AV :=
  match x with
  | .psl xs => match aix xs.length i with
    | some j => match xs[j]? with
      | some c => if c.length = z then some (.pptr c) else none
      | none => none
    | none => none
  | .rsl id off len z' => if z' = z then match aix len i with
    | some j => some (.ptr id (off + j * z))
    | none => none else none
  | .gsl g off len => match aix len i with
    | some j => some (.gptr g (off + j * z))
    | none => none
  | _ => none
def aslice (z : Nat) (x : AV) (lo hi mx : Option AV) : Option AV :=
  match alen x with
  | some n => match abd n mx n with
    | some m => match abd m hi n with
      | some hb => match abd hb lo 0 with
        | some l => if mx.isSome && hi.isNone then none else asl z l hb m mx.isSome x
        | none => none
      | none => none
    | none => none
  | none => none
def asliceS (s : List UInt8) (lo hi : Option AV) : Option (List UInt8) :=
  match abd s.length hi s.length with
  | some hb => match abd hb lo 0 with
    | some l => some ((s.drop l).take (hb - l))
    | none => none
  | none => none

abbrev Handler := Nat → List AV → AH → Option (AV × AH)

def kMov (h : AH) (x : AV) : Option (AV × AH) :=
  some (x, h)
def kPick (h : AH) (c : AV) (a : AV) (b : AV) : Option (AV × AH) :=
  match c with
    | .bool t => some (if t then a else b, h)
    | _ => none
def kNew (h : AH) (zero : List AV) : Option (AV × AH) :=
  some (.ptr h.nx 0, h.add (.cells zero))
def kBox (h : AH) (x : AV) : Option (AV × AH) :=
  if stow x then some (.ptr h.nx 0, h.add (.cells x.cells)) else none
def kBuild (h : AH) (zero : List AV) (parts : List (Nat × Nat × AV)) : Option (AV × AH) :=
  match afill zero parts with
    | some cs => some (.agg cs, h)
    | none => none
def kBuildSl (h : AH) (z : Nat) (len : Nat) (zero : List AV) (parts : List (Nat × Nat × AV)) : Option (AV × AH) :=
  match afill zero parts with
    | some cs => some (.rsl h.nx 0 len z, h.add (.cells cs))
    | none => none
def kLd1 (h : AH) (a : AV) : Option (AV × AH) :=
  match aload1 h (a) with
    | some v => some (v, h)
    | none => none
def kLdn (h : AH) (n : Nat) (a : AV) : Option (AV × AH) :=
  match aloadn h n (a) with
    | some cs => some (.agg cs, h)
    | none => none
def kSt (h : AH) (n : Nat) (a : AV) (x : AV) : Option (AV × AH) :=
 
    if stow x then
      let new := x.cells
      if new.length = n && ones new then
        match a with
        | .ptr id off => match h.cellsAt id with
          | some cs => match splice cs off new with
            | some cs' => some (.undef, h.set id (.cells cs'))
            | none => none
          | none => none
        | _ => none
      else none
    else none
def kNilchk (h : AH) (x : AV) : Option (AV × AH) :=
  match x with
    | .ptr id off => some (.ptr id off, h)
    | .pptr cs => some (.pptr cs, h)
    | .gptr g o => some (.gptr g o, h)
    | .func (.func f) a b => some (.func (.func f) a b, h)
    | _ => none
def kArith (h : AH) (op : BinOp) (x : AV) (y : AV) : Option (AV × AH) :=
  match aarith op x (y) with
    | some v => some (v, h)
    | none => none
def kEqs (h : AH) (neg : Bool) (x : AV) (y : AV) : Option (AV × AH) :=
  match x, y with
    | .bool a, .bool b => some (.bool (if neg then !(a == b) else a == b), h)
    | _, _ => none
def kEqn (h : AH) (k : NK) (neg : Bool) (x : AV) (y : AV) : Option (AV × AH) :=
  match aeqn k x (y) with
    | some b => some (.bool (if neg then !b else b), h)
    | none => none
def kEqf (h : AH) (neg : Bool) (ks : List SK) (x : AV) (y : AV) : Option (AV × AH) :=
  match x, y with
    | .agg xs, .agg ys => match eqCells ks xs ys with
      | some b => some (.bool (if neg then !b else b), h)
      | none => none
    | _, _ => none
def kUn (h : AH) (op : UnOp) (x : AV) : Option (AV × AH) :=
  match aun op x with
    | some v => some (v, h)
    | none => none
def kConvI (h : AH) (k : IntKind) (x : AV) : Option (AV × AH) :=
  match x with
    | .int _ n => some (.int k (k.wrap n), h)
    | .sint _ m i c lo hi => if fitsK k lo hi then some (.sint k m i c lo hi, h) else none
    | .scol _ m r i j l lo hi => if fitsK k 0 (hiC m) then some (.scol k m r i j l lo hi, h) else none
    | .lin _ l c lo hi => if fitsK k lo hi then some (.lin k l c lo hi, h) else none
    | _ => none
def kFld (h : AH) (off : Nat) (n : Option Nat) (x : AV) : Option (AV × AH) :=
  match x with
    | .agg cs => match apart n cs off with
      | some v => some (v, h)
      | none => none
    | _ => none
def kFldA (h : AH) (off : Nat) (x : AV) : Option (AV × AH) :=
  match afldA off x with
    | some v => some (v, h)
    | none => none
def kIdxA (h : AH) (z : Nat) (x : AV) (i : AV) : Option (AV × AH) :=
  match aidxA z x (i) with
    | some v => some (v, h)
    | none => none
def kIdxArrA (h : AH) (len : Nat) (z : Nat) (x : AV) (i : AV) : Option (AV × AH) :=
  match aix len (i) with
    | some j => match afldA (j * z) x with
      | some v => some (v, h)
      | none => none
    | none => none
def kIdx (h : AH) (len : Nat) (z : Nat) (n : Option Nat) (x : AV) (i : AV) : Option (AV × AH) :=
  match aix len (i), x with
    | some j, .agg cs => match apart n cs (j * z) with
      | some v => some (v, h)
      | none => none
    | _, _ => none
def kIdxS (h : AH) (x : AV) (i : AV) : Option (AV × AH) :=
  match x with
    | .str s => match aix s.length (i) with
      | some j => match s[j]? with
        | some c => some (.int .u8 c.toNat, h)
        | none => none
      | none => none
    | _ => none
def kSl (h : AH) (z : Nat) (x : AV) (lo : Option AV) (hi : Option AV) (mx : Option AV) : Option (AV × AH) :=
  match aslice z x (lo) (hi) (mx) with
    | some v => some (v, h)
    | none => none
def kSlS (h : AH) (x : AV) (lo : Option AV) (hi : Option AV) : Option (AV × AH) :=
  match x with
    | .str s => match asliceS s (lo) (hi) with
      | some r => some (.str r, h)
      | none => none
    | _ => none
def kLen (h : AH) (x : AV) : Option (AV × AH) :=
  match alen x with
    | some n => some (.int .i64 n, h)
    | none => none
def kLenS (h : AH) (x : AV) : Option (AV × AH) :=
  match x with
    | .str s => some (.int .i64 s.length, h)
    | _ => none
def kConvS (h : AH) (x : AV) : Option (AV × AH) :=
  match x with
    | .str s => some (.str s, h)
    | _ => none
def kLenc (h : AH) (n : Nat) : Option (AV × AH) :=
  some (.int .i64 n, h)
def kApp (h : AH) (z : Nat) (bytes : Nat) (s : AV) (x : AV) : Option (AV × AH) :=
  aapp h z bytes (s) x
def kCopy (h : AH) (z : Nat) (d : AV) (s : AV) : Option (AV × AH) :=
  acopy h z (d) (s)
def smm (mx : Bool) (x y : AV) : Option AV :=
  match rngI x, rngI y with
  | some (k, l1, h1), some (k', l2, h2) =>
    if k = k' then
      (if mx then (if h2 ≤ l1 then some x else if h1 ≤ l2 then some y else none) else (if h1 ≤ l2 then some x else if h2 ≤ l1 then some y else none))
    else none
  | _, _ => none
def kMnmx (h : AH) (mx : Bool) (x : AV) (y : AV) : Option (AV × AH) :=
  match x, y with
    | .int k a, .int _ b => some (.int k (if mx then (if a < b then b else a) else (if b < a then b else a)), h)
    | x, y => match smm mx x y with
      | some v => some (v, h)
      | none => none
def kExt (h : AH) (x : AV) (i : Nat) : Option (AV × AH) :=
  match x with
    | .tup vs => match vs[i]? with
      | some v => some (v, h)
      | none => none
    | _ => none
def kMkf (h : AH) (fn : Fn) (first : List AV) (captured : List AV) : Option (AV × AH) :=
  some (.func fn (first) (captured), h)
def kMksl (h : AH) (z : Nat) (bytes : Nat) (zero : List AV) (l : AV) (c : AV) : Option (AV × AH) :=
  match l, c with
    | .int .i64 n, .int .i64 m =>
      if 0 ≤ n ∧ n ≤ m ∧ m ≤ 9223372036854775807 then
        if m.toNat * bytes ≤ 140737488355328 then some (.rsl h.nx 0 n.toNat z, h.add (.cells (repl m.toNat zero))) else none
      else none
    | _, _ => none
def kCall (cl : Handler) (h : AH) (f : AV) (args : List AV) : Option (AV × AH) :=
  match f with
    | .func (.func g) first captured => cl g (first ++ args ++ captured) h
    | _ => none

def asc (s : List UInt8) : Bool := s.all (fun b => Nat.blt b.toNat 128)
def ascI : List AV → Option (List UInt8)
  | [] => some []
  | .int .i32 n :: r => if 0 ≤ n ∧ n < 128 then (match ascI r with | some l => some (UInt8.ofNat n.toNat :: l) | none => none) else none
  | _ => none
def bytesI : List AV → Option (List UInt8)
  | [] => some []
  | .int .u8 n :: r => (match bytesI r with | some l => some (UInt8.ofNat n.toNat :: l) | none => none)
  | _ => none
def runesOf : List UInt8 → List AV
  | [] => []
  | b :: r => .int .i32 b.toNat :: runesOf r
/-- the runes of a text -/
def runesGo : Nat → List UInt8 → List Int
  | 0, _ => []
  | _ + 1, [] => []
  | n + 1, b :: l => ((Utf8.decode ⟨(b :: l).toArray⟩ 0).1 : Int) :: runesGo n ((b :: l).drop (Utf8.decode ⟨(b :: l).toArray⟩ 0).2)
def runesN (l : List UInt8) : List Int := runesGo l.length l
def i32V (n : Int) : AV := .int .i32 n
def i32s : List AV → Option (List Int)
  | [] => some []
  | .int .i32 n :: r => (match i32s r with | some l => some (n :: l) | none => none)
  | _ => none
def encR (n : Int) : List UInt8 := (Utf8.encode n).data.toList
def encAll (ns : List Int) : List UInt8 := ns.flatMap encR
def keyS : SK → AV → Bool
  | .bool, .bool _ => true
  | .int k, .int k' _ => decide (k' = k)
  | .int k, .lin k' _ _ _ _ => decide (k' = k)
  | .str, .str _ => true
  | _, _ => false
def keysS : List SK → List AV → Bool
  | [], [] => true
  | k :: ks, a :: as => keyS k a && keysS ks as
  | _, _ => false
def keyOf : MK → AV → Bool
  | .one k, a => keyS k a
  | .st ks, .agg cs => keysS ks cs
  | .st _, _ => false
def keqS : AV → AV → Bool
  | .bool a, .bool b => a == b
  | .int _ a, .int _ b => a == b
  | .lin _ _ _ _ _, .lin _ _ _ _ _ => true
  | .str a, .str b => a == b
  | _, _ => false
/-- whether it is known if they are equal -/
def kdS : AV → AV → Bool
  | .lin _ l c _ _, .lin _ l' c' _ _ => linEq l l' && (c == c')
  | .lin _ _ _ _ _, _ => false
  | _, .lin _ _ _ _ _ => false
  | _, _ => true
def kdL : List AV → List AV → Bool
  | a :: as, b :: bs => kdS a b && kdL as bs
  | _, _ => true
def kd : AV → AV → Bool
  | .agg as, .agg bs => kdL as bs
  | a, b => kdS a b
def keqL : List AV → List AV → Bool
  | [], [] => true
  | a :: as, b :: bs => keqS a b && keqL as bs
  | _, _ => false
def keq : AV → AV → Bool
  | .agg as, .agg bs => keqL as bs
  | a, b => keqS a b
/-- where a key stands among the entries, and what is there -/
def kfind (k : MK) (key : AV) : List (AV × AV) → Nat → Option (Option (Nat × AV))
  | [], _ => some none
  | e :: es, i => if keyOf k e.1 && kd key e.1 then (if keq key e.1 then some (some (i, e.2)) else kfind k key es (i + 1)) else none
def amap (h : AH) : AV → Option (List (AV × AV))
  | .nilmap => some []
  | .mapv id => h.mapAt id
  | _ => none
def kX (h : AH) : XK → List AV → Option (AV × AH)
  | .s2r, [.str s] => if asc s && Nat.ble s.length 1000000 then some (.rsl h.nx 0 s.length 1, h.add (.cells (runesOf s)))
    else if Nat.ble s.length 1000000 then some (.rsl h.nx 0 (runesN s).length 1, h.add (.cells ((runesN s).map i32V))) else none
  | .r2s, [x] => match acells h 1 x, alen x with
    | some cs, some _ => match ascI cs with
      | some s => some (.str s, h)
      | none => match i32s cs with
        | some ns => some (.str (encAll ns), h)
        | none => none
    | _, _ => none
  | .i2s, [.int _ n] => some (.str (encR n), h)
  | .s2b, [.str s] => if Nat.ble s.length 1000000 then some (.psl (s.map fun c => [.int .u8 c.toNat]), h) else none
  | .mkif t, [x] => some (.iface t x, h)
  | .b2s, [x] => match acells h 1 x, alen x with
    | some cs, some _ => match bytesI cs with
      | some s => some (.str s, h)
      | none => none
    | _, _ => none
  | .mkmap, [] => some (.mapv h.nx, h.add (.map []))
  | .eqif neg, [.nilif] => some (.bool (!neg), h)
  | .eqif neg, [.iface _ _] => some (.bool neg, h)
  | .newT t z, [] => some (.ptr h.nx 0, h.add (.typ (2 * t + 1) z))
  | .mkmap, [.int _ _] => some (.mapv h.nx, h.add (.map []))
  | .mapset k, [.mapv id, key, x] => if keyOf k key then (match h.mapAt id with
    | some kvs => match kfind k key kvs 0 with
      | some (some r) => some (.undef, h.set id (.map (kvs.set r.1 (key, x))))
      | some none => some (.undef, h.set id (.map (kvs ++ [(key, x)])))
      | none => none
    | none => none) else none
  | .mapget k ok zero, [m, key] => if keyOf k key then (match amap h m with
    | some kvs => match kfind k key kvs 0 with
      | some (some r) => some (if ok then .tup [r.2, .bool true] else r.2, h)
      | some none => some (if ok then .tup [zero, .bool false] else zero, h)
      | none => none
    | none => none) else none
  | .mapent k zero, [.mapv id, key] => if keyOf k key then (match h.mapAt id with
    | some kvs => match kfind k key kvs 0 with
      | some (some r) => some (.tup [r.2, .int .i64 r.1], h)
      | some none => some (.tup [zero, .int .i64 kvs.length], h.set id (.map (kvs ++ [(key, zero)])))
      | none => none
    | none => none) else none
  | .entst, [.mapv id, .int _ n, x] => match h.mapAt id with
    | some kvs => if 0 ≤ n then (match kvs[n.toNat]? with
      | some e => some (.undef, h.set id (.map (kvs.set n.toNat (e.1, x))))
      | none => none) else none
    | none => none
  | .maplen, [m] => match amap h m with
    | some kvs => some (.int .i64 kvs.length, h)
    | none => none
  | .capz, [.nilsl] => some (.int .i64 0, h)
  | .appz z bytes zero, [.nilsl, .int .i64 n] => if 0 < n then (if roomy n.toNat bytes then some (.rsl h.nx 0 n.toNat z, h.add (.cells (repl n.toNat zero))) else none) else none
  | .slpa n z, [.ptr id off] => match h.cellsAt id with
    | some cs => if Nat.ble (off + n * z) cs.length && Nat.ble n 4611686018427387904 then some (.rsl id off n z, h) else none
    | none => none
  | _, _ => none

def aop (cl : Handler) (T : Tm) (h : AH) : AOp → Option (AV × AH)
  | .mov x => kMov h (x.ev T)
  | .pick c a b => kPick h (c.ev T) (a.ev T) (b.ev T)
  | .new zero => kNew h zero
  | .box x => kBox h (x.ev T)
  | .build zero parts => kBuild h zero (evP T parts)
  | .buildSl z len zero parts => kBuildSl h z len zero (evP T parts)
  | .ld1 a => kLd1 h (a.ev T)
  | .ldn n a => kLdn h n (a.ev T)
  | .st n a x => kSt h n (a.ev T) (x.ev T)
  | .nilchk x => kNilchk h (x.ev T)
  | .arith op x y => kArith h op (x.ev T) (y.ev T)
  | .eqs neg x y => kEqs h neg (x.ev T) (y.ev T)
  | .eqn k neg x y => kEqn h k neg (x.ev T) (y.ev T)
  | .eqf neg ks x y => kEqf h neg ks (x.ev T) (y.ev T)
  | .un op x => kUn h op (x.ev T)
  | .convI k x => kConvI h k (x.ev T)
  | .fld off n x => kFld h off n (x.ev T)
  | .fldA off x => kFldA h off (x.ev T)
  | .idxA z x i => kIdxA h z (x.ev T) (i.ev T)
  | .idxArrA len z x i => kIdxArrA h len z (x.ev T) (i.ev T)
  | .idx len z n x i => kIdx h len z n (x.ev T) (i.ev T)
  | .idxS x i => kIdxS h (x.ev T) (i.ev T)
  | .sl z x lo hi mx => kSl h z (x.ev T) (lo.map (·.ev T)) (hi.map (·.ev T)) (mx.map (·.ev T))
  | .slS x lo hi => kSlS h (x.ev T) (lo.map (·.ev T)) (hi.map (·.ev T))
  | .len x => kLen h (x.ev T)
  | .lenS x => kLenS h (x.ev T)
  | .convS x => kConvS h (x.ev T)
  | .lenc n => kLenc h n
  | .app z bytes s x => kApp h z bytes (s.ev T) (x.ev T)
  | .copy z d s => kCopy h z (d.ev T) (s.ev T)
  | .mnmx mx x y => kMnmx h mx (x.ev T) (y.ev T)
  | .ext x i => kExt h (x.ev T) i
  | .mkf fn first captured => kMkf h fn (first.map (·.ev T)) (captured.map (·.ev T))
  | .mksl z bytes zero l c => kMksl h z bytes zero (l.ev T) (c.ev T)
  | .call f args => kCall cl h (f.ev T) (args.map (·.ev T))
  | .xo k args => kX h k (args.map (·.ev T))
  | .stuck => none

end Go.Eng
end
noncomputable section
namespace Go.Eng
abbrev LL (own : Nat → Prop) (β : Bl) (H : Hp) : Nat → Prop := fun b => own b ∨ live β H b

theorem OR.later {hp : Array Obj} {L : Nat → Prop} {β : Bl} {hp' : Array Obj} {L' : Nat → Prop} {β' : Bl} (hl : Later hp L β hp' L' β') {b base : Nat} {o : AObj} (hb : hp'[b]? = hp[b]?) (h : OR hp L β b base o) : OR hp' L' β' b base o := by
  cases o with
  | cells cs =>
    obtain ⟨cur, e, h1, h2, h4⟩ := h
    exact ⟨cur, e, hb.trans h1, h2, fun i c v hc hv => (h4 i c v hc hv).later hl⟩
  | map kvs =>
    obtain ⟨h0, es, h1, h2, h3⟩ := h
    exact ⟨h0, es, hb.trans h1, h2, fun i kv e hk he => by
      obtain ⟨a1, a2, a3⟩ := h3 i kv e hk he
      exact ⟨a1.later hl, a2.later hl, a3⟩⟩
  | siter s pos => exact ⟨h.1, hb.trans h.2⟩
  | typ t cs =>
    obtain ⟨h0, cur, h1, h2, h4⟩ := h
    exact ⟨h0, cur, hb.trans h1, h2, fun i c v hc hv => (h4 i c v hc hv).later hl⟩
  | glob g cs =>
    obtain ⟨h0, h5, cur, e, fz, h1, h2, h4⟩ := h
    exact ⟨h0, h5, cur, e, fz, hb.trans h1, h2, fun i c v hc hv => (h4 i c v hc hv).later hl⟩

section
variable {own : Nat → Prop} {β : Bl} {H : Hp} {nx : Nat} {w w' : World}
theorem SimH.dead (hs : SimH own β H nx w) {id : Nat} (h : nx ≤ id) : H.get id = none := by
  cases hg : H.get id with
  | none => rfl
  | some o => obtain ⟨b, base, hb, _⟩ := hs.obj id o hg; rw [hs.fresh id h] at hb; cases hb

def upd (β : Bl) (id b base : Nat) : Bl := fun j => if j = id then some (b, base) else β j

theorem upd_same (β : Bl) (id b base : Nat) : upd β id b base id = some (b, base) := by simp [upd]
theorem upd_ne (β : Bl) {id j : Nat} (b base : Nat) (h : j ≠ id) : upd β id b base j = β j := by simp [upd, h]

/-- A new object in a new block, under a number that is free. -/
theorem SimH.newObj (hs : SimH own β H nx w) (r : Nat) (hnone : β r = none) (o : AObj) (ob : Obj) (hh : w'.heap = w.heap.push ob) (h1 : w'.os = w.os) (h2 : w'.tape = w.tape) (h3 : w'.output = w.output)
    (ho : ∀ hp' L' β', Later w.heap (LL own β H) β hp' L' β' → hp'[w.heap.size]? = some ob → OR hp' L' β' w.heap.size 0 o) :
    SimH own (upd β r w.heap.size 0) (H.put r o) (max nx (r + 1)) w' ∧ (nx ≤ r → Trans own β ⟨H, nx⟩ w (upd β r w.heap.size 0) ⟨H.put r o, max nx (r + 1)⟩ w') ∧ Trans own β ⟨H, 0⟩ w (upd β r w.heap.size 0) ⟨H.put r o, 0⟩ w' := by
  have hsz : w'.heap.size = w.heap.size + 1 := by rw [hh]; simp
  have hold : ∀ b, b < w.heap.size → w'.heap[b]? = w.heap[b]? := fun b hb => by rw [hh, Array.getElem?_push, if_neg (by omega)]
  have hlive : ∀ b, live (upd β r w.heap.size 0) (H.put r o) b → live β H b ∨ w.heap.size ≤ b := by
    rintro b ⟨id, o', base, hg, hb⟩
    by_cases hid : id = r
    · subst hid; rw [upd_same] at hb; cases hb; exact .inr (Nat.le_refl _)
    · rw [upd_ne _ _ _ hid] at hb; rw [PM.get_put_ne _ _ hid] at hg; exact .inl ⟨id, o', base, hg, hb⟩
  have ht0 : Trans own β ⟨H, 0⟩ w (upd β r w.heap.size 0) ⟨H.put r o, 0⟩ w' := by
    refine ⟨fun id x hx => ?_, fun id hid => absurd hid (Nat.not_lt_zero _), Nat.le_refl _, by omega, fun b hb _ => hold b hb, hlive, fun b cur e fz hc => ⟨cur, fz, by rw [hold b (lt_of_get hc)]; exact hc, rfl, fun _ => rfl⟩, h1, h2, h3⟩
    by_cases hid : id = r
    · subst hid; rw [hnone] at hx; cases hx
    · rw [upd_ne _ _ _ hid]; exact hx
  have ht : nx ≤ r → Trans own β ⟨H, nx⟩ w (upd β r w.heap.size 0) ⟨H.put r o, max nx (r + 1)⟩ w' := fun hr =>
    ⟨ht0.ext, fun id hid => upd_ne _ _ _ (by simp only at hid; omega), by simp only; omega, ht0.size, ht0.keep, ht0.live, ht0.shape, h1, h2, h3⟩
  refine ⟨⟨fun id hid => ?_, fun id b base hb => ?_, fun b hb => by have := hs.ownlt b hb; omega, fun id o' hg => ?_, fun id id' o1 o2 b x y hg hg' hb hb' => ?_⟩, ht, ht0⟩
  · rw [upd_ne _ _ _ (by omega)]; exact hs.fresh id (by omega)
  · by_cases hid : id = r
    · subst hid; rw [upd_same] at hb; cases hb; omega
    · rw [upd_ne _ _ _ hid] at hb; have := hs.lt id b base hb; omega
  · by_cases hid : id = r
    · subst hid
      rw [PM.get_put_same] at hg
      cases hg
      refine ⟨w.heap.size, 0, upd_same _ _ _ _, fun hown => by have := hs.ownlt _ hown; omega, ho _ _ _ ht0.later ?_⟩
      rw [hh]; simp
    · rw [PM.get_put_ne _ _ hid] at hg
      obtain ⟨b, base, hb, hno, hor⟩ := hs.obj id o' hg
      exact ⟨b, base, by rw [upd_ne _ _ _ hid]; exact hb, hno, hor.later ht0.later (hold b (hs.lt id b base hb))⟩
  · by_cases hid : id = r
    · subst hid
      rw [upd_same] at hb
      cases hb
      by_cases hid' : id' = id
      · exact hid'.symm
      · rw [upd_ne _ _ _ hid'] at hb'; have := hs.lt _ _ _ hb'; omega
    · rw [upd_ne _ _ _ hid] at hb
      rw [PM.get_put_ne _ _ hid] at hg
      by_cases hid' : id' = r
      · subst hid'; rw [upd_same] at hb'; cases hb'; have := hs.lt _ _ _ hb; omega
      · rw [upd_ne _ _ _ hid'] at hb'
        rw [PM.get_put_ne _ _ hid'] at hg'
        exact hs.inj id id' o1 o2 b x y hg hg' hb hb'

/-- A new row of cells. -/
theorem SimH.newCells (hs : SimH own β H nx w) (r : Nat) (hnone : β r = none) (cs : List AV) (cur : Array Value) (e : TypeId) (hh : w'.heap = w.heap.push (.cells cur e)) (h1 : w'.os = w.os) (h2 : w'.tape = w.tape) (h3 : w'.output = w.output)
    (hl : cs.length ≤ cur.size) (hr : ∀ (i : Nat) (c : AV) (v : Value), cs[i]? = some c → cur[i]? = some v → VR w.heap (LL own β H) β c v) :
    SimH own (upd β r w.heap.size 0) (H.put r (.cells cs)) (max nx (r + 1)) w' ∧ (nx ≤ r → Trans own β ⟨H, nx⟩ w (upd β r w.heap.size 0) ⟨H.put r (.cells cs), max nx (r + 1)⟩ w') ∧ Trans own β ⟨H, 0⟩ w (upd β r w.heap.size 0) ⟨H.put r (.cells cs), 0⟩ w' :=
  hs.newObj r hnone _ _ hh h1 h2 h3 fun hp' L' β' hl' hb => ⟨cur, e, hb, by omega, fun i c v hc hv => (hr i c v hc (by rwa [Nat.zero_add] at hv)).later hl'⟩

/-- A live block is written: the object there is another one, under the same number or a new one. -/
theorem SimH.writeAs (hs : SimH own β H nx w) {id b base : Nat} {o0 : AObj} (hg : H.get id = some o0) (hβ : β id = some (b, base)) (id' base' : Nat) (hid : id' = id ∧ base' = base ∨ id' = nx)
    (o : AObj) (hsz : w'.heap.size = w.heap.size) (hk : ∀ k, k ≠ b → w'.heap[k]? = w.heap[k]?) (hcells : ∀ (cur : Array Value) (e : TypeId) (fz : Nat × Nat), w.heap[b]? = some (.cells cur e fz) → ∃ cur' fz', w'.heap[b]? = some (.cells cur' e fz') ∧ cur'.size = cur.size ∧ fz' = fz)
    (h1 : w'.os = w.os) (h2 : w'.tape = w.tape) (h3 : w'.output = w.output)
    (ho : ∀ L' β', Later w.heap (LL own β H) β w'.heap L' β' → OR w'.heap L' β' b base' o) :
    SimH own (upd β id' b base') ((H.del id).put id' o) (if id' = nx then nx + 1 else nx) w' ∧ Trans own β ⟨H, nx⟩ w (upd β id' b base') ⟨(H.del id).put id' o, if id' = nx then nx + 1 else nx⟩ w' := by
  have hidlt : id < nx := by
    rcases Nat.lt_or_ge id nx with h | h
    · exact h
    · rw [hs.fresh id h] at hβ; cases hβ
  have hext : ∀ j x, β j = some x → upd β id' b base' j = some x := by
    intro j x hx
    by_cases hj : j = id'
    · subst hj
      rcases hid with ⟨h4, h5⟩ | h4
      · subst h4; subst h5; rw [upd_same]; rw [hβ] at hx; exact hx
      · rw [hs.fresh j (by omega)] at hx; cases hx
    · rw [upd_ne _ _ _ hj]; exact hx
  have hgets : ∀ j o', ((H.del id).put id' o).get j = some o' → (j = id' ∧ o' = o) ∨ (j ≠ id' ∧ j ≠ id ∧ H.get j = some o') := by
    intro j o' hj
    by_cases h4 : j = id'
    · subst h4; rw [PM.get_put_same] at hj; cases hj; exact .inl ⟨rfl, rfl⟩
    · rw [PM.get_put_ne _ _ h4] at hj
      by_cases h5 : j = id
      · subst h5; rw [PM.get_del_same] at hj; cases hj
      · rw [PM.get_del_ne _ h5] at hj; exact .inr ⟨h4, h5, hj⟩
  have hlive : ∀ k, live (upd β id' b base') ((H.del id).put id' o) k → live β H k ∨ w.heap.size ≤ k := by
    rintro k ⟨j, o', x, hj, hx⟩
    rcases hgets j o' hj with ⟨h4, _⟩ | ⟨h4, _, h6⟩
    · subst h4; rw [upd_same] at hx; cases hx; exact .inl ⟨id, o0, base, hg, hβ⟩
    · rw [upd_ne _ _ _ h4] at hx; exact .inl ⟨j, o', x, h6, hx⟩
  have hlow : ∀ j, j < nx → upd β id' b base' j = β j := by
    intro j hj
    by_cases h4 : j = id'
    · subst h4
      rcases hid with ⟨h5, h6⟩ | h5
      · subst h5; subst h6; rw [upd_same, hβ]
      · omega
    · exact upd_ne _ _ _ h4
  have ht : Trans own β ⟨H, nx⟩ w (upd β id' b base') ⟨(H.del id).put id' o, if id' = nx then nx + 1 else nx⟩ w' := by
    refine ⟨hext, hlow, by simp only; split <;> omega, by omega, fun k hk1 hn => ?_, hlive, fun k cur e fz hc => ?_, h1, h2, h3⟩
    · have hne : k ≠ b := fun h4 => by subst h4; exact hn ⟨id, o0, base, hg, hβ⟩
      exact hk k hne
    · by_cases hkb : k = b
      · subst hkb; obtain ⟨c, f, k1, k2, k3⟩ := hcells cur e fz hc; exact ⟨c, f, k1, k2, fun _ => k3⟩
      · exact ⟨cur, fz, by rw [hk k hkb]; exact hc, rfl, fun _ => rfl⟩
  have hno : ¬ own b := by
    obtain ⟨b', base2, hb', hn, _⟩ := hs.obj id o0 hg
    rw [hβ] at hb'; cases hb'; exact hn
  refine ⟨⟨fun j hj => ?_, fun j b2 x hx => ?_, fun k hk1 => by rw [hsz]; exact hs.ownlt k hk1, fun j o' hj => ?_, fun j j' o1 o2 k x y hj hj' hx hy => ?_⟩, ht⟩
  · have h4 : nx ≤ j ∧ j ≠ id' := by
      split at hj
      · omega
      · rcases hid with ⟨h4, _⟩ | h4
        · omega
        · omega
    rw [upd_ne _ _ _ h4.2]; exact hs.fresh j h4.1
  · rw [hsz]
    by_cases h4 : j = id'
    · subst h4; rw [upd_same] at hx; cases hx; exact hs.lt _ _ _ hβ
    · rw [upd_ne _ _ _ h4] at hx; exact hs.lt _ _ _ hx
  · rcases hgets j o' hj with ⟨h4, h5⟩ | ⟨h4, h5, h6⟩
    · subst h4; subst h5
      exact ⟨b, base', upd_same _ _ _ _, hno, ho _ _ ht.later⟩
    · obtain ⟨b2, x, hb2, hn2, hor⟩ := hs.obj j o' h6
      have hne : b2 ≠ b := fun h7 => by subst h7; exact h5 (hs.inj j id o' o0 b2 x base h6 hg hb2 hβ)
      exact ⟨b2, x, by rw [upd_ne _ _ _ h4]; exact hb2, hn2, hor.later ht.later (hk b2 hne)⟩
  · rcases hgets j o1 hj with ⟨h4, _⟩ | ⟨h4, h5, h6⟩
    · subst h4
      rw [upd_same] at hx; cases hx
      rcases hgets j' o2 hj' with ⟨h7, _⟩ | ⟨h7, h8, h9⟩
      · exact h7.symm
      · rw [upd_ne _ _ _ h7] at hy; exact absurd (hs.inj j' id o2 o0 b y base h9 hg hy hβ) h8
    · rw [upd_ne _ _ _ h4] at hx
      rcases hgets j' o2 hj' with ⟨h7, _⟩ | ⟨h7, h8, h9⟩
      · subst h7; rw [upd_same] at hy; cases hy; exact absurd (hs.inj j id o1 o0 b x base h6 hg hx hβ) h5
      · rw [upd_ne _ _ _ h7] at hy; exact hs.inj j j' o1 o2 k x y h6 h9 hx hy

theorem upd_self (β : Bl) {id b base : Nat} (h : β id = some (b, base)) : upd β id b base = β := by
  funext j; unfold upd; split
  · rename_i hj; subst hj; exact h.symm
  · rfl

/-- Two maps with the same entries. -/
theorem live_congr {β : Bl} {H H' : Hp} (h : ∀ j, H'.get j = H.get j) : live β H' = live β H := by
  funext b; unfold live; simp only [h]
theorem SimH.congr {H' : Hp} (hs : SimH own β H nx w) (h : ∀ j, H'.get j = H.get j) : SimH own β H' nx w := by
  refine ⟨hs.fresh, hs.lt, hs.ownlt, fun id o hg => ?_, fun id id' o o' b x y h1 h2 => hs.inj id id' o o' b x y (by rw [← h]; exact h1) (by rw [← h]; exact h2)⟩
  rw [h] at hg
  rw [live_congr h]
  exact hs.obj id o hg
theorem Trans.congr {β' : Bl} {H₁ H₂ H₁' H₂' : Hp} {n₁ n₂ : Nat} (ht : Trans own β ⟨H₁, n₁⟩ w β' ⟨H₂, n₂⟩ w') (h1 : ∀ j, H₁'.get j = H₁.get j) (h2 : ∀ j, H₂'.get j = H₂.get j) : Trans own β ⟨H₁', n₁⟩ w β' ⟨H₂', n₂⟩ w' := by
  refine ⟨ht.ext, ht.low, ht.up, ht.size, ?_, ?_, ?_, ht.os, ht.tape, ht.output⟩
  · simp only [live_congr h1]; exact ht.keep
  · simp only [live_congr h1, live_congr h2]; exact ht.live
  · simp only [live_congr h2]; exact ht.shape

/-- A live row of cells is written. -/
theorem SimH.writeCells (hs : SimH own β H nx w) {id b base : Nat} {cs cs' : List AV} {cur cur' : Array Value} {e : TypeId} (hg : H.get id = some (.cells cs)) (hβ : β id = some (b, base)) (hb : w.heap[b]? = some (.cells cur e (0, 0)))
    (hw : w' = w.setRow b cur') (hsz : cur'.size = cur.size) (hl : base + cs'.length ≤ cur.size) (hr : ∀ (i : Nat) (c : AV) (v : Value), cs'[i]? = some c → cur'[base + i]? = some v → VR w.heap (LL own β H) β c v) :
    SimH own β (H.put id (.cells cs')) nx w' ∧ Trans own β ⟨H, nx⟩ w β ⟨H.put id (.cells cs'), nx⟩ w' := by
  subst hw
  have hidne : id ≠ nx := fun h => by rw [hs.fresh id (by omega)] at hβ; cases hβ
  have hb' : (w.setRow b cur').heap[b]? = some (.cells cur' e (0, 0)) := setRow_heap w b cur cur' e _ hb
  have h := hs.writeAs (w' := w.setRow b cur') hg hβ id base (.inl ⟨rfl, rfl⟩) (.cells cs') (by simp) (fun k hk => setRow_other w b k cur' hk)
    (fun c1 e1 fz hc => by rw [hb] at hc; cases hc; exact ⟨cur', _, hb', hsz, rfl⟩) rfl rfl rfl
    (fun L' β' hl' => ⟨cur', e, hb', by omega, fun i c v hc hv => (hr i c v hc hv).later hl'⟩)
  rw [upd_self β hβ, if_neg hidne] at h
  have hc : ∀ j, (H.put id (.cells cs')).get j = ((H.del id).put id (.cells cs')).get j := by
    intro j
    by_cases hj : j = id
    · subst hj; rw [PM.get_put_same, PM.get_put_same]
    · rw [PM.get_put_ne _ _ hj, PM.get_put_ne _ _ hj, PM.get_del_ne _ hj]
  exact ⟨h.1.congr hc, h.2.congr (fun _ => rfl) hc⟩

/-- An object is forgotten. -/
theorem SimH.drop (hs : SimH own β H nx w) (id : Nat) : SimH own β (H.del id) nx w ∧ Trans own β ⟨H, nx⟩ w β ⟨H.del id, nx⟩ w := by
  have hgets : ∀ j o, (H.del id).get j = some o → H.get j = some o := by
    intro j o hj
    by_cases h : j = id
    · subst h; rw [PM.get_del_same] at hj; cases hj
    · rwa [PM.get_del_ne _ h] at hj
  have hlive : ∀ b, live β (H.del id) b → live β H b := fun b ⟨j, o, x, h1, h2⟩ => ⟨j, o, x, hgets j o h1, h2⟩
  have ht : Trans own β ⟨H, nx⟩ w β ⟨H.del id, nx⟩ w := ⟨fun _ _ h => h, fun _ _ => rfl, Nat.le_refl _, Nat.le_refl _, fun _ _ _ => rfl, fun b h => .inl (hlive b h), fun _ cur _ fz h => ⟨cur, fz, h, rfl, fun _ => rfl⟩, rfl, rfl, rfl⟩
  refine ⟨⟨hs.fresh, hs.lt, hs.ownlt, fun j o hj => ?_, fun j j' o o' b x y h1 h2 => hs.inj j j' o o' b x y (hgets _ _ h1) (hgets _ _ h2)⟩, ht⟩
  obtain ⟨b, base, h1, h2, h3⟩ := hs.obj j o (hgets j o hj)
  exact ⟨b, base, h1, h2, h3.later ht.later rfl⟩
end
end Go.Eng
end
