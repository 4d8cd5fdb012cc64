/- The abstract interpreter: regions that draw their order, code, functions. Definitions. A region that draws its order: the objects in parts. A region that draws its order: whatever the order, the end is the one of the text's order. A region that draws its order: the proof. -/
import Derived.Test.YtoibclpbkjbnbaaGreatEngK
set_option linter.unusedSimpArgs false
set_option linter.unusedVariables false
set_option linter.unnecessarySimpa false
noncomputable section
namespace Go.Eng
/-! ## regions that draw their order -/
def Opd.use : Opd → List Nat
  | .tmp t => [t]
  | .const _ => []
def usesO : Option Opd → List Nat
  | some x => x.use
  | none => []
def usesL : List Opd → List Nat
  | [] => []
  | x :: r => x.use ++ usesL r
def usesP : List (Nat × Nat × Opd) → List Nat
  | [] => []
  | (_, _, x) :: r => x.use ++ usesP r
/-- the slots that an operation looks at -/
def AOp.uses : AOp → List Nat
  | .mov x | .box x | .ld1 x | .ldn _ x | .nilchk x | .un _ x | .convI _ x | .fld _ _ x | .fldA _ x | .len x | .lenS x | .convS x | .ext x _ => x.use
  | .pick c a b => c.use ++ a.use ++ b.use
  | .new _ | .lenc _ => []
  | .build _ ps | .buildSl _ _ _ ps => usesP ps
  | .st _ x y | .arith _ x y | .eqs _ x y | .eqn _ _ x y | .eqf _ _ x y | .idxA _ x y | .idxArrA _ _ x y | .idx _ _ _ x y | .idxS x y | .app _ _ x y | .copy _ x y | .mnmx _ x y | .mksl _ _ _ x y => x.use ++ y.use
  | .sl _ x lo hi mx => x.use ++ usesO lo ++ usesO hi ++ usesO mx
  | .slS x lo hi => x.use ++ usesO lo ++ usesO hi
  | .mkf _ f c => usesL f ++ usesL c
  | .call f as => f.use ++ usesL as
  | .xo _ as => usesL as
  | .stuck => []
def AOpr.uses (o : AOpr) : List Nat :=
  match o.guard with
  | some (t, _) => t :: o.op.uses
  | none => o.op.uses

def xE : XK → Bool
  | .mapget _ _ _ | .maplen => false
  | _ => true
/-- operations with an effect on objects -/
def aE : AOp → Bool
  | .st _ _ _ | .app _ _ _ _ | .copy _ _ _ | .call _ _ => true
  | .xo k _ => xE k
  | _ => false
def xRd : XK → List AV → Option Nat
  | .mapget _ _ _, .mapv id :: _ => some id
  | .maplen, .mapv id :: _ => some id
  | _, _ => none
/-- the object that is read -/
def aRd (T : Tm) : AOp → Option Nat
  | .ld1 a | .ldn _ a => match a.ev T with
    | .ptr id _ => some id
    | .gptr g _ => some g
    | _ => none
  | .xo k as => xRd k (as.map (·.ev T))
  | _ => none

/-- What an operation of the region did, in the order of the text. -/
inductive Rec where
  | pure
  | read (x : Nat)
  | alloc (r : Nat) (cs : List AV)
  | eff (V C : AH)

structure DStep where
  T : Tm
  h : AH
  v : AV
  k : Rec

def DStep.h' (s : DStep) : AH :=
  match s.k with
  | .pure | .read _ => s.h
  | .alloc r cs => ⟨s.h.H.put r (.cells cs), s.h.nx⟩
  | .eff _ C => C

def dstep (cl : Handler) (o : AOpr) (r : Nat) (T : Tm) (h : AH) : Option DStep :=
  match gd T o.guard with
  | some false => some ⟨T, h, skipped, .pure⟩
  | some true =>
    if aA o.op then match aalloc T o.op with
      | some (cs, mk) => some ⟨T, h, mk r, .alloc r cs⟩
      | none => none
    else match aop cl T h o.op with
      | some (v, h') =>
        if aE o.op then (if Nat.ble h.nx h'.nx then some ⟨T, h, v, .eff h h'⟩ else none)
        else match aRd T o.op with
          | some x => some ⟨T, h, v, .read x⟩
          | none => some ⟨T, h, v, .pure⟩
      | none => none
  | none => none

/-- every operation has a number of its own for what it may make -/
def drun (cl : Handler) : List AOpr → Nat → Tm → AH → Option (List DStep × Tm × AH)
  | [], _, T, h => some ([], T, h)
  | o :: l, r, T, h => match dstep cl o r T h with
    | some s => match drun cl l (r + 1) (tput T o.dst s.v) s.h' with
      | some (ss, T', h') => some (s :: ss, T', h')
      | none => none
    | none => none

mutual
def AV.beq : AV → AV → Bool
  | .undef, .undef => true
  | .bool a, .bool b => a == b
  | .int k a, .int l b => decide (k = l) && a == b
  | .str a, .str b => a == b
  | .agg a, .agg b => AV.beqL a b
  | .tup a, .tup b => AV.beqL a b
  | .ptr a b, .ptr c d => a == c && b == d
  | .nilptr, .nilptr => true
  | .pptr a, .pptr b => AV.beqL a b
  | .gptr a b, .gptr c d => a == c && b == d
  | .nilsl, .nilsl => true
  | .esl, .esl => true
  | .psl a, .psl b => AV.beqLL a b
  | .rsl a b c d, .rsl e f g i => a == e && b == f && c == g && d == i
  | .mapv a, .mapv b => a == b
  | .nilmap, .nilmap => true
  | .func f a b, .func g c d => decide (f = g) && AV.beqL a c && AV.beqL b d
  | .nilfunc, .nilfunc => true
  | .nilif, .nilif => true
  | .iface t a, .iface u b => t == u && AV.beq a b
  | .scol k m r i j l lo hi, .scol k' m' r' i' j' l' lo' hi' => decide (k = k') && m == m' && r == r' && i == i' && j == j' && l == l' && lo == lo' && hi == hi'
  | .sint k m i c lo hi, .sint k' m' i' c' lo' hi' => decide (k = k') && m == m' && i == i' && c == c' && lo == lo' && hi == hi'
  | _, _ => false
def AV.beqL : List AV → List AV → Bool
  | [], [] => true
  | a :: as, b :: bs => AV.beq a b && AV.beqL as bs
  | _, _ => false
def AV.beqLL : List (List AV) → List (List AV) → Bool
  | [], [] => true
  | a :: as, b :: bs => AV.beqL a b && AV.beqLL as bs
  | _, _ => false
end
def beqKV : List (AV × AV) → List (AV × AV) → Bool
  | [], [] => true
  | (a, b) :: r, (c, d) :: s => AV.beq a c && AV.beq b d && beqKV r s
  | _, _ => false
def obEq : Option AObj → Option AObj → Bool
  | none, none => true
  | some (.cells a), some (.cells b) => AV.beqL a b
  | some (.map a), some (.map b) => beqKV a b
  | some (.siter s p), some (.siter t q) => s.data.toList == t.data.toList && p == q
  | some (.glob g a), some (.glob k b) => g == k && AV.beqL a b
  | _, _ => false

def memN (t : Nat) : List Nat → Bool
  | [] => false
  | x :: r => Nat.beq t x || memN t r
def apartD (d : Option Nat) (l : List Nat) : Bool :=
  match d with
  | some t => !memN t l
  | none => true
def tmpOk (x y : AOpr) : Bool :=
  apartD x.dst y.uses && apartD y.dst x.uses && (match x.dst, y.dst with | some a, some b => !Nat.beq a b | _, _ => true)
/-- may two operations, the first of them ahead in the text, be carried out in either order? -/
def recOk : Rec → Rec → Bool
  | .eff _ _, .eff _ _ => false
  | .alloc _ _, .eff _ _ => false
  | .alloc r _, .read x => !Nat.beq r x
  | .read x, .alloc r _ => !Nat.beq r x
  | .read x, .eff V C => obEq (V.H.get x) (C.H.get x)
  | .eff V C, .read x => obEq (V.H.get x) (C.H.get x)
  | _, _ => true
/-- the later operation j (bits: what is ordered ahead of it) against those ahead of it -/
def rowOk (o : AOpr) (bits : Nat) (s : DStep) : Nat → List (AOpr × DStep) → Bool
  | _, [] => true
  | i, (p, q) :: r => (Nat.testBit bits i || (tmpOk p o && recOk q.k s.k)) && rowOk o bits s (i + 1) r
def pairsOk : List (AOpr × Nat) → List DStep → List (AOpr × DStep) → Bool
  | [], _, _ => true
  | (o, bits) :: l, s :: ss, acc => rowOk o bits s 0 acc && pairsOk l ss (acc ++ [(o, s)])
  | _ :: _, [], _ => false

def adraw (cl : Handler) (ops : List (AOpr × Nat)) (T : Tm) (h : AH) : Option (Tm × AH) :=
  match drun cl (ops.map (·.1)) h.nx T ⟨h.H, h.nx + ops.length⟩ with
  | some (ss, T', h') => if pairsOk ops ss [] then some (T', h') else none
  | none => none

/-! ## code -/
inductive ACode where
  | skip
  | reg (ops : List AOpr)
  | draw (ops : List (AOpr × Nat))
  | seq (a b : ACode)
  | cond (c : Opd) (t e : ACode)
  | block (id : Nat) (b : ACode)
  | loop (b : ACode)
  | exit (id : Nat)
  | ret
  | stuck
  | rng (g : Opd) (ps : List Nat) (a b : ACode)
  deriving Inhabited

inductive AX where
  | nrm
  | exit (id : Nat)
  | ret
  deriving DecidableEq

abbrev ARun := Tm → AH → Option (AX × Tm × AH)

def aiter (f : ARun) : Nat → ARun
  | 0, _, _ => none
  | n + 1, T, h => match f T h with
    | some (.nrm, T', h') => aiter f n T' h'
    | r => r

def aexec (cl : Handler) (N : Nat) : ACode → ARun
  | .skip => fun T h => some (.nrm, T, h)
  | .reg ops => fun T h => match aops cl ops T h with
    | some (T', h') => some (.nrm, T', h')
    | none => none
  | .draw ops => fun T h => match adraw cl ops T h with
    | some (T', h') => some (.nrm, T', h')
    | none => none
  | .seq a b => fun T h => match aexec cl N a T h with
    | some (.nrm, T', h') => aexec cl N b T' h'
    | r => r
  | .cond c t e => fun T h => match c.ev T with
    | .bool true => aexec cl N t T h
    | .bool false => aexec cl N e T h
    | _ => none
  | .block id b => fun T h => match aexec cl N b T h with
    | some (.exit j, T', h') => if j = id then some (.nrm, T', h') else some (.exit j, T', h')
    | r => r
  | .loop b => fun T h => aiter (aexec cl N b) N T h
  | .exit id => fun T h => some (.exit id, T, h)
  | .ret => fun T h => some (.ret, T, h)
  | .stuck => fun _ _ => none
  | .rng _ _ _ _ => fun _ _ => none

/-- every edge leads to an operation ahead -/
def edgesFrom (i : Nat) : List Oper → Bool
  | [] => true
  | o :: r => o.after.all (fun e => !Region.binds .any e || Nat.blt e.on i) && edgesFrom (i + 1) r
def edgesOk (ops : Array Oper) : Bool := edgesFrom 0 ops.toList

def cCode (P : Program) (nt : Nat) : Code → Option ACode
  | .skip => some .skip
  | .label _ => some .skip
  | .region _ ops draw =>
    match cOprs P nt ops ops.toList with
    | some l => if draw then (if P.follows .mixedOrders && edgesOk ops then some (.draw (l.zip (Region.before ops).toList)) else none) else some (.reg l)
    | none => none
  | .seq a b => match cCode P nt a, cCode P nt b with
    | some x, some y => some (.seq x y)
    | _, _ => none
  | .cond c a b => match cOpd c, cCode P nt a, cCode P nt b with
    | some c', some x, some y => some (.cond c' x y)
    | _, _, _ => none
  | .block id a => match cCode P nt a with
    | some x => some (.block id x)
    | none => none
  | .loop a => match cCode P nt a with
    | some x => some (.loop x)
    | none => none
  | .exit id => some (.exit id)
  | .ret => some .ret
  | .rangeFunc g ps a b => match cOpd g, cCode P nt a, cCode P nt b with
    | some g', some x, some y => if ps.toList.all (fun p => Nat.blt p nt) then some (.rng g' ps.toList x y) else none
    | _, _, _ => none
  | _ => some .stuck

/-! ## functions -/
inductive ARes where
  | tmp (t : Nat)
  | cell (t : Nat) (n : Option Nat)

structure AFn where
  nt : Nat
  res : List ARes
  body : ACode

def cRes (P : Program) : List ResultVar → Option (List ARes)
  | [] => some []
  | .tmp t :: r => match cRes P r with
    | some l => some (.tmp t :: l)
    | none => none
  | .cell t ty :: r => match aggOf P ty, cRes P r with
    | some n, some l => some (.cell t n :: l)
    | _, _ => none
def cFn (P : Program) (fn : Func) : Option AFn :=
  match fn.body with
  | some c => match cCode P fn.ntmps c, cRes P fn.results.toList with
    | some b, some r => some ⟨fn.ntmps, r, b⟩
    | _, _ => none
  | none => none

def ares (T : Tm) (h : AH) : List ARes → Option (List AV)
  | [] => some []
  | .tmp t :: r => match ares T h r with
    | some l => some ((T.get t).getD .undef :: l)
    | none => none
  | .cell t n :: r =>
    match (match n with
      | none => aload1 h ((T.get t).getD .undef)
      | some n => (aloadn h n ((T.get t).getD .undef)).map .agg), ares T h r with
    | some v, some l => some (v :: l)
    | _, _ => none
def aret : List AV → AV
  | [v] => v
  | vs => .tup vs
def initT : List AV → Nat → Tm → Tm
  | [], _, T => T
  | v :: r, i, T => initT r (i + 1) (T.put i v)

end Go.Eng
end
noncomputable section
namespace Go.Eng
abbrev HF := Nat → Option AObj
def liveF (β : Bl) (G : HF) (b : Nat) : Prop := ∃ id o base, G id = some o ∧ β id = some (b, base)
abbrev LF (own : Nat → Prop) (β : Bl) (G : HF) : Nat → Prop := fun b => own b ∨ liveF β G b

structure SimF (own : Nat → Prop) (β : Bl) (G : HF) (nx : Nat) (w : World) : Prop where
  fresh : ∀ id, nx ≤ id → β id = none
  lt : ∀ id b base, β id = some (b, base) → b < w.heap.size
  ownlt : ∀ b, own b → b < w.heap.size
  obj : ∀ id o, G id = some o → ∃ b base, β id = some (b, base) ∧ ¬ own b ∧ OR w.heap (LF own β G) β b base o
  inj : ∀ id id' o o' b x y, G id = some o → G id' = some o' → β id = some (b, x) → β id' = some (b, y) → id = id'

structure TransF (β : Bl) (G : HF) (w : World) (β' : Bl) (G' : HF) (w' : World) : Prop where
  ext : ∀ id x, β id = some x → β' id = some x
  size : w.heap.size ≤ w'.heap.size
  keep : ∀ b, b < w.heap.size → ¬ liveF β G b → w'.heap[b]? = w.heap[b]?
  live : ∀ b, liveF β' G' b → liveF β G b ∨ w.heap.size ≤ b
  shape : ∀ (b : Nat) (cur : Array Value) (e : TypeId) (fz : Nat × Nat), w.heap[b]? = some (.cells cur e fz) → ∃ cur', w'.heap[b]? = some (.cells cur' e fz) ∧ cur'.size = cur.size
  os : w'.os = w.os
  tape : w'.tape = w.tape
  output : w'.output = w.output

theorem TransF.refl (β : Bl) (G : HF) (w : World) : TransF β G w β G w :=
  ⟨fun _ _ h => h, Nat.le_refl _, fun _ _ _ => rfl, fun _ h => .inl h, fun _ cur _ _ h => ⟨cur, h, rfl⟩, rfl, rfl, rfl⟩
theorem TransF.trans {β₁ β₂ β₃ : Bl} {h₁ h₂ h₃ : HF} {w₁ w₂ w₃ : World} (h : TransF β₁ h₁ w₁ β₂ h₂ w₂) (k : TransF β₂ h₂ w₂ β₃ h₃ w₃) : TransF β₁ h₁ w₁ β₃ h₃ w₃ := by
  refine ⟨fun id x hx => k.ext _ _ (h.ext _ _ hx), Nat.le_trans h.size k.size, fun b hb hn => ?_, fun b hb => ?_, fun b cur e fz hc => ?_, k.os.trans h.os, k.tape.trans h.tape, k.output.trans h.output⟩
  · rw [k.keep b (Nat.lt_of_lt_of_le hb h.size) (fun hl => ?_)]
    · exact h.keep b hb hn
    · rcases h.live b hl with h1 | h1
      · exact hn h1
      · omega
  · rcases k.live b hb with h1 | h1
    · exact h.live b h1
    · exact .inr (Nat.le_trans h.size h1)
  · obtain ⟨c1, h1, h2⟩ := h.shape _ _ _ _ hc
    obtain ⟨c2, h3, h4⟩ := k.shape _ _ _ _ h1
    exact ⟨c2, h3, h4.trans h2⟩
theorem TransF.later {own : Nat → Prop} {β β' : Bl} {G G' : HF} {w w' : World} (ht : TransF β G w β' G' w') : Later w.heap (LF own β G) β w'.heap (LF own β' G') β' :=
  ⟨ht.ext, fun b hb hn => ⟨fun hl => hl.elim (fun h1 => hn (.inl h1)) (fun h1 => (ht.live b h1).elim (fun h2 => hn (.inr h2)) (fun h2 => by omega)), ht.keep b hb (fun hl => hn (.inr hl))⟩, ht.shape⟩

/-- blocks of objects that are no part of V -/
def restOwn (own : Nat → Prop) (β : Bl) (G : HF) (V : Hp) : Nat → Prop := fun b => own b ∨ ∃ id o base, G id = some o ∧ V.get id = none ∧ β id = some (b, base)

section
variable {own : Nat → Prop} {β : Bl} {G : HF} {nx : Nat} {w w' : World} {V V' : Hp}
theorem restOwn_iff (hV : ∀ id o, V.get id = some o → G id = some o) (b : Nat) : LL (restOwn own β G V) β V b ↔ LF own β G b := by
  constructor
  · rintro ((h | ⟨id, o, base, h1, _, h3⟩) | ⟨id, o, base, h1, h2⟩)
    · exact .inl h
    · exact .inr ⟨id, o, base, h1, h3⟩
    · exact .inr ⟨id, o, base, hV id o h1, h2⟩
  · rintro (h | ⟨id, o, base, h1, h2⟩)
    · exact .inl (.inl h)
    · cases hv : V.get id with
      | none => exact .inl (.inr ⟨id, o, base, h1, hv, h2⟩)
      | some o' => exact .inr ⟨id, o', base, hv, h2⟩
theorem restOwn_eq (hV : ∀ id o, V.get id = some o → G id = some o) : LL (restOwn own β G V) β V = LF own β G := funext fun b => propext (restOwn_iff hV b)

/-- A part of the objects by itself; all others count as another's. -/
theorem SimF.split (hs : SimF own β G nx w) (hV : ∀ id o, V.get id = some o → G id = some o) : SimH (restOwn own β G V) β V nx w := by
  refine ⟨hs.fresh, hs.lt, ?_, fun id o hg => ?_, fun id id' o o' b x y h1 h2 => hs.inj id id' o o' b x y (hV _ _ h1) (hV _ _ h2)⟩
  · rintro b (h | ⟨id, o, base, h1, _, h3⟩)
    · exact hs.ownlt b h
    · exact hs.lt id b base h3
  · obtain ⟨b, base, h1, h2, h3⟩ := hs.obj id o (hV id o hg)
    refine ⟨b, base, h1, ?_, ?_⟩
    · rintro (h | ⟨id', o', base', k1, k2, k3⟩)
      · exact h2 h
      · have := hs.inj id id' o o' b base base' (hV id o hg) k1 h1 k3
        subst this
        rw [hg] at k2; cases k2
    · have := restOwn_eq (own := own) (β := β) hV
      rw [show (fun b => restOwn own β G V b ∨ live β V b) = LF own β G from this]
      exact h3

/-- the objects after a step of a part of them -/
def glue (G : HF) (V V' : Hp) : HF := fun x => match V'.get x with
  | some o => some o
  | none => match V.get x with
    | none => G x
    | some _ => none

theorem SimF.glue {β' : Bl} {nx' : Nat} {n n' : Nat} (hs : SimF own β G nx w) (hV : ∀ id o, V.get id = some o → G id = some o) (h' : SimH (restOwn own β G V) β' V' nx' w') (ht : Trans (restOwn own β G V) β ⟨V, n⟩ w β' ⟨V', n'⟩ w') :
    SimF own β' (Eng.glue G V V') nx' w' ∧ TransF β G w β' (Eng.glue G V V') w' ∧ LL (restOwn own β G V) β' V' = LF own β' (Eng.glue G V V') ∧ (∀ id o o', G id = some o → V.get id = none → V'.get id = some o' → False) := by
  have hdis : ∀ id o o', G id = some o → V.get id = none → V'.get id = some o' → False := by
    intro id o o' hg hv hv'
    obtain ⟨b, base, hb, _⟩ := hs.obj id o hg
    obtain ⟨b', base', hb', hno, _⟩ := h'.obj id o' hv'
    rw [ht.ext _ _ hb] at hb'
    cases hb'
    exact hno (.inr ⟨id, o, base, hg, hv, hb⟩)
  have hcases : ∀ id o, Eng.glue G V V' id = some o → V'.get id = some o ∨ (V'.get id = none ∧ V.get id = none ∧ G id = some o) := by
    intro id o hg
    unfold Eng.glue at hg
    split at hg
    · rename_i o' ho; cases hg; exact .inl ho
    · rename_i ho
      split at hg
      · rename_i hv; exact .inr ⟨ho, hv, hg⟩
      · cases hg
  have hLeq : LL (restOwn own β G V) β' V' = LF own β' (Eng.glue G V V') := by
    funext b
    apply propext
    constructor
    · rintro ((h | ⟨id, o, base, h1, h2, h3⟩) | ⟨id, o, base, h1, h2⟩)
      · exact .inl h
      · refine .inr ⟨id, o, base, ?_, ht.ext _ _ h3⟩
        unfold Eng.glue
        cases hv' : V'.get id with
        | some o' => exact (hdis id o o' h1 h2 hv').elim
        | none => simp [h2, h1]
      · exact .inr ⟨id, o, base, by unfold Eng.glue; rw [h1], h2⟩
    · rintro (h | ⟨id, o, base, h1, h2⟩)
      · exact .inl (.inl h)
      · rcases hcases id o h1 with h3 | ⟨_, h4, h5⟩
        · exact .inr ⟨id, o, base, h3, h2⟩
        · obtain ⟨b', base', hb', _⟩ := hs.obj id o h5
          have := ht.ext _ _ hb'
          rw [h2] at this
          cases this
          exact .inl (.inr ⟨id, o, base, h5, h4, hb'⟩)
  have hkeepX : ∀ id o b base, G id = some o → V.get id = none → β id = some (b, base) → w'.heap[b]? = w.heap[b]? := by
    intro id o b base hg hv hb
    refine ht.keep b (hs.lt id b base hb) ?_
    rintro ⟨id', o', base', h1, h2⟩
    have := hs.inj id id' o o' b base base' hg (hV _ _ h1) hb h2
    subst this
    rw [hv] at h1; cases h1
  have htF : TransF β G w β' (Eng.glue G V V') w' := by
    refine ⟨ht.ext, ht.size, fun b hb hn => ht.keep b hb (fun ⟨id, o, base, h1, h2⟩ => hn ⟨id, o, base, hV _ _ h1, h2⟩), ?_, ht.shape, ht.os, ht.tape, ht.output⟩
    rintro b ⟨id, o, base, h1, h2⟩
    rcases hcases id o h1 with h3 | ⟨_, h4, h5⟩
    · rcases ht.live b ⟨id, o, base, h3, h2⟩ with ⟨id', o', base', k1, k2⟩ | k
      · exact .inl ⟨id', o', base', hV _ _ k1, k2⟩
      · exact .inr k
    · obtain ⟨b', base', hb', _⟩ := hs.obj id o h5
      have := ht.ext _ _ hb'
      rw [h2] at this
      cases this
      exact .inl ⟨id, o, base, h5, hb'⟩
  refine ⟨⟨h'.fresh, h'.lt, fun b hb => Nat.lt_of_lt_of_le (hs.ownlt b hb) ht.size, fun id o hg => ?_, fun id id' o o' b x y hg hg' hb hb' => ?_⟩, htF, hLeq, hdis⟩
  · rcases hcases id o hg with h3 | ⟨_, h4, h5⟩
    · obtain ⟨b, base, hb, hno, hor⟩ := h'.obj id o h3
      refine ⟨b, base, hb, fun hown => hno (.inl hown), ?_⟩
      rw [show (fun b => restOwn own β G V b ∨ live β' V' b) = LF own β' (Eng.glue G V V') from hLeq] at hor
      exact hor
    · obtain ⟨b, base, hb, hno, hor⟩ := hs.obj id o h5
      exact ⟨b, base, ht.ext _ _ hb, hno, hor.later htF.later (hkeepX id o b base h5 h4 hb)⟩
  · have X : ∀ id1 id2 o1 o2 x1 x2, V'.get id1 = some o1 → V.get id2 = none → G id2 = some o2 → β' id1 = some (b, x1) → β' id2 = some (b, x2) → False := by
      intro id1 id2 o1 o2 x1 x2 k1 k2 k3 k4 k5
      obtain ⟨b1, base1, hb1, hno, _⟩ := h'.obj id1 o1 k1
      rw [k4] at hb1; cases hb1
      obtain ⟨b2, base2, hb2, _⟩ := hs.obj id2 o2 k3
      have := ht.ext _ _ hb2
      rw [k5] at this; cases this
      exact hno (.inr ⟨id2, o2, x2, k3, k2, hb2⟩)
    rcases hcases id o hg with h3 | ⟨_, h4, h5⟩
    · rcases hcases id' o' hg' with k3 | ⟨_, k4, k5⟩
      · exact h'.inj id id' o o' b x y h3 k3 hb hb'
      · exact (X id id' o o' x y h3 k4 k5 hb hb').elim
    · rcases hcases id' o' hg' with k3 | ⟨_, k4, k5⟩
      · exact (X id' id o' o y x k3 h4 h5 hb' hb).elim
      · obtain ⟨b1, base1, hb1, _⟩ := hs.obj id o h5
        obtain ⟨b2, base2, hb2, _⟩ := hs.obj id' o' k5
        have e1 := ht.ext _ _ hb1
        have e2 := ht.ext _ _ hb2
        rw [hb] at e1; rw [hb'] at e2
        cases e1; cases e2
        exact hs.inj id id' o o' b x y h5 k5 hb1 hb2
end
/-! ### what an operation looks at -/
theorem memN_iff {t : Nat} : ∀ {l : List Nat}, memN t l = true ↔ t ∈ l
  | [] => by simp [memN]
  | x :: r => by simp [memN, memN_iff (l := r)]

section
variable {T T' : Tm}
theorem ev_congr {x : Opd} (h : ∀ t ∈ x.use, T'.get t = T.get t) : x.ev T' = x.ev T := by
  cases x with
  | tmp t => simp only [Opd.ev]; rw [h t (by simp [Opd.use])]
  | const v => rfl
theorem evO_congr {x : Option Opd} (h : ∀ t ∈ usesO x, T'.get t = T.get t) : x.map (·.ev T') = x.map (·.ev T) := by
  cases x with
  | none => rfl
  | some x => simp only [Option.map_some]; rw [ev_congr h]
theorem evL_congr : ∀ {xs : List Opd}, (∀ t ∈ usesL xs, T'.get t = T.get t) → xs.map (·.ev T') = xs.map (·.ev T)
  | [], _ => rfl
  | x :: xs, h => by
    simp only [List.map_cons]
    rw [ev_congr (fun t ht => h t (by simp [usesL, ht])), evL_congr (fun t ht => h t (by simp [usesL, ht]))]
theorem afillT_congr : ∀ {ps : List (Nat × Nat × Opd)} {cs : List AV}, (∀ t ∈ usesP ps, T'.get t = T.get t) → afillT T' cs ps = afillT T cs ps
  | [], _, _ => rfl
  | (o, s, x) :: ps, cs, h => by
    unfold afillT
    rw [ev_congr (x := x) (fun t ht => h t (by simp [usesP, ht]))]
    split
    · simp only
      split
      · split
        · exact afillT_congr (fun t ht => h t (by simp [usesP, ht]))
        · rfl
      · rfl
    · rfl
theorem aop_congr {cl : Handler} {h : AH} {ao : AOp} (hT : ∀ t ∈ ao.uses, T'.get t = T.get t) : aop cl T' h ao = aop cl T h ao := by
  cases ao <;> simp only [AOp.uses] at hT <;> simp only [aop, kMov, kPick, kNew, kBox, kBuild, kBuildSl, kLd1, kLdn, kSt, kNilchk, kArith, kEqs, kEqn, kEqf, kUn, kConvI, kFld, kFldA, kIdxA, kIdxArrA, kIdx, kIdxS, kSl, kSlS, kLen, kLenS, kConvS, kLenc, kApp, kCopy, kMnmx, kExt, kMkf, kMksl, kCall, ← afillT_eq]
  all_goals first
    | (rw [ev_congr (fun t ht => hT t ht)]; done)
    | (rw [ev_congr (fun t ht => hT t (by simp [ht])), ev_congr (fun t ht => hT t (by simp [ht]))]; done)
    | (rw [ev_congr (fun t ht => hT t (by simp [ht])), ev_congr (fun t ht => hT t (by simp [ht])), ev_congr (fun t ht => hT t (by simp [ht]))]; done)
    | (rw [afillT_congr (fun t ht => hT t ht)]; done)
    | (rw [evL_congr (fun t ht => hT t ht)]; done)
    | (rw [evL_congr (fun t ht => hT t (by simp [ht])), evL_congr (fun t ht => hT t (by simp [ht]))]; done)
    | (rw [ev_congr (fun t ht => hT t (by simp [ht])), evL_congr (fun t ht => hT t (by simp [ht]))]; done)
    | (rw [ev_congr (fun t ht => hT t (by simp [ht])), evO_congr (fun t ht => hT t (by simp [ht])), evO_congr (fun t ht => hT t (by simp [ht])), evO_congr (fun t ht => hT t (by simp [ht]))]; done)
    | (rw [ev_congr (fun t ht => hT t (by simp [ht])), evO_congr (fun t ht => hT t (by simp [ht])), evO_congr (fun t ht => hT t (by simp [ht]))]; done)
    | skip
theorem aalloc_congr {ao : AOp} (hT : ∀ t ∈ ao.uses, T'.get t = T.get t) : aalloc T' ao = aalloc T ao := by
  cases ao <;> simp only [AOp.uses] at hT <;> simp only [aalloc]
  all_goals first
    | (rw [ev_congr (fun t ht => hT t ht)]; done)
    | (rw [ev_congr (fun t ht => hT t (by simp [ht])), ev_congr (fun t ht => hT t (by simp [ht]))]; done)
    | (rw [afillT_congr (fun t ht => hT t ht)]; done)
    | skip
end
end Go.Eng
end
noncomputable section
namespace Go.Eng
theorem kX_pure {h h' : AH} {k : XK} {as : List AV} {v : AV} (hE : xE k = false) (hR : xRd k as = none) (h1 : kX h k as = some (v, h')) : h' = h ∧ ∀ h2, kX h2 k as = some (v, h2) := by
  cases k <;> simp only [xE] at hE <;> (try (cases hE; done))
  case mapget k ok zero =>
    match as, hR, h1 with
    | [], _, h1 => simp [kX] at h1
    | [_], _, h1 => simp [kX] at h1
    | m :: key :: x :: r, _, h1 => simp [kX] at h1
    | [m, key], hR, h1 =>
      cases m <;> simp [kX, amap] at h1
      case nilmap =>
        simp only [kX, amap]
        obtain ⟨q1, q2⟩ := h1
        simp only [q1, if_true]
        simp only [kfind] at q2 ⊢
        cases q2
        exact ⟨rfl, fun _ => rfl⟩
      case mapv id => simp [xRd] at hR
  case maplen =>
    match as, hR, h1 with
    | [], _, h1 => simp [kX] at h1
    | m :: x :: r, _, h1 => simp [kX] at h1
    | [m], hR, h1 =>
      cases m <;> simp [kX, amap] at h1
      case nilmap =>
        obtain ⟨rfl, rfl⟩ := h1
        exact ⟨rfl, fun _ => by simp [kX, amap]⟩
      case mapv id => simp [xRd] at hR
theorem kX_read {h h' : AH} {k : XK} {as : List AV} {v : AV} {x : Nat} (hR : xRd k as = some x) (h1 : kX h k as = some (v, h')) :
    h' = h ∧ (∃ ob, h.H.get x = some ob) ∧ ∀ h2 : AH, h2.H.get x = h.H.get x → kX h2 k as = some (v, h2) := by
  have hm : ∀ h2 : AH, h2.H.get x = h.H.get x → h2.mapAt x = h.mapAt x := fun h2 he => by unfold AH.mapAt; rw [he]
  have hs : ∀ kvs, h.mapAt x = some kvs → ∃ ob, h.H.get x = some ob := fun kvs hk => by
    unfold AH.mapAt at hk
    split at hk
    · rename_i hg; exact ⟨_, hg⟩
    · cases hk
  unfold xRd at hR
  split at hR
  · rename_i k ok zero id r
    cases hR
    match r, h1 with
    | [], h1 => simp [kX] at h1
    | key :: y :: r, h1 => simp [kX] at h1
    | [key], h1 =>
      simp only [kX, amap] at h1 ⊢
      split at h1
      · rename_i hk
        cases hq : h.mapAt x with
        | none => simp [hq] at h1
        | some kvs =>
          simp only [hq] at h1
          refine ⟨?_, hs _ hq, fun h2 he => ?_⟩
          · split at h1 <;> cases h1 <;> rfl
          · rw [if_pos hk, hm h2 he, hq]
            simp only
            split at h1
            · rename_i hf; cases h1; simp only [hf]
            · rename_i hf; cases h1; simp only [hf]
            · cases h1
      · cases h1
  · rename_i id r
    cases hR
    match r, h1 with
    | y :: r, h1 => simp [kX] at h1
    | [], h1 =>
      simp only [kX, amap] at h1 ⊢
      cases hq : h.mapAt x with
      | none => simp [hq] at h1
      | some kvs =>
        simp only [hq] at h1
        cases h1
        exact ⟨rfl, hs _ hq, fun h2 he => by rw [hm h2 he, hq]⟩
  · cases hR
theorem aop_pure {cl : Handler} {T : Tm} {h h' : AH} {ao : AOp} {v : AV} (hA : aA ao = false) (hE : aE ao = false) (hR : aRd T ao = none) (h1 : aop cl T h ao = some (v, h')) : h' = h ∧ ∀ h2, aop cl T h2 ao = some (v, h2) := by
  cases ao <;> simp only [aA, aE] at hA hE <;> (try (cases hA; done)) <;> (try (cases hE; done)) <;> simp only [aop, kMov, kPick, kNew, kBox, kBuild, kBuildSl, kLd1, kLdn, kSt, kNilchk, kArith, kEqs, kEqn, kEqf, kUn, kConvI, kFld, kFldA, kIdxA, kIdxArrA, kIdx, kIdxS, kSl, kSlS, kLen, kLenS, kConvS, kLenc, kApp, kCopy, kMnmx, kExt, kMkf, kMksl, kCall, ← afillT_eq] at h1 ⊢
  case xo k as => exact kX_pure hE hR h1
  case ld1 x =>
    simp only [aRd] at hR
    cases hx : x.ev T <;> rw [hx] at h1 hR <;> simp only [aload1] at h1 ⊢ <;> (try (cases h1; done)) <;> (try (cases hR; done))
    split at h1
    · rename_i hq; cases h1; exact ⟨rfl, fun h2 => by first | rfl | rw [hq]⟩
    · cases h1
  case ldn n x =>
    simp only [aRd] at hR
    cases hx : x.ev T <;> rw [hx] at h1 hR <;> simp only [aloadn] at h1 ⊢ <;> (try (cases h1; done)) <;> (try (cases hR; done))
    split at h1
    · rename_i hq; cases h1; exact ⟨rfl, fun h2 => by first | rfl | rw [hq]⟩
    · cases h1
  case pick c x y =>
    split at h1
    · rename_i t ht; cases h1; exact ⟨rfl, fun h2 => by first | rfl | simp only [ht]⟩
    · cases h1
  case nilchk x =>
    split at h1 <;> first | (cases h1; done) | (rename_i hx; cases h1; exact ⟨rfl, fun h2 => by first | rfl | simp only [hx]⟩)
  case eqs neg x y =>
    split at h1
    · rename_i hx hy; cases h1; exact ⟨rfl, fun h2 => by first | rfl | simp only [hx, hy]⟩
    · cases h1
  case eqf neg ks x y =>
    split at h1
    · rename_i xs ys hx hy
      cases hq : eqCells ks xs ys with
      | none => simp [hq] at h1
      | some b => simp only [hq] at h1; cases h1; exact ⟨rfl, fun h2 => by first | rfl | simp only [hx, hy, hq]⟩
    · cases h1
  case convI k x =>
    split at h1
    · rename_i hx; cases h1; exact ⟨rfl, fun h2 => by first | rfl | simp only [hx]⟩
    · rename_i hx
      split at h1
      · rename_i hf; cases h1; exact ⟨rfl, fun h2 => by first | rfl | simp only [hx, hf, if_true]⟩
      · cases h1
    · rename_i hx
      split at h1
      · rename_i hf; cases h1; exact ⟨rfl, fun h2 => by first | rfl | simp only [hx, hf, if_true] | simp [hx, hf]⟩
      · cases h1
    · cases h1
  case fld off n x =>
    split at h1
    · rename_i cs hx
      cases hq : apart n cs off with
      | none => simp [hq] at h1
      | some b => simp only [hq] at h1; cases h1; exact ⟨rfl, fun h2 => by first | rfl | simp only [hx, hq]⟩
    · cases h1
  case idxArrA len z x i =>
    split at h1
    · rename_i j hj
      cases hq : afldA (j * z) (x.ev T) with
      | none => simp [hq] at h1
      | some b => simp only [hq] at h1; cases h1; exact ⟨rfl, fun h2 => by first | rfl | simp only [hj, hq]⟩
    · cases h1
  case idx len z n x i =>
    split at h1
    · rename_i j cs hj hx
      cases hq : apart n cs (j * z) with
      | none => simp [hq] at h1
      | some b => simp only [hq] at h1; cases h1; exact ⟨rfl, fun h2 => by first | rfl | simp only [hj, hx, hq]⟩
    · cases h1
  case idxS x i =>
    split at h1
    · rename_i s hx
      cases hj : aix s.length (i.ev T) with
      | none => simp [hj] at h1
      | some j =>
        simp only [hj] at h1
        cases hq : s[j]? with
        | none => simp [hq] at h1
        | some c => simp only [hq] at h1; cases h1; exact ⟨rfl, fun h2 => by first | rfl | simp only [hx, hj, hq]⟩
    · cases h1
  case slS x lo hi =>
    split at h1
    · rename_i s hx
      cases hq : asliceS s (lo.map (·.ev T)) (hi.map (·.ev T)) with
      | none => simp [hq] at h1
      | some b => simp only [hq] at h1; cases h1; exact ⟨rfl, fun h2 => by first | rfl | simp only [hx, hq]⟩
    · cases h1
  case lenS x =>
    split at h1
    · rename_i hx; cases h1; exact ⟨rfl, fun h2 => by first | rfl | simp only [hx]⟩
    · cases h1
  case convS x =>
    split at h1
    · rename_i hx; cases h1; exact ⟨rfl, fun h2 => by first | rfl | simp only [hx]⟩
    · cases h1
  case mnmx mx x y =>
    split at h1
    · rename_i hx hy; cases h1; exact ⟨rfl, fun h2 => by first | rfl | simp only [hx, hy]⟩
    · rename_i hxy
      split at h1
      · rename_i hv; cases h1; exact ⟨rfl, fun h2 => by first | rfl | simp only [hv]⟩
      · cases h1
  case ext x i =>
    split at h1
    · rename_i vs hx
      cases hq : vs[i]? with
      | none => simp [hq] at h1
      | some b => simp only [hq] at h1; cases h1; exact ⟨rfl, fun h2 => by first | rfl | simp only [hx, hq]⟩
    · cases h1
  all_goals first
    | (cases h1; done)
    | (cases h1; exact ⟨rfl, fun _ => rfl⟩)
    | (split at h1
       · rename_i hq; cases h1; exact ⟨rfl, fun h2 => by first | rfl | simp only [hq]⟩
       · cases h1)

theorem aop_read {cl : Handler} {T : Tm} {h h' : AH} {ao : AOp} {v : AV} {x : Nat} (hR : aRd T ao = some x) (h1 : aop cl T h ao = some (v, h')) :
    h' = h ∧ (∃ ob, h.H.get x = some ob) ∧ ∀ h2 : AH, h2.H.get x = h.H.get x → aop cl T h2 ao = some (v, h2) := by
  cases ao <;> simp only [aRd] at hR <;> (try (cases hR; done)) <;> simp only [aop, kMov, kPick, kNew, kBox, kBuild, kBuildSl, kLd1, kLdn, kSt, kNilchk, kArith, kEqs, kEqn, kEqf, kUn, kConvI, kFld, kFldA, kIdxA, kIdxArrA, kIdx, kIdxS, kSl, kSlS, kLen, kLenS, kConvS, kLenc, kApp, kCopy, kMnmx, kExt, kMkf, kMksl, kCall, ← afillT_eq] at h1 ⊢
  case xo k as => exact kX_read hR h1
  case ld1 a =>
    cases ha : a.ev T <;> rw [ha] at h1 hR <;> simp only at hR <;> (try (cases hR; done))
    all_goals (
      rename_i id off
      cases hR
      simp only [aload1, AH.cellsAt, AH.globAt] at h1 ⊢
      cases hg : h.H.get x with
      | none => simp [hg] at h1
      | some ob =>
        refine ⟨?_, ⟨ob, rfl⟩, fun h2 he => ?_⟩
        · split at h1
          · cases h1; rfl
          · cases h1
        · rw [he]
          rw [hg] at h1
          split at h1
          · rename_i hq; cases h1; first | rfl | rw [hq]
          · cases h1)
  case ldn n a =>
    cases ha : a.ev T <;> rw [ha] at h1 hR <;> simp only at hR <;> (try (cases hR; done))
    all_goals (
      rename_i id off
      cases hR
      simp only [aloadn, AH.cellsAt, AH.globAt] at h1 ⊢
      cases hg : h.H.get x with
      | none => simp [hg] at h1
      | some ob =>
        refine ⟨?_, ⟨ob, rfl⟩, fun h2 he => ?_⟩
        · split at h1
          · cases h1; rfl
          · cases h1
        · rw [he]
          rw [hg] at h1
          split at h1
          · rename_i hq; cases h1; first | rfl | rw [hq]
          · cases h1)

theorem aalloc_aA {T : Tm} {ao : AOp} {r : List AV × (Nat → AV)} (h : aalloc T ao = some r) : aA ao = true := by
  cases ao <;> simp only [aalloc] at h <;> first | (cases h; done) | rfl

/-- The entries of some slots alone. -/
def restr (T : Tm) : List Nat → Tm
  | [] => .leaf
  | t :: l => match T.get t with
    | some v => (restr T l).put t v
    | none => restr T l
theorem restr_get (T : Tm) : ∀ (l : List Nat) (t : Nat), (restr T l).get t = if t ∈ l then T.get t else none
  | [], t => by simp [restr, Tm.get_leaf]
  | x :: l, t => by
    unfold restr
    split
    · rename_i v hv
      rw [Tm.get_put]
      by_cases h : t = x
      · subst h; simp [hv]
      · simp [h, restr_get T l t]
    · rename_i hv
      rw [restr_get T l t]
      by_cases h : t = x
      · subst h; simp [hv]
      · simp [h]

/-- What a step of the run is. -/
inductive DSp (cl : Handler) (o : AOpr) (r : Nat) (T : Tm) (h : AH) : DStep → Prop where
  | skip (hg : gd T o.guard = some false) : DSp cl o r T h ⟨T, h, skipped, .pure⟩
  | alloc (hg : gd T o.guard = some true) (cs : List AV) (mk : Nat → AV) (ha : aalloc T o.op = some (cs, mk)) : DSp cl o r T h ⟨T, h, mk r, .alloc r cs⟩
  | eff (hg : gd T o.guard = some true) (v : AV) (h' : AH) (ha : aop cl T h o.op = some (v, h')) (hup : h.nx ≤ h'.nx) : DSp cl o r T h ⟨T, h, v, .eff h h'⟩
  | read (hg : gd T o.guard = some true) (v : AV) (h' : AH) (x : Nat) (ha : aop cl T h o.op = some (v, h')) (hr : aRd T o.op = some x) : DSp cl o r T h ⟨T, h, v, .read x⟩
  | pure (hg : gd T o.guard = some true) (v : AV) (h' : AH) (ha : aop cl T h o.op = some (v, h')) (hA : aA o.op = false) (hE : aE o.op = false) (hr : aRd T o.op = none) : DSp cl o r T h ⟨T, h, v, .pure⟩
theorem dstep_sp {cl : Handler} {o : AOpr} {r : Nat} {T : Tm} {h : AH} {s : DStep} (hs : dstep cl o r T h = some s) : DSp cl o r T h s := by
  unfold dstep at hs
  split at hs
  · rename_i hg; cases hs; exact .skip hg
  · rename_i hg
    split at hs
    · split at hs
      · rename_i cs mk ha; cases hs; exact .alloc hg cs mk ha
      · cases hs
    · rename_i hA
      split at hs
      · rename_i v h' ha
        split at hs
        · split at hs
          · rename_i hup; cases hs; exact .eff hg v h' ha (Nat.le_of_ble_eq_true hup)
          · cases hs
        · rename_i hE
          split at hs
          · rename_i x hx; cases hs; exact .read hg v h' x ha hx
          · rename_i hx; cases hs; exact .pure hg v h' ha (by simpa using hA) (by simpa using hE) hx
      · cases hs
  · cases hs

/-- All that the proof knows of the run in the text's order. -/
structure DCtx (P : Program) (nt : Nat) (ops : Array Oper) (n r0 : Nat) (o : Nat → AOpr) (s : Nat → DStep) (b : Nat → Nat) (Ts : Nat → Tm) (Hs : Nat → AH) : Prop where
  size : ops.size = n
  cop : ∀ i, i < n → ∃ oo, ops[i]? = some oo ∧ cOpr P nt ops oo = some (o i)
  step : ∀ i, i < n → ∃ cl, HOk P cl ∧ DSp cl (o i) (r0 + i) (Ts i) (Hs i) (s i)
  Tn : ∀ i, i < n → Ts (i + 1) = tput (Ts i) (o i).dst (s i).v
  Hn : ∀ i, i < n → Hs (i + 1) = (s i).h'
  pair : ∀ i j, i < j → j < n → Nat.testBit (b j) i = true ∨ (tmpOk (o i) (o j) = true ∧ recOk (s i).k (s j).k = true)
  bef : ∀ i oo, ops[i]? = some oo → ∀ j, Nat.testBit (b i) j = true → ∃ e ∈ oo.after, Region.binds .any e = true ∧ (e.on = j ∨ Nat.testBit (b e.on) j = true)
  edge : ∀ i oo, ops[i]? = some oo → ∀ e ∈ oo.after, Region.binds .any e = true → e.on < i
  nx0 : r0 + n ≤ (Hs 0).nx
  dead0 : ∀ id, r0 ≤ id → (Hs 0).H.get id = none

mutual
theorem AV.beq_eq : ∀ (a b : AV), AV.beq a b = true → a = b
  | .undef, b, h => by cases b <;> simp [AV.beq] at h <;> rfl
  | .bool a, b, h => by cases b <;> simp [AV.beq] at h; subst h; rfl
  | .int k a, b, h => by cases b <;> simp [AV.beq] at h; obtain ⟨rfl, rfl⟩ := h; rfl
  | .str a, b, h => by cases b <;> simp [AV.beq] at h; subst h; rfl
  | .agg a, b, h => by cases b <;> simp [AV.beq] at h; rw [AV.beqL_eq _ _ h]
  | .tup a, b, h => by cases b <;> simp [AV.beq] at h; rw [AV.beqL_eq _ _ h]
  | .ptr x y, b, h => by cases b <;> simp [AV.beq] at h; obtain ⟨rfl, rfl⟩ := h; rfl
  | .nilptr, b, h => by cases b <;> simp [AV.beq] at h <;> rfl
  | .pptr a, b, h => by cases b <;> simp [AV.beq] at h; rw [AV.beqL_eq _ _ h]
  | .gptr a c, b, h => by cases b <;> simp [AV.beq] at h; rw [h.1, h.2]
  | .nilsl, b, h => by cases b <;> simp [AV.beq] at h <;> rfl
  | .esl, b, h => by cases b <;> simp [AV.beq] at h <;> rfl
  | .psl a, b, h => by cases b <;> simp [AV.beq] at h; rw [AV.beqLL_eq _ _ h]
  | .rsl x y z u, b, h => by cases b <;> simp [AV.beq] at h; obtain ⟨⟨⟨rfl, rfl⟩, rfl⟩, rfl⟩ := h; rfl
  | .mapv x, b, h => by cases b <;> simp [AV.beq] at h; subst h; rfl
  | .nilmap, b, h => by cases b <;> simp [AV.beq] at h <;> rfl
  | .func f x y, b, h => by cases b <;> simp [AV.beq] at h; obtain ⟨⟨rfl, h1⟩, h2⟩ := h; rw [AV.beqL_eq _ _ h1, AV.beqL_eq _ _ h2]
  | .nilfunc, b, h => by cases b <;> simp [AV.beq] at h <;> rfl
  | .nilif, b, h => by cases b <;> simp [AV.beq] at h <;> rfl
  | .iface t a, b, h => by cases b <;> simp [AV.beq] at h; obtain ⟨rfl, h1⟩ := h; rw [AV.beq_eq _ _ h1]
  | .scol k m r i j l lo hi, b, h => by cases b <;> simp [AV.beq] at h; obtain ⟨⟨⟨⟨⟨⟨⟨rfl, rfl⟩, rfl⟩, rfl⟩, rfl⟩, rfl⟩, rfl⟩, rfl⟩ := h; rfl
  | .sint k m i c lo hi, b, h => by cases b <;> simp [AV.beq] at h; obtain ⟨⟨⟨⟨⟨rfl, rfl⟩, rfl⟩, rfl⟩, rfl⟩, rfl⟩ := h; rfl
theorem AV.beqL_eq : ∀ (a b : List AV), AV.beqL a b = true → a = b
  | [], b, h => by cases b <;> simp [AV.beqL] at h; rfl
  | x :: a, b, h => by cases b <;> simp [AV.beqL] at h; rw [AV.beq_eq _ _ h.1, AV.beqL_eq _ _ h.2]
theorem AV.beqLL_eq : ∀ (a b : List (List AV)), AV.beqLL a b = true → a = b
  | [], b, h => by cases b <;> simp [AV.beqLL] at h; rfl
  | x :: a, b, h => by cases b <;> simp [AV.beqLL] at h; rw [AV.beqL_eq _ _ h.1, AV.beqLL_eq _ _ h.2]
end
theorem beqKV_eq : ∀ (a b : List (AV × AV)), beqKV a b = true → a = b
  | [], b, h => by cases b <;> simp [beqKV] at h; rfl
  | (x, y) :: a, b, h => by
    cases b with
    | nil => simp [beqKV] at h
    | cons p b =>
      obtain ⟨u, v⟩ := p
      simp [beqKV] at h
      rw [AV.beq_eq _ _ h.1.1, AV.beq_eq _ _ h.1.2, beqKV_eq _ _ h.2]
theorem obEq_eq {a b : Option AObj} (h : obEq a b = true) : a = b := by
  unfold obEq at h
  split at h
  · rfl
  · rw [AV.beqL_eq _ _ h]
  · rw [beqKV_eq _ _ h]
  · rename_i s p t q
    simp at h
    obtain ⟨h1, rfl⟩ := h
    have : s = t := ByteArray.ext h1
    rw [this]
  · simp at h
    obtain ⟨rfl, h2⟩ := h
    rw [AV.beqL_eq _ _ h2]
  · cases h
end Go.Eng
end
noncomputable section
namespace Go.Eng
section
variable {P : Program} {nt : Nat} {ds : List Deferred} {ops : Array Oper} {n r0 : Nat} {o : Nat → AOpr} {s : Nat → DStep} {b : Nat → Nat} {Ts : Nat → Tm} {Hs : Nat → AH}
def isEff (s : Nat → DStep) (i : Nat) : Prop := ∃ V C, (s i).k = .eff V C
def isAl (s : Nat → DStep) (i : Nat) : Prop := ∃ r cs, (s i).k = .alloc r cs

theorem DCtx.effs (c : DCtx P nt ops n r0 o s b Ts Hs) {i : Nat} (hi : i < n) {V C : AH} (hk : (s i).k = .eff V C) : V = Hs i ∧ C = Hs (i + 1) := by
  have h1 := c.Hn i hi
  obtain ⟨cl, _, h2⟩ := c.step i hi
  generalize s i = t at *
  cases h2 <;> simp only at hk <;> cases hk
  exact ⟨rfl, by rw [h1]; rfl⟩
theorem DCtx.als (c : DCtx P nt ops n r0 o s b Ts Hs) {i : Nat} (hi : i < n) {r : Nat} {cs : List AV} (hk : (s i).k = .alloc r cs) : r = r0 + i ∧ Hs (i + 1) = ⟨(Hs i).H.put (r0 + i) (.cells cs), (Hs i).nx⟩ := by
  have h1 := c.Hn i hi
  obtain ⟨cl, _, h2⟩ := c.step i hi
  generalize s i = t at *
  cases h2 <;> simp only at hk <;> cases hk
  exact ⟨rfl, by rw [h1]; rfl⟩
theorem DCtx.stays (c : DCtx P nt ops n r0 o s b Ts Hs) {i : Nat} (hi : i < n) (h1 : ¬ isEff s i) (h2 : ¬ isAl s i) : Hs (i + 1) = Hs i := by
  have h3 := c.Hn i hi
  obtain ⟨cl, _, h4⟩ := c.step i hi
  unfold isEff at h1
  unfold isAl at h2
  generalize s i = t at *
  cases h4
  · rw [h3]; rfl
  · exact absurd ⟨_, _, rfl⟩ h2
  · exact absurd ⟨_, _, rfl⟩ h1
  · rw [h3]; rfl
  · rw [h3]; rfl

/-- The state of the slots when the operations of L have been carried out. -/
def TSp (o : Nat → AOpr) (s : Nat → DStep) (T0 : Tm) (n : Nat) (L : Nat → Prop) (t : Nat) (u : AV) : Prop :=
  (∃ i, i < n ∧ L i ∧ (o i).dst = some t ∧ u = (s i).v ∧ ∀ i', i' < n → L i' → (o i').dst = some t → i' ≤ i) ∨ ((∀ i, i < n → L i → (o i).dst ≠ some t) ∧ T0.get t = some u)

theorem DCtx.text (c : DCtx P nt ops n r0 o s b Ts Hs) : ∀ (i : Nat), i ≤ n → ∀ t u, (Ts i).get t = some u → TSp o s (Ts 0) n (· < i) t u := by
  intro i
  induction i with
  | zero => intro _ t u h; exact .inr ⟨fun i _ h => by simp at h, h⟩
  | succ i ih =>
    intro hi t u h
    rw [c.Tn i (by omega)] at h
    cases hd : (o i).dst with
    | none =>
      rw [hd] at h
      simp only [tput] at h
      rcases ih (by omega) t u h with ⟨k, h1, h2, h3, h4, h5⟩ | ⟨h1, h2⟩
      · refine .inl ⟨k, h1, by simp only at h2 ⊢; omega, h3, h4, fun i' a1 a2 a3 => ?_⟩
        by_cases he : i' = i
        · subst he; rw [hd] at a3; cases a3
        · exact h5 i' a1 (by simp only at a2 ⊢; omega) a3
      · refine .inr ⟨fun i' a1 a2 a3 => ?_, h2⟩
        by_cases he : i' = i
        · subst he; rw [hd] at a3; cases a3
        · exact h1 i' a1 (by simp only at a2 ⊢; omega) a3
    | some d =>
      rw [hd] at h
      simp only [tput] at h
      by_cases ht : t = d
      · subst ht
        rw [Tm.get_put_same] at h; cases h
        exact .inl ⟨i, by omega, by simp only; omega, hd, rfl, fun i' a1 a2 a3 => by simp only at a2; omega⟩
      · rw [Tm.get_put_ne _ _ ht] at h
        rcases ih (by omega) t u h with ⟨k, h1, h2, h3, h4, h5⟩ | ⟨h1, h2⟩
        · refine .inl ⟨k, h1, by simp only at h2 ⊢; omega, h3, h4, fun i' a1 a2 a3 => ?_⟩
          by_cases he : i' = i
          · subst he; rw [hd] at a3; cases a3; exact absurd rfl ht
          · exact h5 i' a1 (by simp only at a2 ⊢; omega) a3
        · refine .inr ⟨fun i' a1 a2 a3 => ?_, h2⟩
          by_cases he : i' = i
          · subst he; rw [hd] at a3; cases a3; exact absurd rfl ht
          · exact h1 i' a1 (by simp only at a2 ⊢; omega) a3

structure Inv (own : Nat → Prop) (β0 : Bl) (w0 : World) (nt : Nat) (ds : List Deferred) (n r0 : Nat) (o : Nat → AOpr) (s : Nat → DStep) (b : Nat → Nat) (Ts : Nat → Tm) (Hs : Nat → AH) (L : Nat → Prop) (β : Bl) (G : HF) (m : Nat) (a : Act) (w : World) : Prop where
  sim : SimF own β G (Hs m).nx w
  sz : a.tmps.size = nt
  df : a.defers = ds
  closed : ∀ i, i < n → L i → ∀ j, Nat.testBit (b i) j = true → L j
  mle : m ≤ n
  cut : m = 0 ∨ ∃ e, m = e + 1 ∧ L e ∧ isEff s e
  cutE : ∀ e, e < n → isEff s e → L e → e < m
  g1 : ∀ x, (x < r0 + m ∨ r0 + n ≤ x) → G x = (Hs m).H.get x
  g2 : ∀ j, m ≤ j → j < n → L j → ∀ r cs, (s j).k = .alloc r cs → G (r0 + j) = some (.cells cs)
  g3 : ∀ j, m ≤ j → j < n → (¬ L j ∨ ¬ isAl s j) → G (r0 + j) = none
  m0 : ∀ j, m ≤ j → j < n → (Hs m).H.get (r0 + j) = none
  resv : ∀ j, j < n → (¬ L j ∨ ¬ isAl s j) → β (r0 + j) = none
  low : ∀ id, id < r0 → β id = β0 id
  tm : ∀ t u, TSp o s (Ts 0) n L t u → VR w.heap (LF own β G) β u (a.tmps.getD t Go.undef)
  trans : TransF β0 (fun x => (Hs 0).H.get x) w0 β G w

section
variable {own : Nat → Prop} {β0 : Bl} {w0 : World} {L : Nat → Prop} {β : Bl} {G : HF} {m : Nat} {a : Act} {w : World}
/-- All numbers from those of the region's start on are far ahead. -/
theorem DCtx.nxm (c : DCtx P nt ops n r0 o s b Ts Hs) (hup : ∀ i, i < n → (Hs i).nx ≤ (Hs (i + 1)).nx) : ∀ i, i ≤ n → r0 + n ≤ (Hs i).nx
  | 0, _ => c.nx0
  | i + 1, h => Nat.le_trans (c.nxm hup i (by omega)) (hup i (by omega))

/-- ahead of the cut everything that makes or turns objects has been carried out -/
theorem Inv.ahead (c : DCtx P nt ops n r0 o s b Ts Hs) (v : Inv own β0 w0 nt ds n r0 o s b Ts Hs L β G m a w) {k : Nat} (hk : k < m) (h : isEff s k ∨ isAl s k) : L k := by
  rcases v.cut with rfl | ⟨e, rfl, he, hE⟩
  · omega
  · by_cases hke : k = e
    · subst hke; exact he
    · have hkn : e < n := by have := v.mle; omega
      rcases c.pair k e (by omega) hkn with hb | ⟨_, hr⟩
      · exact v.closed e hkn he k hb
      · obtain ⟨V, C, hV⟩ := hE
        rcases h with ⟨V', C', hV'⟩ | ⟨r, cs, hr'⟩
        · rw [hV, hV'] at hr; simp [recOk] at hr
        · rw [hV, hr'] at hr; simp [recOk] at hr

/-- The object that a reading operation reads is the one of the text's order. -/
theorem Inv.readSame (c : DCtx P nt ops n r0 o s b Ts Hs) (v : Inv own β0 w0 nt ds n r0 o s b Ts Hs L β G m a w) {i x : Nat} (hi : i < n) (hL : ¬ L i) (hP : ∀ j, Nat.testBit (b i) j = true → L j) (hk : (s i).k = .read x) {ob : AObj} (hob : (Hs i).H.get x = some ob) : G x = some ob := by
  have hiE : ¬ isEff s i := by rintro ⟨V, C, h⟩; rw [hk] at h; cases h
  have hiA : ¬ isAl s i := by rintro ⟨V, C, h⟩; rw [hk] at h; cases h
  -- one step that does not make x leaves x alone
  have stepEq : ∀ k, k < n → (k < i → m ≤ k) → (i ≤ k → k < m) → x ≠ r0 + k ∨ ¬ isAl s k → (Hs (k + 1)).H.get x = (Hs k).H.get x := by
    intro k hkn h1 h2 hx
    by_cases hE : isEff s k
    · obtain ⟨V, C, hV⟩ := hE
      obtain ⟨rfl, rfl⟩ := c.effs hkn hV
      rcases Nat.lt_trichotomy k i with hlt | heq | hgt
      · have hnL : ¬ L k := fun h => by have := v.cutE k hkn ⟨_, _, hV⟩ h; have := h1 hlt; omega
        rcases c.pair k i hlt hi with hb | ⟨_, hr⟩
        · exact absurd (hP k hb) hnL
        · rw [hV, hk] at hr; simp only [recOk] at hr; exact (obEq_eq hr).symm
      · subst heq; exact absurd ⟨_, _, hV⟩ hiE
      · rcases c.pair i k hgt hkn with hb | ⟨_, hr⟩
        · exact absurd (v.closed k hkn (v.ahead c (h2 (by omega)) (.inl ⟨_, _, hV⟩)) i hb) hL
        · rw [hV, hk] at hr; simp only [recOk] at hr; exact (obEq_eq hr).symm
    · by_cases hA : isAl s k
      · obtain ⟨r, cs, hr⟩ := hA
        rw [(c.als hkn hr).2, PM.get_put_ne]
        exact hx.resolve_right (fun h => h ⟨r, cs, hr⟩)
      · rw [c.stays hkn hE hA]
  rcases Nat.lt_or_ge i m with him | hmi
  · -- the cut lies behind
    have hall : ∀ k, i ≤ k → k ≤ m → (Hs k).H.get x = some ob := by
      intro k hik
      induction hik with
      | refl => intro _; exact hob
      | @step k hik ih =>
        intro hkm
        have hkm' : k < m := hkm
        rw [stepEq k (by have := v.mle; omega) (fun h => by have : i ≤ k := hik; omega) (fun _ => hkm') ?_]
        · exact ih (by omega)
        · by_cases hA : isAl s k
          · left
            have hik' : i ≤ k := hik
            have hne : i ≠ k := fun h => by subst h; exact hiA hA
            rcases c.pair i k (by omega) (by have := v.mle; omega) with hb | ⟨_, hr⟩
            · exact absurd (v.closed k (by have := v.mle; omega) (v.ahead c hkm' (.inr hA)) i hb) hL
            · obtain ⟨r, cs, hrk⟩ := hA
              rw [hk, hrk] at hr
              simp only [recOk] at hr
              rw [(c.als (by have := v.mle; omega) hrk).1] at hr
              intro he; subst he; simp at hr
          · exact .inr hA
    have hm := hall m (by omega) (Nat.le_refl _)
    rw [v.g1 x ?_, hm]
    by_cases hx : r0 + m ≤ x ∧ x < r0 + n
    · have := v.m0 (x - r0) (by omega) (by omega)
      rw [show r0 + (x - r0) = x by omega, hm] at this
      cases this
    · omega
  · by_cases hx : ∃ k, m ≤ k ∧ k < i ∧ x = r0 + k ∧ isAl s k
    · obtain ⟨k, hk1, hk2, rfl, hA⟩ := hx
      obtain ⟨r, cs, hr⟩ := hA
      have hLk : L k := by
        rcases c.pair k i hk2 hi with hb | ⟨_, hrr⟩
        · exact hP k hb
        · rw [hr, hk] at hrr
          simp only [recOk] at hrr
          rw [(c.als (by omega) hr).1] at hrr
          simp at hrr
      have hall : ∀ q, k + 1 ≤ q → q ≤ i → (Hs q).H.get (r0 + k) = some (.cells cs) := by
        intro q hq
        induction hq with
        | refl => intro _; rw [(c.als (by omega) hr).2, PM.get_put_same]
        | @step q hq ih =>
          intro hqi
          have hq' : k + 1 ≤ q := hq
          have hqi' : q < i := hqi
          rw [stepEq q (by omega) (fun _ => by omega) (fun h => by omega) (.inl (by omega))]
          exact ih (by omega)
      have := hall i (by omega) (Nat.le_refl _)
      rw [hob] at this
      rw [this]
      exact v.g2 k hk1 (by omega) hLk r cs hr
    · have hall : ∀ q, m ≤ q → q ≤ i → (Hs q).H.get x = (Hs m).H.get x := by
        intro q hq
        induction hq with
        | refl => intro _; rfl
        | @step q hq ih =>
          intro hqi
          have hq' : m ≤ q := hq
          have hqi' : q < i := hqi
          rw [stepEq q (by omega) (fun _ => hq') (fun h => by omega) ?_, ih (by omega)]
          by_cases hA : isAl s q
          · left; intro he; exact hx ⟨q, hq', hqi', he, hA⟩
          · exact .inr hA
      have hm := hall i hmi (Nat.le_refl _)
      rw [hob] at hm
      rw [v.g1 x ?_, ← hm]
      by_cases hx2 : r0 + m ≤ x ∧ x < r0 + n
      · have := v.m0 (x - r0) (by omega) (by omega)
        rw [show r0 + (x - r0) = x by omega, ← hm] at this
        cases this
      · omega

/-- At an operation with an effect: what it may meet is there, as it was in the text's order. -/
theorem Inv.effSub (c : DCtx P nt ops n r0 o s b Ts Hs) (v : Inv own β0 w0 nt ds n r0 o s b Ts Hs L β G m a w) {i : Nat} (hi : i < n) (hL : ¬ L i) (hP : ∀ j, Nat.testBit (b i) j = true → L j) (hE : isEff s i) :
    m ≤ i ∧ (Hs i).nx = (Hs m).nx ∧ (∀ x ob, (Hs i).H.get x = some ob → G x = some ob) ∧ (∀ x, (x < r0 + (i + 1) ∨ r0 + n ≤ x) → (Hs i).H.get x = none → G x = none) ∧ (∀ j, i < j → j < n → (Hs i).H.get (r0 + j) = none) := by
  have hmi : m ≤ i := by
    rcases Nat.lt_or_ge i m with h | h
    · exact absurd (v.ahead c h (.inl hE)) hL
    · exact h
  have noE : ∀ k, m ≤ k → k < i → ¬ isEff s k := by
    intro k h1 h2 hk
    rcases c.pair k i h2 hi with hb | ⟨_, hr⟩
    · have := v.cutE k (by omega) hk (hP k hb); omega
    · obtain ⟨V, C, hV⟩ := hE
      obtain ⟨V', C', hV'⟩ := hk
      rw [hV, hV'] at hr; simp [recOk] at hr
  have alL : ∀ k, m ≤ k → k < i → isAl s k → L k := by
    intro k h1 h2 hk
    rcases c.pair k i h2 hi with hb | ⟨_, hr⟩
    · exact hP k hb
    · obtain ⟨V, C, hV⟩ := hE
      obtain ⟨r, cs, hr'⟩ := hk
      rw [hV, hr'] at hr; simp [recOk] at hr
  have hall : ∀ q, m ≤ q → q ≤ i → (Hs q).nx = (Hs m).nx ∧ (∀ x, (∀ k, m ≤ k → k < q → isAl s k → x ≠ r0 + k) → (Hs q).H.get x = (Hs m).H.get x) ∧ (∀ k, m ≤ k → k < q → ∀ r cs, (s k).k = .alloc r cs → (Hs q).H.get (r0 + k) = some (.cells cs)) := by
    intro q hq
    induction hq with
    | refl => intro _; exact ⟨rfl, fun _ _ => rfl, fun k h1 h2 => by omega⟩
    | @step q hq ih =>
      intro hqi
      have hq' : m ≤ q := hq
      have hqi' : q < i := hqi
      obtain ⟨a1, a2, a3⟩ := ih (by omega)
      by_cases hA : isAl s q
      · obtain ⟨r, cs, hr⟩ := hA
        have hH := (c.als (by omega) hr).2
        refine ⟨by rw [hH]; exact a1, fun x hx => ?_, fun k h1 h2 r' cs' hr' => ?_⟩
        · rw [hH, PM.get_put_ne _ _ (hx q hq' (by omega) ⟨r, cs, hr⟩)]
          exact a2 x (fun k h1 h2 => hx k h1 (by omega))
        · by_cases hkq : k = q
          · subst hkq; rw [hr] at hr'; cases hr'; rw [hH, PM.get_put_same]
          · rw [hH, PM.get_put_ne _ _ (by omega)]; exact a3 k h1 (by omega) r' cs' hr'
      · have hH := c.stays (i := q) (by omega) (noE q hq' hqi') hA
        rw [hH]
        refine ⟨a1, fun x hx => a2 x (fun k h1 h2 => hx k h1 (by omega)), fun k h1 h2 r' cs' hr' => ?_⟩
        by_cases hkq : k = q
        · subst hkq; exact absurd ⟨r', cs', hr'⟩ hA
        · exact a3 k h1 (by omega) r' cs' hr'
  obtain ⟨a1, a2, a3⟩ := hall i hmi (Nat.le_refl _)
  have res : ∀ x, (∀ k, m ≤ k → k < i → isAl s k → x ≠ r0 + k) → r0 + m ≤ x → x < r0 + n → (Hs i).H.get x = none := by
    intro x hx h1 h2
    rw [a2 x hx]
    have := v.m0 (x - r0) (by omega) (by omega)
    rwa [show r0 + (x - r0) = x by omega] at this
  refine ⟨hmi, a1, fun x ob hob => ?_, fun x hx hn => ?_, fun j h1 h2 => res _ (fun k _ hk _ => by omega) (by omega) (by omega)⟩
  · by_cases hx : ∃ k, m ≤ k ∧ k < i ∧ isAl s k ∧ x = r0 + k
    · obtain ⟨k, h1, h2, hA, rfl⟩ := hx
      obtain ⟨r, cs, hr⟩ := hA
      rw [a3 k h1 h2 r cs hr] at hob
      rw [v.g2 k h1 (by omega) (alL k h1 h2 ⟨r, cs, hr⟩) r cs hr, hob]
    · have hx' : ∀ k, m ≤ k → k < i → isAl s k → x ≠ r0 + k := fun k h1 h2 h3 he => hx ⟨k, h1, h2, h3, he⟩
      by_cases hr : r0 + m ≤ x ∧ x < r0 + n
      · rw [res x hx' hr.1 hr.2] at hob; cases hob
      · rw [v.g1 x (by omega), ← a2 x hx', hob]
  · by_cases hx2 : ∃ k, m ≤ k ∧ k < i ∧ isAl s k ∧ x = r0 + k
    · obtain ⟨k, h1, h2, hA, rfl⟩ := hx2
      obtain ⟨r, cs, hr⟩ := hA
      rw [a3 k h1 h2 r cs hr] at hn; cases hn
    · have hx' : ∀ k, m ≤ k → k < i → isAl s k → x ≠ r0 + k := fun k h1 h2 h3 he => hx2 ⟨k, h1, h2, h3, he⟩
      by_cases hr : r0 + m ≤ x ∧ x < r0 + n
      · have := v.g3 (x - r0) (by omega) (by omega) (.inr (fun hA => by
          by_cases hxi : x - r0 = i
          · rw [hxi] at hA
            obtain ⟨V, C, hV⟩ := hE
            obtain ⟨r, cs, hr'⟩ := hA
            rw [hV] at hr'; cases hr'
          · exact hx' (x - r0) (by omega) (by omega) hA (by omega)))
        rwa [show r0 + (x - r0) = x by omega] at this
      · rw [v.g1 x (by omega), ← a2 x hx', hn]

/-- The slots that a ready operation looks at. -/
theorem Inv.look (c : DCtx P nt ops n r0 o s b Ts Hs) (v : Inv own β0 w0 nt ds n r0 o s b Ts Hs L β G m a w) {i : Nat} (hi : i < n) (hL : ¬ L i) (hP : ∀ j, Nat.testBit (b i) j = true → L j) {t : Nat} (ht : t ∈ (o i).uses) {u : AV} (hu : (Ts i).get t = some u) : VR w.heap (LF own β G) β u (a.tmps.getD t Go.undef) := by
  refine v.tm t u ?_
  have later : ∀ i', i' < n → L i' → (o i').dst = some t → i' < i := by
    intro i' a1 a2 a3
    rcases Nat.lt_trichotomy i' i with h | h | h
    · exact h
    · subst h; exact absurd a2 hL
    · rcases c.pair i i' h a1 with hb | ⟨ht2, _⟩
      · exact absurd (v.closed i' a1 a2 i hb) hL
      · simp only [tmpOk, apartD, a3, Bool.and_eq_true, Bool.not_eq_true'] at ht2
        have := ht2.1.2
        rw [memN_iff.2 ht] at this; cases this
  rcases c.text i (by omega) t u hu with ⟨k, h1, h2, h3, h4, h5⟩ | ⟨h1, h2⟩
  · have h2 : k < i := h2
    have hLk : L k := by
      rcases c.pair k i h2 hi with hb | ⟨ht2, _⟩
      · exact hP k hb
      · simp only [tmpOk, apartD, h3, Bool.and_eq_true, Bool.not_eq_true'] at ht2
        have := ht2.1.1
        rw [memN_iff.2 ht] at this; cases this
    exact .inl ⟨k, h1, hLk, h3, h4, fun i' a1 a2 a3 => h5 i' a1 (later i' a1 a2 a3) a3⟩
  · exact .inr ⟨fun i' a1 a2 a3 => h1 i' a1 (later i' a1 a2 a3) a3, h2⟩

/-- the slots behind one more operation -/
theorem TSp_more (c : DCtx P nt ops n r0 o s b Ts Hs) (v : Inv own β0 w0 nt ds n r0 o s b Ts Hs L β G m a w) {i : Nat} (hi : i < n) (hL : ¬ L i) {t : Nat} {u : AV} (h : TSp o s (Ts 0) n (fun j => j = i ∨ L j) t u) :
    ((o i).dst = some t ∧ u = (s i).v) ∨ ((o i).dst ≠ some t ∧ TSp o s (Ts 0) n L t u) := by
  by_cases hd : (o i).dst = some t
  · left
    refine ⟨hd, ?_⟩
    rcases h with ⟨k, h1, h2, h3, h4, h5⟩ | ⟨h1, h2⟩
    · have hik := h5 i hi (.inl rfl) hd
      by_cases hki : k = i
      · subst hki; exact h4
      · have hLk := h2.resolve_left hki
        rcases c.pair i k (by omega) h1 with hb | ⟨ht2, _⟩
        · exact absurd (v.closed k h1 hLk i hb) hL
        · simp only [tmpOk, hd, h3, Bool.and_eq_true, Bool.not_eq_true'] at ht2
          have := ht2.2
          simp at this
    · exact absurd hd (h1 i hi (.inl rfl))
  · right
    refine ⟨hd, ?_⟩
    rcases h with ⟨k, h1, h2, h3, h4, h5⟩ | ⟨h1, h2⟩
    · have hki : k ≠ i := fun e => by subst e; exact hd h3
      exact .inl ⟨k, h1, h2.resolve_left hki, h3, h4, fun i' a1 a2 a3 => h5 i' a1 (.inr a2) a3⟩
    · exact .inr ⟨fun i' a1 a2 a3 => h1 i' a1 (.inr a2) a3, h2⟩
end
end
end Go.Eng
end
