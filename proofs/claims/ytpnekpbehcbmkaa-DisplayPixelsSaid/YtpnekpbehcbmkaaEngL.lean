/- The abstract interpreter: regions that draw their order, code, functions. Definitions. -/
import Derived.Test.YtpnekpbehcbmkaaEngK
set_option linter.unusedSimpArgs false
set_option linter.unusedVariables false
set_option linter.unnecessarySimpa false
namespace Go.Eng

/-! ## regions that draw their order -/
def Opd.use : Opd → List Nat
  | .tmp t => [t]
  | .const _ => []
def usesO : Option Opd → List Nat
  | some x => x.use
  | none => []
def usesL : List Opd → List Nat
  | [] => []
  | x :: r => x.use ++ usesL r
def usesP : List (Nat × Nat × Opd) → List Nat
  | [] => []
  | (_, _, x) :: r => x.use ++ usesP r
/-- the slots that an operation looks at -/
def AOp.uses : AOp → List Nat
  | .mov x | .box x | .ld1 x | .ldn _ x | .nilchk x | .un _ x | .convI _ x | .fld _ _ x | .fldA _ x | .len x | .lenS x | .convS x | .ext x _ => x.use
  | .pick c a b => c.use ++ a.use ++ b.use
  | .new _ | .lenc _ => []
  | .build _ ps | .buildSl _ _ _ ps => usesP ps
  | .st _ x y | .arith _ x y | .eqs _ x y | .eqn _ _ x y | .eqf _ _ x y | .idxA _ x y | .idxArrA _ _ x y | .idx _ _ _ x y | .idxS x y | .app _ _ x y | .copy _ x y | .mnmx _ x y | .mksl _ _ _ x y => x.use ++ y.use
  | .sl _ x lo hi mx => x.use ++ usesO lo ++ usesO hi ++ usesO mx
  | .slS x lo hi => x.use ++ usesO lo ++ usesO hi
  | .mkf _ f c => usesL f ++ usesL c
  | .call f as => f.use ++ usesL as
  | .xo _ as => usesL as
  | .stuck => []
def AOpr.uses (o : AOpr) : List Nat :=
  match o.guard with
  | some (t, _) => t :: o.op.uses
  | none => o.op.uses

/-- operations with an effect on objects -/
def aE : AOp → Bool
  | .st _ _ _ | .app _ _ _ _ | .copy _ _ _ | .call _ _ | .xo _ _ => true
  | _ => false
/-- the object that is read -/
def aRd (T : Tm) : AOp → Option Nat
  | .ld1 a | .ldn _ a => match a.ev T with
    | .ptr id _ => some id
    | .gptr g _ => some g
    | _ => none
  | _ => none

/-- What an operation of the region did, in the order of the text. -/
inductive Rec where
  | pure
  | read (x : Nat)
  | alloc (r : Nat) (cs : List AV)
  | eff (V C : AH)

structure DStep where
  T : Tm
  h : AH
  v : AV
  k : Rec

def DStep.h' (s : DStep) : AH :=
  match s.k with
  | .pure | .read _ => s.h
  | .alloc r cs => ⟨s.h.H.put r (.cells cs), s.h.nx⟩
  | .eff _ C => C

def dstep (cl : Handler) (o : AOpr) (r : Nat) (T : Tm) (h : AH) : Option DStep :=
  match gd T o.guard with
  | some false => some ⟨T, h, skipped, .pure⟩
  | some true =>
    if aA o.op then match aalloc T o.op with
      | some (cs, mk) => some ⟨T, h, mk r, .alloc r cs⟩
      | none => none
    else match aop cl T h o.op with
      | some (v, h') =>
        if aE o.op then (if Nat.ble h.nx h'.nx then some ⟨T, h, v, .eff h h'⟩ else none)
        else match aRd T o.op with
          | some x => some ⟨T, h, v, .read x⟩
          | none => some ⟨T, h, v, .pure⟩
      | none => none
  | none => none

/-- every operation has a number of its own for what it may make -/
def drun (cl : Handler) : List AOpr → Nat → Tm → AH → Option (List DStep × Tm × AH)
  | [], _, T, h => some ([], T, h)
  | o :: l, r, T, h => match dstep cl o r T h with
    | some s => match drun cl l (r + 1) (tput T o.dst s.v) s.h' with
      | some (ss, T', h') => some (s :: ss, T', h')
      | none => none
    | none => none

mutual
def AV.beq : AV → AV → Bool
  | .undef, .undef => true
  | .bool a, .bool b => a == b
  | .int k a, .int l b => decide (k = l) && a == b
  | .str a, .str b => a == b
  | .agg a, .agg b => AV.beqL a b
  | .tup a, .tup b => AV.beqL a b
  | .ptr a b, .ptr c d => a == c && b == d
  | .nilptr, .nilptr => true
  | .pptr a, .pptr b => AV.beqL a b
  | .gptr a b, .gptr c d => a == c && b == d
  | .nilsl, .nilsl => true
  | .esl, .esl => true
  | .psl a, .psl b => AV.beqLL a b
  | .rsl a b c d, .rsl e f g i => a == e && b == f && c == g && d == i
  | .mapv a, .mapv b => a == b
  | .nilmap, .nilmap => true
  | .func f a b, .func g c d => decide (f = g) && AV.beqL a c && AV.beqL b d
  | .nilfunc, .nilfunc => true
  | .nilif, .nilif => true
  | .iface t a, .iface u b => t == u && AV.beq a b
  | _, _ => false
def AV.beqL : List AV → List AV → Bool
  | [], [] => true
  | a :: as, b :: bs => AV.beq a b && AV.beqL as bs
  | _, _ => false
def AV.beqLL : List (List AV) → List (List AV) → Bool
  | [], [] => true
  | a :: as, b :: bs => AV.beqL a b && AV.beqLL as bs
  | _, _ => false
end
def beqKV : List (AV × AV) → List (AV × AV) → Bool
  | [], [] => true
  | (a, b) :: r, (c, d) :: s => AV.beq a c && AV.beq b d && beqKV r s
  | _, _ => false
def obEq : Option AObj → Option AObj → Bool
  | none, none => true
  | some (.cells a), some (.cells b) => AV.beqL a b
  | some (.map a), some (.map b) => beqKV a b
  | some (.siter s p), some (.siter t q) => s.data.toList == t.data.toList && p == q
  | some (.glob g a), some (.glob k b) => g == k && AV.beqL a b
  | _, _ => false

def memN (t : Nat) : List Nat → Bool
  | [] => false
  | x :: r => Nat.beq t x || memN t r
def apartD (d : Option Nat) (l : List Nat) : Bool :=
  match d with
  | some t => !memN t l
  | none => true
def tmpOk (x y : AOpr) : Bool :=
  apartD x.dst y.uses && apartD y.dst x.uses && (match x.dst, y.dst with | some a, some b => !Nat.beq a b | _, _ => true)
/-- may two operations, the first of them ahead in the text, be carried out in either order? -/
def recOk : Rec → Rec → Bool
  | .eff _ _, .eff _ _ => false
  | .alloc _ _, .eff _ _ => false
  | .alloc r _, .read x => !Nat.beq r x
  | .read x, .alloc r _ => !Nat.beq r x
  | .read x, .eff V C => obEq (V.H.get x) (C.H.get x)
  | .eff V C, .read x => obEq (V.H.get x) (C.H.get x)
  | _, _ => true
/-- what an operation may do at the most, by its form alone -/
def formOk (x y : AOp) : Bool :=
  !(aE x && aE y) && !(aA x && aE y)
def stillRec : Rec → Bool
  | .pure => true
  | _ => false
/-- the later operation j (bits: what is ordered ahead of it) against those ahead of it -/
def rowOk (o : AOpr) (bits : Nat) (s : DStep) : Nat → List (AOpr × DStep) → Bool
  | _, [] => true
  | i, (p, q) :: r => (Nat.testBit bits i || (tmpOk p o && recOk q.k s.k)) && rowOk o bits s (i + 1) r
def pairsOk : List (AOpr × Nat) → List DStep → List (AOpr × DStep) → Bool
  | [], _, _ => true
  | (o, bits) :: l, s :: ss, acc => rowOk o bits s 0 acc && pairsOk l ss (acc ++ [(o, s)])
  | _ :: _, [], _ => false

def adraw (cl : Handler) (ops : List (AOpr × Nat)) (T : Tm) (h : AH) : Option (Tm × AH) :=
  match drun cl (ops.map (·.1)) h.nx T ⟨h.H, h.nx + ops.length⟩ with
  | some (ss, T', h') => if pairsOk ops ss [] then some (T', h') else none
  | none => none

/-! ## code -/
inductive ACode where
  | skip
  | reg (ops : List AOpr)
  | draw (ops : List (AOpr × Nat))
  | seq (a b : ACode)
  | cond (c : Opd) (t e : ACode)
  | block (id : Nat) (b : ACode)
  | loop (b : ACode)
  | exit (id : Nat)
  | ret
  | stuck
  | rng (g : Opd) (ps : List Nat) (a b : ACode)
  deriving Inhabited

inductive AX where
  | nrm
  | exit (id : Nat)
  | ret
  deriving DecidableEq

abbrev ARun := Tm → AH → Option (AX × Tm × AH)

def aiter (f : ARun) : Nat → ARun
  | 0, _, _ => none
  | n + 1, T, h => match f T h with
    | some (.nrm, T', h') => aiter f n T' h'
    | r => r

def aexec (cl : Handler) (N : Nat) : ACode → ARun
  | .skip => fun T h => some (.nrm, T, h)
  | .reg ops => fun T h => match aops cl ops T h with
    | some (T', h') => some (.nrm, T', h')
    | none => none
  | .draw ops => fun T h => match adraw cl ops T h with
    | some (T', h') => some (.nrm, T', h')
    | none => none
  | .seq a b => fun T h => match aexec cl N a T h with
    | some (.nrm, T', h') => aexec cl N b T' h'
    | r => r
  | .cond c t e => fun T h => match c.ev T with
    | .bool true => aexec cl N t T h
    | .bool false => aexec cl N e T h
    | _ => none
  | .block id b => fun T h => match aexec cl N b T h with
    | some (.exit j, T', h') => if j = id then some (.nrm, T', h') else some (.exit j, T', h')
    | r => r
  | .loop b => fun T h => aiter (aexec cl N b) N T h
  | .exit id => fun T h => some (.exit id, T, h)
  | .ret => fun T h => some (.ret, T, h)
  | .stuck => fun _ _ => none
  | .rng _ _ _ _ => fun _ _ => none

/-- every edge leads to an operation ahead -/
def edgesFrom (i : Nat) : List Oper → Bool
  | [] => true
  | o :: r => o.after.all (fun e => !Region.binds .any e || Nat.blt e.on i) && edgesFrom (i + 1) r
def edgesOk (ops : Array Oper) : Bool := edgesFrom 0 ops.toList

def cCode (P : Program) (nt : Nat) : Code → Option ACode
  | .skip => some .skip
  | .label _ => some .skip
  | .region _ ops draw =>
    match cOprs P nt ops ops.toList with
    | some l => if draw then (if P.follows .mixedOrders && edgesOk ops then some (.draw (l.zip (Region.before ops).toList)) else none) else some (.reg l)
    | none => none
  | .seq a b => match cCode P nt a, cCode P nt b with
    | some x, some y => some (.seq x y)
    | _, _ => none
  | .cond c a b => match cOpd c, cCode P nt a, cCode P nt b with
    | some c', some x, some y => some (.cond c' x y)
    | _, _, _ => none
  | .block id a => match cCode P nt a with
    | some x => some (.block id x)
    | none => none
  | .loop a => match cCode P nt a with
    | some x => some (.loop x)
    | none => none
  | .exit id => some (.exit id)
  | .ret => some .ret
  | .rangeFunc g ps a b => match cOpd g, cCode P nt a, cCode P nt b with
    | some g', some x, some y => if ps.toList.all (fun p => Nat.blt p nt) then some (.rng g' ps.toList x y) else none
    | _, _, _ => none
  | _ => some .stuck

/-! ## functions -/
inductive ARes where
  | tmp (t : Nat)
  | cell (t : Nat) (n : Option Nat)

structure AFn where
  nt : Nat
  res : List ARes
  body : ACode

def cRes (P : Program) : List ResultVar → Option (List ARes)
  | [] => some []
  | .tmp t :: r => match cRes P r with
    | some l => some (.tmp t :: l)
    | none => none
  | .cell t ty :: r => match aggOf P ty, cRes P r with
    | some n, some l => some (.cell t n :: l)
    | _, _ => none
def cFn (P : Program) (fn : Func) : Option AFn :=
  match fn.body with
  | some c => match cCode P fn.ntmps c, cRes P fn.results.toList with
    | some b, some r => some ⟨fn.ntmps, r, b⟩
    | _, _ => none
  | none => none

def ares (T : Tm) (h : AH) : List ARes → Option (List AV)
  | [] => some []
  | .tmp t :: r => match ares T h r with
    | some l => some ((T.get t).getD .undef :: l)
    | none => none
  | .cell t n :: r =>
    match (match n with
      | none => aload1 h ((T.get t).getD .undef)
      | some n => (aloadn h n ((T.get t).getD .undef)).map .agg), ares T h r with
    | some v, some l => some (v :: l)
    | _, _ => none
def aret : List AV → AV
  | [v] => v
  | vs => .tup vs
def initT : List AV → Nat → Tm → Tm
  | [], _, T => T
  | v :: r, i, T => initT r (i + 1) (T.put i v)

def arunFn (cl : Handler) (N : Nat) (f : AFn) (args : List AV) (h : AH) : Option (AV × AH) :=
  if args.length ≤ f.nt then
    match aexec cl N f.body (initT args 0 .leaf) h with
    | some (.exit _, _, _) => none
    | some (_, T, h') => match ares T h' f.res with
      | some vs => some (aret vs, h')
      | none => none
    | none => none
  else none

def acall (ft : Nat → Option AFn) (N : Nat) : Nat → Handler
  | 0 => fun _ _ _ => none
  | d + 1 => fun f args h => match ft f with
    | some af => arunFn (acall ft N d) N af args h
    | none => none

end Go.Eng
