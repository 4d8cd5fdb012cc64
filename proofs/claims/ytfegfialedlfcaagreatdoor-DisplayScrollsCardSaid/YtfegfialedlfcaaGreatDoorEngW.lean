/- The abstract interpreter as a transformer of predicates: calls by contracts, loops by invariants, joins by predicates. Definitions. -/
import Derived.Test.YtfegfialedlfcaaGreatDoorEngT
import Derived.LoopNIn
set_option linter.unusedSimpArgs false
set_option linter.unusedVariables false
set_option linter.unnecessarySimpa false
noncomputable section
namespace Go.Eng
open Go.RowKit
abbrev QT := AV → AH → Prop
abbrev I (n : Int) : AV := .int .i64 n
abbrev NT := List AV → AH → Prop
abbrev KT := AX → List AV → List AV → AH → Prop
abbrev JT := AX → List AV → AH → Prop
/-! ## contracts -/
def Fex (P : Program) (f : Nat) : Prop := ∃ fn, P.funcs[f]? = some fn ∧ fn.body.isSome = true ∧ fn.name ≠ "runtime.NumGoroutine"
/-- function f, called with args where the owned objects are h, returns a value and leaves objects of which Q holds -/
def CallsA (P : Program) (f : Nat) (args : List AV) (h : AH) (Q : AV → AH → Prop) : Prop :=
  Fex P f ∧ ∀ (own : Nat → Prop) (β : Bl) (w : World) (cargs : Array Value), SimH own β h.H h.nx w → RL w.heap (LL own β h.H) β args cargs.toList →
    Calls P f cargs w fun e w' => ∃ cv v h' β', e = .returned cv ∧ Q v h' ∧ SimH own β' h'.H h'.nx w' ∧ VR w'.heap (LL own β' h'.H) β' v cv ∧ Trans own β h w β' h' w'
/-- the same, the value and the objects given -/
def CallD (P : Program) (f : Nat) (args : List AV) (h : AH) (v : AV) (h' : AH) : Prop := CallsA P f args h fun v1 h1 => v1 = v ∧ h1 = h'

theorem CallsA.mono {P : Program} {f : Nat} {args : List AV} {h : AH} {Q R : AV → AH → Prop} (hc : CallsA P f args h Q) (hq : ∀ v h', Q v h' → R v h') : CallsA P f args h R :=
  ⟨hc.1, fun own β w cargs hs hR => (hc.2 own β w cargs hs hR).mono fun e w' ⟨cv, v, h', β', h1, h2, h3⟩ => ⟨cv, v, h', β', h1, hq _ _ h2, h3⟩⟩
theorem CallD.calls {P : Program} {f : Nat} {args : List AV} {h h' : AH} {v : AV} {Q : AV → AH → Prop} (hc : CallD P f args h v h') (hq : Q v h') : CallsA P f args h Q :=
  hc.mono fun v1 h1 he => by obtain ⟨rfl, rfl⟩ := he; exact hq

open Classical in
noncomputable def oneH (f : Nat) (args : List AV) (h : AH) (v : AV) (h' : AH) : Handler := fun f1 args1 h1 => if f1 = f ∧ args1 = args ∧ h1 = h then some (v, h') else none
theorem oneH_self (f : Nat) (args : List AV) (h : AH) (v : AV) (h' : AH) : oneH f args h v h' f args h = some (v, h') := by simp [oneH]
theorem oneH_ok {P : Program} {f : Nat} {args : List AV} {h h' : AH} {v : AV} (hc : CallD P f args h v h') : HOk P (oneH f args h v h') := by
  intro f1 args1 h1 v1 h1' he
  unfold oneH at he
  split at he
  · rename_i hq
    obtain ⟨rfl, rfl, rfl⟩ := hq
    cases he
    refine ⟨hc.1, fun own β w cargs hs hR => (hc.2 own β w cargs hs hR).mono ?_⟩
    rintro e w' ⟨cv, v2, h2, β', h1, ⟨rfl, rfl⟩, h3, h4, h5⟩
    exact ⟨cv, β', h1, h3, h4, h5⟩
  · cases he
def noH : Handler := fun _ _ _ => none
theorem noH_ok {P : Program} : HOk P noH := fun f args h v h' he => by simp [noH] at he

/-! ## operations -/
def wk (r : Option (AV × AH)) (k : AV → AH → Prop) : Prop :=
  match r with
  | some (v, h') => k v h'
  | none => False
/-- what is known of calls -/
abbrev CL := Nat → List AV → AH → (AV → AH → Prop) → Prop
def CLOk (P : Program) (cl : CL) : Prop := ∀ f args h Q, cl f args h Q → ∃ v h', CallD P f args h v h' ∧ Q v h'
def wcall (cl : CL) (f : AV) (args : List AV) (h : AH) (k : AV → AH → Prop) : Prop :=
  match f with
  | .func (.func g) first captured => cl g (first ++ args ++ captured) h k
  | _ => False
def wop (cl : CL) (op : AOp) (T : Tm) (h : AH) (k : AV → AH → Prop) : Prop :=
  match op with
  | .call f args => wcall cl (f.ev T) (args.map (·.ev T)) h k
  | .mov x => k (x.ev T) h
  | op => wk (aop noH T h op) k
/-- an operation that is only carried out if it is wanted -/
def wg (g : Option Bool) (A : (AV → AH → Prop) → Prop) (h : AH) (k : AV → AH → Prop) : Prop :=
  match g with
  | some b => (b = true → A k) ∧ (b = false → k skipped h)
  | none => False
def wops (cl : CL) : List AOpr → Tm → AH → (Tm → AH → Prop) → Prop
  | [], T, h, k => k T h
  | ⟨d, op, none⟩ :: r, T, h, k => wop cl op T h fun v h' => wops cl r (tput T d v) h' k
  | ⟨d, op, some g⟩ :: r, T, h, k => wg (gd T (some g)) (wop cl op T h) h fun v h' => wops cl r (tput T d v) h' k

/-- a register that is a truth is taken apart -/
def wsp (v : AV) (K : AV → Prop) : Prop :=
  match v with
  | .bool b => (b = true → K (.bool true)) ∧ (b = false → K (.bool false))
  | v => K v
def wspl (o : Option Nat) (T : Tm) (K : Tm → Prop) : Prop :=
  match o with
  | none => K T
  | some r => match T.get r with
    | some v => wsp v fun v => K (T.put r v)
    | none => K T
def wopsS (cl : CL) : List (AOpr × Option Nat) → Tm → AH → (Tm → AH → Prop) → Prop
  | [], T, h, k => k T h
  | (⟨d, op, none⟩, sp) :: r, T, h, k => wspl sp T fun T => wop cl op T h fun v h' => wopsS cl r (tput T d v) h' k
  | (⟨d, op, some g⟩, sp) :: r, T, h, k => wspl sp T fun T => wg (gd T (some g)) (wop cl op T h) h fun v h' => wopsS cl r (tput T d v) h' k

/-! ## regions that draw their order -/
def rdK (o : Option Nat) : Rec :=
  match o with
  | some x => .read x
  | none => .pure
def wal (r : Option (AObj × (Nat → AV))) (k : AObj → (Nat → AV) → Prop) : Prop :=
  match r with
  | some (cs, mk) => k cs mk
  | none => False
def wdop (cl : CL) (op : AOp) (r : Nat) (T : Tm) (h : AH) (k : AV → Rec → AH → Prop) : Prop :=
  cond (aA op) (wal (aalloc T op) fun cs mk => k (mk r) (.alloc r cs) (h.set r cs))
    (match op with
    | .call f args => wcall cl (f.ev T) (args.map (·.ev T)) h fun v h' => h.nx ≤ h'.nx ∧ k v (.eff h h') h'
    | op => cond (aE op) (wk (aop noH T h op) fun v h' => h.nx ≤ h'.nx ∧ k v (.eff h h') h') (wk (aop noH T h op) fun v _ => k v (rdK (aRd T op)) h))
def wgd (g : Option Bool) (A : (AV → Rec → AH → Prop) → Prop) (h : AH) (k : AV → Rec → AH → Prop) : Prop :=
  match g with
  | some b => (b = true → A k) ∧ (b = false → k skipped .pure h)
  | none => False
def wdops (cl : CL) : List AOpr → Nat → Tm → AH → (List Rec → Tm → AH → Prop) → Prop
  | [], _, T, h, k => k [] T h
  | ⟨d, op, none⟩ :: l, r, T, h, k => wdop cl op r T h fun v c h' => wdops cl l (r + 1) (tput T d v) h' fun ks => k (c :: ks)
  | ⟨d, op, some g⟩ :: l, r, T, h, k => wgd (gd T (some g)) (wdop cl op r T h) h fun v c h' => wdops cl l (r + 1) (tput T d v) h' fun ks => k (c :: ks)

def wdopsS (cl : CL) : List (AOpr × Option Nat) → Nat → Tm → AH → (List Rec → Tm → AH → Prop) → Prop
  | [], _, T, h, k => k [] T h
  | (⟨d, op, none⟩, sp) :: l, r, T, h, k => wspl sp T fun T => wdop cl op r T h fun v c h' => wdopsS cl l (r + 1) (tput T d v) h' fun ks => k (c :: ks)
  | (⟨d, op, some g⟩, sp) :: l, r, T, h, k => wspl sp T fun T => wgd (gd T (some g)) (wdop cl op r T h) h fun v c h' => wdopsS cl l (r + 1) (tput T d v) h' fun ks => k (c :: ks)

/-- what an operation does at the most: 0 nothing, 1 it reads, 2 it makes an object, 3 anything -/
def stK (op : AOp) : Nat :=
  cond (aA op) 2 (cond (aE op) 3 (match op with | .ld1 _ => 1 | .ldn _ _ => 1 | .xo _ _ => 1 | _ => 0))
def fineK (a b : Nat) : Bool :=
  Nat.beq a 0 || Nat.beq b 0 || (Nat.beq a 1 && Nat.beq b 1) || (Nat.beq a 2 && Nat.beq b 2) || (Nat.beq a 3 && Nat.beq b 2)
def dynRow (o : AOpr) (bits j : Nat) : Nat → List AOpr → List (Nat × Nat)
  | _, [] => []
  | i, p :: r => cond (Nat.testBit bits i || fineK (stK p.op) (stK o.op)) (dynRow o bits j (i + 1) r) ((i, j) :: dynRow o bits j (i + 1) r)
def dynPairs : List (AOpr × Nat) → Nat → List AOpr → List (Nat × Nat)
  | [], _, _ => []
  | (o, bits) :: l, j, acc => dynRow o bits j 0 acc ++ dynPairs l (j + 1) (acc ++ [o])
def tmpRow (o : AOpr) (bits : Nat) : Nat → List AOpr → Bool
  | _, [] => true
  | i, p :: r => (Nat.testBit bits i || tmpOk p o) && tmpRow o bits (i + 1) r
def tmpPairs : List (AOpr × Nat) → List AOpr → Bool
  | [], _ => true
  | (o, bits) :: l, acc => tmpRow o bits 0 acc && tmpPairs l (acc ++ [o])
def chk (ks : List Rec) : List (Nat × Nat) → Prop → Prop
  | [], p => p
  | (i, j) :: r, p => recOk (ks.getD i .pure) (ks.getD j .pure) = true ∧ chk ks r p
/-- two stores at the end of which nothing says which is first -/
def swp (ops : List (AOpr × Nat)) : Bool :=
  match ops.drop (ops.length - 2) with
  | [x, y] => cond (isSt x.1) (cond (isSt y.1) (!(Nat.testBit y.2 (ops.length - 2)) && ops.all fun z => Nat.blt z.2 (2 ^ (ops.length - 2))) false) false
  | _ => false
/-- .. the first one first -/
def tieL (ops : List (AOpr × Nat)) : List (AOpr × Nat) :=
  match ops.drop (ops.length - 2) with
  | [x, y] => ops.take (ops.length - 2) ++ [x, (y.1, y.2 ||| 2 ^ (ops.length - 2))]
  | _ => ops
def swpL (ops : List (AOpr × Nat)) : List (AOpr × Nat) := ops.take (ops.length - 2) ++ (ops.drop (ops.length - 2)).reverse
def wdraw2 (cl : CL) (ops : List (AOpr × Nat)) (T : Tm) (h : AH) (k : Tm → AH → Prop) : Prop :=
  cond (tmpPairs (tieL ops) [] && tmpPairs (tieL (swpL ops)) []) (wdops cl ((ops.take (ops.length - 2)).map (·.1)) h.nx T ⟨h.H, h.nx + ops.length⟩ fun ks T h' =>
    (wdops cl ((ops.drop (ops.length - 2)).map (·.1)) (h.nx + (ops.length - 2)) T h' fun ks2 T' h' => chk (ks ++ ks2) (dynPairs (tieL ops) 0 []) (k T' h')) ∧
    (wdops cl ((ops.drop (ops.length - 2)).reverse.map (·.1)) (h.nx + (ops.length - 2)) T h' fun ks2 T' h' => chk (ks ++ ks2) (dynPairs (tieL (swpL ops)) 0 []) (k T' h'))) False
def wdraw1 (cl : CL) (ops : List (AOpr × Nat)) (T : Tm) (h : AH) (k : Tm → AH → Prop) : Prop :=
  cond (tmpPairs ops []) (wdops cl (ops.map (·.1)) h.nx T ⟨h.H, h.nx + ops.length⟩ fun ks T' h' => chk ks (dynPairs ops 0 []) (k T' h')) False
def wdraw (cl : CL) (ops : List (AOpr × Nat)) (T : Tm) (h : AH) (k : Tm → AH → Prop) : Prop :=
  cond (swp ops) (wdraw2 cl ops T h k) (wdraw1 cl ops T h k)
def wdrawS (cl : CL) (ops : List ((AOpr × Nat) × Option Nat)) (T : Tm) (h : AH) (k : Tm → AH → Prop) : Prop :=
  cond (tmpPairs (ops.map (·.1)) []) (wdopsS cl (ops.map fun x => (x.1.1, x.2)) h.nx T ⟨h.H, h.nx + ops.length⟩ fun ks T' h' => chk ks (dynPairs (ops.map (·.1)) 0 []) (k T' h')) False

/-! ## code -/
def wif (c : AV) (x y : Prop) : Prop :=
  match c with
  | .bool b => (b = true → x) ∧ (b = false → y)
  | _ => False
def wjoin (A : (AX → List AV → AH → Prop) → Prop) (k : AX → List AV → AH → Prop) : Prop :=
  ∃ M : AX → List AV → AH → Prop, A M ∧ ∀ x vs h, M x vs h → k x vs h
def wjoinN (A : (List AV → AH → Prop) → Prop) (k : List AV → AH → Prop) : Prop :=
  ∃ M : List AV → AH → Prop, A M ∧ ∀ vs h, M vs h → k vs h
def lk (m : Nat) (I : Nat → List AV → AH → Prop) (k : AX → List AV → AH → Prop) : AX → List AV → List AV → AH → Prop
  | .nrm, vi, _, h => ∃ m', m' < m ∧ I m' vi h
  | .exit j, _, vo, h => k (.exit j) vo h
  | .ret, _, vo, h => k .ret vo h
def wloop (B : List AV → AH → (AX → List AV → List AV → AH → Prop) → Prop) (vals : List AV) (h : AH) (k : AX → List AV → AH → Prop) : Prop :=
  ∃ (I : Nat → List AV → AH → Prop) (m : Nat), I m vals h ∧ ∀ m vs h, I m vs h → B vs h (lk m I k)
def lkT (m : Nat) (I : Nat → Tm → AH → Prop) (k : AX → Tm → AH → Prop) : AX → Tm → AH → Prop
  | .nrm, T, h => ∃ m', m' < m ∧ I m' T h
  | .exit j, T, h => k (.exit j) T h
  | .ret, T, h => k .ret T h
def wloopT (B : Tm → AH → (AX → Tm → AH → Prop) → Prop) (T : Tm) (h : AH) (k : AX → Tm → AH → Prop) : Prop :=
  ∃ (I : Nat → Tm → AH → Prop) (m : Nat), I m T h ∧ ∀ m T h, I m T h → B T h (lkT m I k)
abbrev xs (x : AX) (kn : Prop) (ke : Nat → Prop) (kr : Prop) : Prop :=
  match x with
  | .nrm => kn
  | .exit j => ke j
  | .ret => kr

/-! ## ranges over a slice from behind, by its iterator -/
def chunk (z : Nat) : Nat → List AV → List (List AV)
  | 0, _ => []
  | n + 1, l => l.take z :: chunk z n (l.drop z)
theorem chunk_len (z : Nat) : ∀ (n : Nat) (l : List AV), (chunk z n l).length = n
  | 0, _ => rfl
  | n + 1, l => by simp [chunk, chunk_len z n]
theorem chunk_get (z : Nat) : ∀ (n : Nat) (l : List AV) (k : Nat), k < n → (chunk z n l)[k]? = some ((l.drop (k * z)).take z)
  | 0, _, k, h => by omega
  | n + 1, l, 0, h => by simp [chunk]
  | n + 1, l, k + 1, h => by
    simp only [chunk, List.getElem?_cons_succ]
    rw [chunk_get z n (l.drop z) k (by omega), List.drop_drop, Nat.succ_mul, Nat.add_comm]
/-- the elements of a slice, z cells each -/
def elemsZ (h : AH) (z : Nat) (v : AV) : Option (List (List AV)) :=
  match v with
  | .nilsl => some []
  | .esl => some []
  | .psl xs => if xs.all (fun x => Nat.beq x.length z && ones x) && Nat.ble xs.length 9223372036854775807 then some xs else none
  | .rsl id off len z' => if z' = z then match h.cellsAt id with
    | some cs => match cut cs off (len * z) with
      | some l => if ones l then some (chunk z len l) else none
      | none => none
    | none => none
    else none
  | _ => none
def elV (en : Option Nat) (x : List AV) : AV :=
  match en with
  | none => x.headD .undef
  | some _ => .agg x
/-- one of the iterators over the slice in box b; an invariant over the number of rounds -/
def wrg (its : List It) (v : AV) (B : AV → AV → AH → (AX → AH → Prop) → Prop) (h : AH) (k : AX → AH → Prop) : Prop :=
  ∃ it ∈ its, ∃ (b : Nat) (sl : AV) (xl : List (List AV)) (I : Nat → AH → Prop), v = .func (.func it.f) [] [.ptr b 0] ∧ I 0 h ∧ (∀ i h1, I i h1 → h1.cellsAt b = some [sl] ∧ elemsZ h1 it.z sl = some xl) ∧
    (∀ i h1 x, I i h1 → i < xl.length → xl[it.pos xl.length i]? = some x → B (.int .i64 ((it.pos xl.length i : Nat) : Int)) (elV it.en x) h1 fun y h3 => xs y (I (i + 1) h3) (fun j => k (.exit j) h3) (k .ret h3)) ∧
    ∀ h1, I xl.length h1 → k .nrm h1
def wps (ps : List Nat) (K : Nat → Nat → Prop) : Prop :=
  match ps with
  | [p, q] => K p q
  | _ => False

/-- from here on nothing is written any more: what stands in memory is taken as frozen -/
def wfrz (vs : List AV) (h : AH) (k : List AV → AH → Prop) : Prop :=
  ∃ vs' : List AV, (∀ (own : Nat → Prop) (β : Bl) (w : World), SimH own β h.H h.nx w → ∀ (i : Nat) (a b : AV) (v : Value), vs[i]? = some a → vs'[i]? = some b → VR w.heap (LL own β h.H) β a v → VR w.heap (LL own β .leaf) β b v) ∧ k vs' ⟨.leaf, h.nx⟩

def wexec (cl : CL) : SCode → Tm → AH → (AX → Tm → AH → Prop) → Prop
  | .skip, T, h, k => k .nrm T h
  | .reg ops, T, h, k => wops cl ops T h fun T h => k .nrm T h
  | .draw ops, T, h, k => wdraw cl ops T h fun T h => k .nrm T h
  | .regS ops, T, h, k => wopsS cl ops T h fun T h => k .nrm T h
  | .drawS ops, T, h, k => wdrawS cl ops T h fun T h => k .nrm T h
  | .seq a b, T, h, k => wexec cl a T h fun x T h => xs x (wexec cl b T h k) (fun j => k (.exit j) T h) (k .ret T h)
  | .cond c t e, T, h, k => wif (c.ev T) (wexec cl t T h k) (wexec cl e T h k)
  | .block id b, T, h, k => wexec cl b T h fun x T h => xs x (k .nrm T h) (fun j => cond (Nat.beq j id) (k .nrm T h) (k (.exit j) T h)) (k .ret T h)
  | .loop li lo b, T, h, k => wloop (fun vals h k' => wexec cl b (mkT li vals) h fun x T h => k' x (getL li T) (getL lo T) h) (getL li T) h fun x vals h => k x (mkT lo vals) h
  | .join lo a, T, h, k => wjoin (fun k' => wexec cl a T h fun x T h => k' x (getL lo T) h) fun x vals h => k x (mkT lo vals) h
  | .joinN lo a, T, h, k => wjoinN (fun k' => wexec cl a T h fun x T h => xs x (k' (getL lo T) h) (fun _ => False) False) fun vals h => k .nrm (mkT lo vals) h
  | .exit id, T, h, k => k (.exit id) T h
  | .ret, T, h, k => k .ret T h
  | .stuck, _, _, _ => False
  | .frz lo a, T, h, k => wfrz (getL lo T) h fun vals h => wexec cl a (mkT lo vals) h k
  | .loopT b, T, h, k => wloopT (wexec cl b) T h k
  | .rng it g ps a b, T, h, k => wps ps fun p q => wrg it (g.ev T) (fun x y h1 k1 => wexec cl a ((T.put p x).put q y) h1 fun z T1 h2 => xs z (wexec cl b T1 h2 fun z _ h3 => k1 z h3) (fun _ => False) False) h fun z h3 => k z T h3

def wres (r : Option (List AV)) (h : AH) (Q : AV → AH → Prop) : Prop :=
  match r with
  | some vs => Q (aret vs) h
  | none => False
def wfin (res : List ARes) (Q : AV → AH → Prop) (x : AX) (T : Tm) (h : AH) : Prop :=
  xs x (wres (ares T h res) h Q) (fun _ => False) (wres (ares T h res) h Q)
def wrun (cl : CL) (f : SFn) (args : List AV) (h : AH) (Q : AV → AH → Prop) : Prop :=
  cond (Nat.ble args.length f.nt) (wexec cl f.body (initT args 0 .leaf) h (wfin f.res Q)) False

/-! ## soundness: operations -/
section
variable {P : Program} {nt : Nat} {ds : List Deferred} {own : Nat → Prop} {β : Bl} {T : Tm} {h : AH} {a : Act} {w : World}
theorem call_wp {cl : CL} (hcl : CLOk P cl) (hs : Sim nt ds own β T h a w) {o : Oper} {f : Opd} {args : List Opd} (hc : cOpX P o.op = .call f args) {k : AV → AH → Prop} (ha : wcall cl (f.ev T) (args.map (·.ev T)) h k)
    {K : Act → World → Prop} {Q : Exit → Act → World → Prop}
    (hK : ∀ v h', k v h' → ∀ cv w' β', SimH own β' h'.H h'.nx w' → VR w'.heap (LL own β' h'.H) β' v cv → Trans own β h w β' h' w' → K (a.put o.dst cv) w') : o.wp P a w K Q := by
  have hop := cOp_call (cOpX_call hc)
  obtain ⟨c, fo, hop, hco, hf, has⟩ := hop
  have hfv := cOpd_ok hs hf
  unfold wcall at ha
  cases hfe : f.ev T <;> rw [hfe] at ha hfv <;> (try simp only at ha) <;> try (cases ha; done)
  rename_i fn first captured
  cases fn <;> (try simp only at ha) <;> try (cases ha; done)
  rename_i g
  obtain ⟨v0, h0, hd, hk0⟩ := hcl _ _ _ _ ha
  obtain ⟨⟨fn, hfn, hbody, hname⟩, hcalls⟩ := hd.calls hk0
  generalize hce : a.eval fo = cf at hfv
  cases hfv
  rename_i f2 c2 hl1 h1 hl2 h2
  have hR : RL w.heap (LL own β h.H) β (first ++ args.map (·.ev T) ++ captured) (f2 ++ c.args.map a.eval ++ c2).toList := by
    have r1 : RL w.heap (LL own β h.H) β first f2.toList := ⟨by simpa using hl1, fun i c v hc hv => h1 i c v hc (by simpa using hv)⟩
    have r2 : RL w.heap (LL own β h.H) β captured c2.toList := ⟨by simpa using hl2, fun i c v hc hv => h2 i c v hc (by simpa using hv)⟩
    have r3 := cOpds_ok hs has
    have := (r1.append r3).append r2
    simpa using this
  have hrun : (execOp a.eval o).run P w = .ok (.enter g (f2 ++ c.args.map a.eval ++ c2)) w := by
    have hb : fn.body.isNone = false := by cases hq : fn.body <;> simp_all
    simp only [execOp, hop, resolve, hco, hce, Deferred.ofValue, Sem.run_bind, Sem.run_pure, Result.andThen_ok, invoke, callFunc, run_program, hfn]
    simp [hname, hb]
  unfold Oper.wp
  rw [hrun]
  show Calls P g _ w _
  refine (hcalls own β w _ hs.hp hR).mono ?_
  rintro e w' ⟨cv, v, h', β', rfl, h3, h4, h5, h6⟩
  exact hK v h' h3 cv w' β' h4 h5 h6

theorem wop_wp {cl : CL} (hcl : CLOk P cl) (hs : Sim nt ds own β T h a w) {o : Oper} {ao : AOp} (hc : cOpX P o.op = ao) {k : AV → AH → Prop} (ha : wop cl ao T h k)
    {K : Act → World → Prop} {Q : Exit → Act → World → Prop}
    (hK : ∀ v h', k v h' → ∀ cv w' β', SimH own β' h'.H h'.nx w' → VR w'.heap (LL own β' h'.H) β' v cv → Trans own β h w β' h' w' → K (a.put o.dst cv) w') : o.wp P a w K Q := by
  unfold wop at ha
  split at ha
  · rename_i f args; exact call_wp hcl hs hc ha hK
  · rename_i x
    exact op_wp noH_ok hs hc (by rfl) (hK (x.ev T) h ha)
  · unfold wk at ha
    split at ha
    · rename_i v h' hop
      exact op_wp noH_ok hs hc hop (hK v h' ha)
    · exact ha.elim

theorem wops_wp {cl : CL} (hcl : CLOk P cl) {ops : Array Oper} {Q : Exit → Act → World → Prop} : ∀ (l : List Oper) (al : List AOpr) (T : Tm) (h : AH) (k : Tm → AH → Prop) (a : Act) (w : World) (β : Bl), cOprs P nt ops l = some al → wops cl al T h k → Sim nt ds own β T h a w →
    (∀ T' h', k T' h' → ∀ β' a' w', Sim nt ds own β' T' h' a' w' → Trans own β h w β' h' w' → Q .normal a' w') → wpList P ops Q l a w
  | [], al, T, h, k, a, w, β, hc, ha, hs, hQ => by
    simp [cOprs] at hc; subst hc
    exact hQ T h ha β a w hs (.refl _ _ _ _)
  | o :: l, al, T, h, k, a, w, β, hc, ha, hs, hQ => by
    unfold cOprs at hc
    split at hc
    case h_2 => cases hc
    rename_i ao al' h1 h2
    cases hc
    obtain ⟨q1, q2, q3⟩ := cOpr_spec h1
    have run : wop cl ao.op T h (fun v h' => wops cl al' (tput T ao.dst v) h' k) → gd T ao.guard = some true → wpList P ops Q (o :: l) a w := by
      intro ha hg
      have hw := gd_wanted hs h1 hg
      unfold wpList
      rw [hw, if_pos rfl]
      refine .inl (wop_wp hcl hs q1 ha fun v h' hk cv w' β' g1 g2 g3 => ?_)
      rw [q3] at hk
      exact wops_wp hcl l al' _ h' k _ w' β' h2 hk (hs.put q2 g1 g2 g3) fun T' h'' hk' β'' a'' w'' k1 k2 => hQ T' h'' hk' β'' a'' w'' k1 (g3.trans k2)
    obtain ⟨d, op, gu⟩ := ao
    cases gu with
    | none => exact run ha rfl
    | some g =>
      simp only [wops, wg] at ha
      split at ha
      case h_2 => exact ha.elim
      rename_i b hg
      cases b with
      | true => exact run (ha.1 rfl) hg
      | false =>
        have hw := gd_wanted hs h1 hg
        unfold wpList
        rw [hw, if_neg (by simp)]
        have hk := ha.2 rfl
        rw [show d = o.dst from q3] at hk
        refine wops_wp hcl l al' _ h k _ w β h2 hk (hs.put q2 hs.hp (?_ : VR _ _ _ skipped Go.undef) (.refl _ _ _ _)) fun T' h'' hk' β'' a'' w'' k1 k2 => hQ T' h'' hk' β'' a'' w'' k1 k2
        exact .tup [] #[] rfl (fun i c v hc => by simp at hc)
end
section
variable {P : Program} {nt : Nat} {ds : List Deferred} {own : Nat → Prop}
theorem Tm.put_self {T : Tm} {r : Nat} {v : AV} (h : T.get r = some v) : T.put r v = T := by
  funext t
  show cond (Nat.beq t r) (some v) (T t) = T t
  cases hb : Nat.beq t r with
  | true => obtain rfl := Nat.eq_of_beq_eq_true hb; exact h.symm
  | false => rfl
theorem wspl_elim {o : Option Nat} {T : Tm} {K : Tm → Prop} (hw : wspl o T K) : K T := by
  unfold wspl at hw
  split at hw
  · exact hw
  · split at hw
    · rename_i r v hv
      unfold wsp at hw
      split at hw
      · rename_i b
        cases b with
        | true => have := hw.1 rfl; simp only [Tm.put_self hv] at this; exact this
        | false => have := hw.2 rfl; simp only [Tm.put_self hv] at this; exact this
      · rwa [Tm.put_self hv] at hw
    · exact hw
theorem wopsS_wp {cl : CL} (hcl : CLOk P cl) {ops : Array Oper} {Q : Exit → Act → World → Prop} : ∀ (l : List Oper) (al : List (AOpr × Option Nat)) (T : Tm) (h : AH) (k : Tm → AH → Prop) (a : Act) (w : World) (β : Bl), cOprs P nt ops l = some (al.map (·.1)) → wopsS cl al T h k → Sim nt ds own β T h a w →
    (∀ T' h', k T' h' → ∀ β' a' w', Sim nt ds own β' T' h' a' w' → Trans own β h w β' h' w' → Q .normal a' w') → wpList P ops Q l a w
  | [], al, T, h, k, a, w, β, hc, ha, hs, hQ => by
    simp [cOprs] at hc; subst hc
    exact hQ T h ha β a w hs (.refl _ _ _ _)
  | o :: l, al, T, h, k, a, w, β, hc, ha, hs, hQ => by
    unfold cOprs at hc
    split at hc
    case h_2 => cases hc
    rename_i ao al' h1 h2
    cases al with
    | nil => simp at hc
    | cons x al =>
    obtain ⟨⟨d, op, gu⟩, sp⟩ := x
    simp at hc
    obtain ⟨rfl, hal⟩ := hc
    rw [hal] at h2
    obtain ⟨q1, q2, q3⟩ := cOpr_spec h1
    have run : ∀ T, Sim nt ds own β T h a w → wop cl op T h (fun v h' => wopsS cl al (tput T d v) h' k) → gd T gu = some true → wpList P ops Q (o :: l) a w := by
      intro T hs ha hg
      have hw := gd_wanted hs h1 hg
      unfold wpList
      rw [hw, if_pos rfl]
      refine .inl (wop_wp hcl hs q1 ha fun v h' hk cv w' β' g1 g2 g3 => ?_)
      rw [show d = o.dst from q3] at hk
      exact wopsS_wp hcl l al _ h' k _ w' β' h2 hk (hs.put q2 g1 g2 g3) fun T' h'' hk' β'' a'' w'' k1 k2 => hQ T' h'' hk' β'' a'' w'' k1 (g3.trans k2)
    cases gu with
    | none =>
      exact run T hs (wspl_elim ha) rfl
    | some g =>
      simp only [wopsS] at ha
      have ha' := wspl_elim ha
      simp only [wg] at ha'
      split at ha'
      case h_2 => exact ha'.elim
      rename_i b hg
      cases b with
      | true => exact run T hs (ha'.1 rfl) hg
      | false =>
        have hw := gd_wanted hs h1 hg
        unfold wpList
        rw [hw, if_neg (by simp)]
        have hk := ha'.2 rfl
        rw [show d = o.dst from q3] at hk
        refine wopsS_wp hcl l al _ h k _ w β h2 hk (hs.put q2 hs.hp (?_ : VR _ _ _ skipped Go.undef) (.refl _ _ _ _)) fun T' h'' hk' β'' a'' w'' k1 k2 => hQ T' h'' hk' β'' a'' w'' k1 k2
        exact .tup [] #[] rfl (fun i c v hc => by simp at hc)
end
/-! ## soundness: regions that draw their order -/
def RecK (n : Nat) (k : Rec) : Prop :=
  k = .pure ∨ (n = 1 ∧ ∃ x, k = .read x) ∨ (n = 2 ∧ ∃ r cs, k = .alloc r cs) ∨ (n = 3 ∧ ∃ V C, k = .eff V C)
theorem fine_ok {a b : Nat} {x y : Rec} (hf : fineK a b = true) (hx : RecK a x) (hy : RecK b y) : recOk x y = true := by
  rcases hx with rfl | ⟨rfl, _, rfl⟩ | ⟨rfl, _, _, rfl⟩ | ⟨rfl, _, _, rfl⟩ <;> rcases hy with rfl | ⟨rfl, _, rfl⟩ | ⟨rfl, _, _, rfl⟩ | ⟨rfl, _, _, rfl⟩ <;> first | rfl | (simp [fineK] at hf)

theorem wdop_step {P : Program} {cl : CL} (hcl : CLOk P cl) {d : Option Nat} {op : AOp} {g : Option (Nat × Bool)} {r : Nat} {T : Tm} {h : AH} {k : AV → Rec → AH → Prop} (hg : gd T g = some true) (hw : wdop cl op r T h k) :
    ∃ cl s, HOk P cl ∧ dstep cl ⟨d, op, g⟩ r T h = some s ∧ k s.v s.k s.h' ∧ RecK (stK op) s.k := by
  unfold wdop at hw
  cases hA : aA op with
  | true =>
    rw [hA] at hw
    simp only [cond_true, wal] at hw
    split at hw
    · rename_i cs mk ha
      exact ⟨noH, ⟨T, h, mk r, .alloc r cs⟩, noH_ok, by simp [dstep, hg, hA, ha], hw, .inr (.inr (.inl ⟨by simp [stK, hA], _, _, rfl⟩))⟩
    · exact hw.elim
  | false =>
    rw [hA] at hw
    simp only [cond_false] at hw
    split at hw
    · rename_i f args
      unfold wcall at hw
      split at hw
      · rename_i g' first captured hfe
        obtain ⟨v, h', hc, hle, hk⟩ := hcl _ _ _ _ hw
        refine ⟨_, ⟨T, h, v, .eff h h'⟩, oneH_ok hc, ?_, hk, .inr (.inr (.inr ⟨rfl, _, _, rfl⟩))⟩
        have : aop (oneH g' (first ++ args.map (·.ev T) ++ captured) h v h') T h (.call f args) = some (v, h') := by
          simp only [aop, kCall, hfe, oneH_self]
        simp only [List.append_assoc] at this ⊢
        simp [dstep, hg, aA, this, aE, hle]
      · exact hw.elim
    · rename_i hnc
      cases hE : aE op with
      | true =>
        rw [hE] at hw
        simp only [cond_true, wk] at hw
        split at hw
        · rename_i v h' ha
          exact ⟨noH, ⟨T, h, v, .eff h h'⟩, noH_ok, by simp [dstep, hg, hA, ha, hE, hw.1], hw.2, .inr (.inr (.inr ⟨by simp [stK, hA, hE], _, _, rfl⟩))⟩
        · exact hw.elim
      | false =>
        rw [hE] at hw
        simp only [cond_false, wk] at hw
        split at hw
        · rename_i v h' ha
          cases hr : aRd T op with
          | some x =>
            rw [hr] at hw
            refine ⟨noH, ⟨T, h, v, .read x⟩, noH_ok, by simp [dstep, hg, hA, ha, hE, hr], hw, .inr (.inl ⟨?_, _, rfl⟩)⟩
            cases op <;> simp [aRd] at hr <;> first | rfl | simp [stK, hA, hE]
          | none =>
            rw [hr] at hw
            exact ⟨noH, ⟨T, h, v, .pure⟩, noH_ok, by simp [dstep, hg, hA, ha, hE, hr], hw, .inl rfl⟩
        · exact hw.elim

theorem wdops_run {P : Program} {cl : CL} (hcl : CLOk P cl) : ∀ (l : List AOpr) (r : Nat) (T : Tm) (h : AH) (k : List Rec → Tm → AH → Prop), wdops cl l r T h k →
    ∃ ss T' h', DRun P l r T h ss T' h' ∧ k (ss.map (·.k)) T' h' ∧ ∀ (i : Nat) (o : AOpr) (s : DStep), l[i]? = some o → ss[i]? = some s → RecK (stK o.op) s.k
  | [], r, T, h, k, hw => ⟨[], T, h, .nil _ _ _, hw, fun i o s ho => by simp at ho⟩
  | ⟨d, op, gu⟩ :: l, r, T, h, k, hw => by
    have run : gd T gu = some true → wdop cl op r T h (fun v c h' => wdops cl l (r + 1) (tput T d v) h' fun ks => k (c :: ks)) → ∃ ss T' h', DRun P (⟨d, op, gu⟩ :: l) r T h ss T' h' ∧ k (ss.map (·.k)) T' h' ∧ ∀ (i : Nat) (o : AOpr) (s : DStep), ((⟨d, op, gu⟩ : AOpr) :: l)[i]? = some o → ss[i]? = some s → RecK (stK o.op) s.k := by
      intro hg hw
      obtain ⟨cl', s, hcl', hs, hk, hR⟩ := wdop_step hcl (d := d) hg hw
      obtain ⟨ss, T', h', e1, e2, e3⟩ := wdops_run hcl l (r + 1) _ _ _ hk
      refine ⟨s :: ss, T', h', .cons cl' hcl' hs e1, e2, fun i o s' ho hs' => ?_⟩
      cases i with
      | zero => simp at ho hs'; subst ho; subst hs'; exact hR
      | succ i => simp at ho hs'; exact e3 i o s' ho hs'
    cases gu with
    | none => exact run rfl hw
    | some g =>
      simp only [wdops, wgd] at hw
      split at hw
      case h_2 => exact hw.elim
      rename_i b hg
      cases b with
      | true => exact run hg (hw.1 rfl)
      | false =>
        obtain ⟨ss, T', h', e1, e2, e3⟩ := wdops_run hcl l (r + 1) _ _ _ (hw.2 rfl)
        refine ⟨⟨T, h, skipped, .pure⟩ :: ss, T', h', .cons noH noH_ok (by simp [dstep, hg]) e1, e2, fun i o s' ho hs' => ?_⟩
        cases i with
        | zero => simp at ho hs'; subst ho; subst hs'; exact .inl rfl
        | succ i => simp at ho hs'; exact e3 i o s' ho hs'

theorem wdopsS_run {P : Program} {cl : CL} (hcl : CLOk P cl) : ∀ (l : List (AOpr × Option Nat)) (r : Nat) (T : Tm) (h : AH) (k : List Rec → Tm → AH → Prop), wdopsS cl l r T h k →
    ∃ ss T' h', DRun P (l.map (·.1)) r T h ss T' h' ∧ k (ss.map (·.k)) T' h' ∧ ∀ (i : Nat) (o : AOpr) (s : DStep), (l.map (·.1))[i]? = some o → ss[i]? = some s → RecK (stK o.op) s.k
  | [], r, T, h, k, hw => ⟨[], T, h, .nil _ _ _, hw, fun i o s ho => by simp at ho⟩
  | (⟨d, op, gu⟩, sp) :: l, r, T, h, k, hw => by
    have run : gd T gu = some true → wdop cl op r T h (fun v c h' => wdopsS cl l (r + 1) (tput T d v) h' fun ks => k (c :: ks)) → ∃ ss T' h', DRun P (⟨d, op, gu⟩ :: l.map (·.1)) r T h ss T' h' ∧ k (ss.map (·.k)) T' h' ∧ ∀ (i : Nat) (o : AOpr) (s : DStep), ((⟨d, op, gu⟩ : AOpr) :: l.map (·.1))[i]? = some o → ss[i]? = some s → RecK (stK o.op) s.k := by
      intro hg hw
      obtain ⟨cl', s, hcl', hs, hk, hR⟩ := wdop_step hcl (d := d) hg hw
      obtain ⟨ss, T', h', e1, e2, e3⟩ := wdopsS_run hcl l (r + 1) _ _ _ hk
      refine ⟨s :: ss, T', h', .cons cl' hcl' hs e1, e2, fun i o s' ho hs' => ?_⟩
      cases i with
      | zero => simp at ho hs'; subst ho; subst hs'; exact hR
      | succ i =>
        simp only [List.getElem?_cons_succ] at ho hs'
        exact e3 i o s' ho hs'
    cases gu with
    | none => exact run rfl (wspl_elim hw)
    | some g =>
      simp only [wdopsS] at hw
      have hw := wspl_elim hw
      simp only [wgd] at hw
      split at hw
      case h_2 => exact hw.elim
      rename_i b hg
      cases b with
      | true => exact run hg (hw.1 rfl)
      | false =>
        obtain ⟨ss, T', h', e1, e2, e3⟩ := wdopsS_run hcl l (r + 1) _ _ _ (hw.2 rfl)
        refine ⟨⟨T, h, skipped, .pure⟩ :: ss, T', h', .cons noH noH_ok (by simp [dstep, hg]) e1, e2, fun i o s' ho hs' => ?_⟩
        cases i with
        | zero => simp at ho hs'; subst ho; subst hs'; exact .inl rfl
        | succ i =>
          simp only [List.map_cons, List.getElem?_cons_succ] at ho hs'
          exact e3 i o s' ho hs'

theorem dynRow_spec {o : AOpr} {bits j : Nat} : ∀ (l : List AOpr) (k : Nat) (i : Nat) (p : AOpr), l[i]? = some p → Nat.testBit bits (k + i) = true ∨ fineK (stK p.op) (stK o.op) = true ∨ (k + i, j) ∈ dynRow o bits j k l
  | [], k, i, p, hi => by simp at hi
  | p0 :: l, k, i, p, hi => by
    cases i with
    | zero =>
      simp at hi; subst hi
      cases hb : Nat.testBit bits k with
      | true => exact .inl (by simp)
      | false =>
        cases hf : fineK (stK p0.op) (stK o.op) with
        | true => exact .inr (.inl rfl)
        | false => exact .inr (.inr (by simp [dynRow, hb, hf]))
    | succ i =>
      simp at hi
      have := dynRow_spec (o := o) (bits := bits) (j := j) l (k + 1) i p hi
      rw [show k + 1 + i = k + (i + 1) by omega] at this
      rcases this with h | h | h
      · exact .inl h
      · exact .inr (.inl h)
      · refine .inr (.inr ?_)
        simp only [dynRow]
        cases (Nat.testBit bits k || fineK (stK p0.op) (stK o.op)) <;> simp [h]
theorem dynPairs_spec : ∀ (l : List (AOpr × Nat)) (n : Nat) (acc : List AOpr), acc.length = n → ∀ (j : Nat) (o : AOpr) (bits : Nat), l[j]? = some (o, bits) → ∀ i p, (acc ++ l.map (·.1))[i]? = some p → i < n + j →
    Nat.testBit bits i = true ∨ fineK (stK p.op) (stK o.op) = true ∨ (i, n + j) ∈ dynPairs l n acc
  | [], n, acc, hn, j, o, bits, hj, i, p, hi, hlt => by simp at hj
  | (o0, b0) :: l, n, acc, hn, j, o, bits, hj, i, p, hi, hlt => by
    cases j with
    | zero =>
      simp at hj
      obtain ⟨rfl, rfl⟩ := hj
      rw [List.getElem?_append, if_pos (by omega)] at hi
      have := dynRow_spec (o := o0) (bits := b0) (j := n) acc 0 i p hi
      rw [Nat.zero_add] at this
      rcases this with h | h | h
      · exact .inl h
      · exact .inr (.inl h)
      · exact .inr (.inr (by simp [dynPairs, h]))
    | succ j =>
      simp at hj
      have := dynPairs_spec l (n + 1) (acc ++ [o0]) (by simp [hn]) j o bits hj i p (by simpa using hi) (by omega)
      rw [show n + 1 + j = n + (j + 1) by omega] at this
      rcases this with h | h | h
      · exact .inl h
      · exact .inr (.inl h)
      · exact .inr (.inr (by simp [dynPairs, h]))
theorem tmpRow_spec {o : AOpr} {bits : Nat} : ∀ (l : List AOpr) (k : Nat), tmpRow o bits k l = true → ∀ (i : Nat) (p : AOpr), l[i]? = some p → Nat.testBit bits (k + i) = true ∨ tmpOk p o = true
  | [], k, h, i, p, hi => by simp at hi
  | p0 :: l, k, h, i, p, hi => by
    simp only [tmpRow, Bool.and_eq_true, Bool.or_eq_true] at h
    cases i with
    | zero => simp at hi; subst hi; exact h.1
    | succ i =>
      simp at hi
      have := tmpRow_spec l (k + 1) h.2 i p hi
      rwa [show k + 1 + i = k + (i + 1) by omega] at this
theorem tmpPairs_spec : ∀ (l : List (AOpr × Nat)) (acc : List AOpr), tmpPairs l acc = true → ∀ (j : Nat) (o : AOpr) (bits : Nat), l[j]? = some (o, bits) → ∀ i p, (acc ++ l.map (·.1))[i]? = some p → i < acc.length + j → Nat.testBit bits i = true ∨ tmpOk p o = true
  | [], acc, h, j, o, bits, hj, i, p, hi, hlt => by simp at hj
  | (o0, b0) :: l, acc, h, j, o, bits, hj, i, p, hi, hlt => by
    simp only [tmpPairs, Bool.and_eq_true] at h
    cases j with
    | zero =>
      simp at hj
      obtain ⟨rfl, rfl⟩ := hj
      rw [List.getElem?_append, if_pos (by omega)] at hi
      have := tmpRow_spec acc 0 h.1 i p hi
      rwa [Nat.zero_add] at this
    | succ j =>
      simp at hj
      exact tmpPairs_spec l (acc ++ [o0]) h.2 j o bits hj i p (by simpa using hi) (by simp; omega)
theorem chk_spec {ks : List Rec} : ∀ (l : List (Nat × Nat)) (p : Prop), chk ks l p → p ∧ ∀ i j, (i, j) ∈ l → recOk (ks.getD i .pure) (ks.getD j .pure) = true
  | [], p, h => ⟨h, fun i j hm => by simp at hm⟩
  | (i0, j0) :: l, p, h => by
    obtain ⟨h1, h2⟩ := chk_spec l p h.2
    refine ⟨h1, fun i j hm => ?_⟩
    simp at hm
    rcases hm with ⟨rfl, rfl⟩ | hm
    · exact h.1
    · exact h2 i j hm

section
variable {P : Program} {nt : Nat} {ds : List Deferred} {own : Nat → Prop} {β : Bl} {T : Tm} {h : AH} {a : Act} {w : World}
theorem wdraw_core {ops : Array Oper} {L : List (AOpr × Nat)} {π : Nat → Nat} (hmix : P.follows .mixedOrders = true) (hd : DL P nt ops L π) {k : Tm → AH → Prop} (ht : tmpPairs L [] = true) {ss : List DStep} {T' : Tm} {h' : AH} (e1 : DRun P (L.map (·.1)) h.nx T ⟨h.H, h.nx + L.length⟩ ss T' h') (e2 : chk (ss.map (·.k)) (dynPairs L 0 []) (k T' h')) (e3 : ∀ (i : Nat) (o : AOpr) (s : DStep), (L.map (·.1))[i]? = some o → ss[i]? = some s → RecK (stK o.op) s.k) (hs : Sim nt ds own β T h a w)
    {Q : Exit → Act → World → Prop} (hQ : ∀ T' h', k T' h' → ∀ β' a' w', Sim nt ds own β' T' h' a' w' → Trans own β h w β' h' w' → Q .normal a' w') : wpAny P .any ops Q ops.size (Array.replicate ops.size false) a { w with drawn := w.drawn + 1 } := by
  obtain ⟨hk, hdyn⟩ := chk_spec _ _ e2
  refine draw_any' hmix hd e1 (fun i j p o q s bits bp hij h1 h2 h3 h4 => ?_) hs (hQ T' h' hk)
  have hz : L[j]? = some (o, bits) := h3
  have hz2 : (([] : List AOpr) ++ L.map (·.1))[i]? = some p := by
    rw [List.nil_append, List.getElem?_map, h1]; rfl
  have hz3 : (L.map (·.1))[j]? = some o := by rw [List.getElem?_map, h3]; rfl
  have hz4 : (L.map (·.1))[i]? = some p := by rw [List.getElem?_map, h1]; rfl
  rcases tmpPairs_spec _ _ ht j o bits hz i p hz2 (by simpa using hij) with h6 | h6
  · exact .inl h6
  rcases dynPairs_spec _ 0 [] rfl j o bits hz i p hz2 (by omega) with h7 | h7 | h7
  · exact .inl h7
  · exact .inr ⟨h6, fine_ok h7 (e3 i p q hz4 h2) (e3 j o s hz3 h4)⟩
  · refine .inr ⟨h6, ?_⟩
    have := hdyn i (0 + j) h7
    rw [Nat.zero_add] at this
    simpa [h2, h4] using this

theorem drun_append {P : Program} : ∀ (l1 l2 : List AOpr) (r : Nat) (T : Tm) (h : AH) (s1 : List DStep) (T1 : Tm) (h1 : AH) (s2 : List DStep) (T2 : Tm) (h2 : AH), DRun P l1 r T h s1 T1 h1 → DRun P l2 (r + l1.length) T1 h1 s2 T2 h2 → DRun P (l1 ++ l2) r T h (s1 ++ s2) T2 h2
  | [], l2, r, T, h, s1, T1, h1, s2, T2, h2, d1, d2 => by cases d1; exact d2
  | o :: l1, l2, r, T, h, s1, T1, h1, s2, T2, h2, d1, d2 => by
    cases d1 with
    | cons cl hcl hs hr =>
      refine .cons cl hcl hs (drun_append l1 l2 _ _ _ _ _ _ _ _ _ hr ?_)
      rw [show r + 1 + l1.length = r + (l1.length + 1) by omega]; exact d2
theorem drun_len {P : Program} : ∀ (l : List AOpr) (r : Nat) (T : Tm) (h : AH) (ss : List DStep) (T1 : Tm) (h1 : AH), DRun P l r T h ss T1 h1 → ss.length = l.length
  | [], _, _, _, _, _, _, d => by cases d; rfl
  | o :: l, _, _, _, _, _, _, d => by
    cases d with
    | cons cl hcl hs hr => simp [drun_len l _ _ _ _ _ _ hr]
theorem pairs_of {L : List (AOpr × Nat)} {ss : List DStep} {p : Prop} (ht : tmpPairs L [] = true) (e2 : chk (ss.map (·.k)) (dynPairs L 0 []) p) (e3 : ∀ (i : Nat) (o : AOpr) (s : DStep), (L.map (·.1))[i]? = some o → ss[i]? = some s → RecK (stK o.op) s.k) :
    p ∧ ∀ (i j : Nat) (p o : AOpr) (q s : DStep) (bits bp : Nat), i < j → L[i]? = some (p, bp) → ss[i]? = some q → L[j]? = some (o, bits) → ss[j]? = some s → Nat.testBit bits i = true ∨ (tmpOk p o = true ∧ recOk q.k s.k = true) := by
  obtain ⟨hk, hdyn⟩ := chk_spec _ _ e2
  refine ⟨hk, fun i j p o q s bits bp hij h1 h2 h3 h4 => ?_⟩
  have hz2 : (([] : List AOpr) ++ L.map (·.1))[i]? = some p := by
    rw [List.nil_append, List.getElem?_map, h1]; rfl
  have hz3 : (L.map (·.1))[j]? = some o := by rw [List.getElem?_map, h3]; rfl
  have hz4 : (L.map (·.1))[i]? = some p := by rw [List.getElem?_map, h1]; rfl
  rcases tmpPairs_spec _ _ ht j o bits h3 i p hz2 (by simpa using hij) with h6 | h6
  · exact .inl h6
  rcases dynPairs_spec _ 0 [] rfl j o bits h3 i p hz2 (by omega) with h7 | h7 | h7
  · exact .inl h7
  · exact .inr ⟨h6, fine_ok h7 (e3 i p q hz4 h2) (e3 j o s hz3 h4)⟩
  · refine .inr ⟨h6, ?_⟩
    have := hdyn i (0 + j) h7
    rw [Nat.zero_add] at this
    simpa [h2, h4] using this
theorem reck_append {A B : List AOpr} {s1 s2 : List DStep} (hl : s1.length = A.length) (h1 : ∀ (i : Nat) (o : AOpr) (s : DStep), A[i]? = some o → s1[i]? = some s → RecK (stK o.op) s.k) (h2 : ∀ (i : Nat) (o : AOpr) (s : DStep), B[i]? = some o → s2[i]? = some s → RecK (stK o.op) s.k) :
    ∀ (i : Nat) (o : AOpr) (s : DStep), (A ++ B)[i]? = some o → (s1 ++ s2)[i]? = some s → RecK (stK o.op) s.k := by
  intro i o s ho hs
  by_cases hi : i < A.length
  · rw [List.getElem?_append_left hi] at ho
    rw [List.getElem?_append_left (by omega)] at hs
    exact h1 i o s ho hs
  · rw [List.getElem?_append_right (by omega)] at ho
    rw [List.getElem?_append_right (by omega), hl] at hs
    exact h2 _ o s ho hs
theorem wdraw_any {cl : CL} (hcl : CLOk P cl) {ops : Array Oper} {L : List (AOpr × Nat)} {π : Nat → Nat} (hmix : P.follows .mixedOrders = true) (hd : DL P nt ops L π) (hc : DCmp ops L π) {k : Tm → AH → Prop} (ha : wdraw cl L T h k) (hs : Sim nt ds own β T h a w)
    {Q : Exit → Act → World → Prop} (hQ : ∀ T' h', k T' h' → ∀ β' a' w', Sim nt ds own β' T' h' a' w' → Trans own β h w β' h' w' → Q .normal a' w') : wpAny P .any ops Q ops.size (Array.replicate ops.size false) a { w with drawn := w.drawn + 1 } := by
  unfold wdraw at ha
  cases hsw : swp L with
  | false =>
    rw [hsw] at ha
    simp only [cond_false] at ha
    unfold wdraw1 at ha
    cases ht : tmpPairs L [] with
    | false => rw [ht] at ha; exact ha.elim
    | true =>
    rw [ht] at ha
    simp only [cond_true] at ha
    obtain ⟨ss, T', h', e1, e2, e3⟩ := wdops_run hcl _ _ _ _ _ ha
    exact wdraw_core hmix hd ht e1 e2 e3 hs hQ
  | true =>
    rw [hsw] at ha
    simp only [cond_true] at ha
    unfold wdraw2 at ha
    obtain ⟨R, x, y, rfl, hR2, hlow⟩ : ∃ R x y, L = R ++ [x, y] ∧ L.length - 2 = R.length ∧ ∀ z ∈ L, Nat.blt z.2 (2 ^ R.length) = true := by
      unfold swp at hsw
      split at hsw
      case h_2 => cases hsw
      rename_i x y hxy
      have hlen : L.length - (L.length - 2) = 2 := by have := congrArg List.length hxy; simpa using this
      refine ⟨L.take (L.length - 2), x, y, by rw [← hxy, List.take_append_drop], by simp, fun z hz => ?_⟩
      cases h1 : isSt x.1 with
      | false => rw [h1] at hsw; cases hsw
      | true =>
        cases h2 : isSt y.1 with
        | false => rw [h1, h2] at hsw; cases hsw
        | true =>
          rw [h1, h2] at hsw
          simp only [cond_true, Bool.and_eq_true] at hsw
          have := List.all_eq_true.1 hsw.2 z hz
          rw [show (L.take (L.length - 2)).length = L.length - 2 by simp]
          exact this
    have htk : (R ++ [x, y]).take R.length = R := by simp
    have hdr : (R ++ [x, y]).drop R.length = [x, y] := by simp
    have htie : tieL (R ++ [x, y]) = R ++ [x, (y.1, y.2 ||| 2 ^ R.length)] := by unfold tieL; rw [hR2, hdr, htk]
    have hsl : swpL (R ++ [x, y]) = R ++ [y, x] := by unfold swpL; rw [hR2, hdr, htk]; rfl
    have hR2' : (R ++ [y, x]).length - 2 = R.length := by simp
    have htie2 : tieL (R ++ [y, x]) = R ++ [y, (x.1, x.2 ||| 2 ^ R.length)] := by
      unfold tieL
      rw [hR2', show (R ++ [y, x]).drop R.length = [y, x] by simp, show (R ++ [y, x]).take R.length = R by simp]
    rw [hsl, htie, htie2, hR2, htk, hdr] at ha
    cases ht1 : tmpPairs (R ++ [x, (y.1, y.2 ||| 2 ^ R.length)]) [] with
    | false => rw [ht1] at ha; exact ha.elim
    | true =>
    cases ht2 : tmpPairs (R ++ [y, (x.1, x.2 ||| 2 ^ R.length)]) [] with
    | false => rw [ht1, ht2] at ha; exact ha.elim
    | true =>
    rw [ht1, ht2] at ha
    simp only [Bool.and_self, cond_true] at ha
    obtain ⟨sr, Tm0, hm0, er1, ⟨eA, eB⟩, er3⟩ := wdops_run hcl _ _ _ _ _ ha
    obtain ⟨t1, T1, h1, a1, a2, a3⟩ := wdops_run hcl _ _ _ _ _ eA
    obtain ⟨t2, T2, h2, b1, b2, b3⟩ := wdops_run hcl _ _ _ _ _ eB
    have hsr := drun_len _ _ _ _ _ _ _ er1
    have hl1 := drun_len _ _ _ _ _ _ _ a1
    have hl2 := drun_len _ _ _ _ _ _ _ b1
    have hlenL : (R ++ [x, y]).length = ops.size := hd.len
    rw [hlenL] at er1
    have hRl : (R.map (·.1)).length = R.length := by simp
    have d1 := drun_append _ _ _ _ _ _ _ _ _ _ _ er1 (by rw [hRl]; exact a1)
    have d2 := drun_append _ _ _ _ _ _ _ _ _ _ _ er1 (by rw [hRl]; exact b1)
    rw [← List.map_append] at a2 b2
    have p1 := pairs_of (L := R ++ [x, (y.1, y.2 ||| 2 ^ R.length)]) ht1 a2 (by
      rw [List.map_append]; exact reck_append hsr er3 a3)
    have p2 := pairs_of (L := R ++ [y, (x.1, x.2 ||| 2 ^ R.length)]) ht2 b2 (by
      rw [List.map_append]; exact reck_append hsr er3 b3)
    refine draw_two (R := R) (x := x) (y := y) hd hc (fun z hz j hj => ?_) (by simpa using hl1) (by simpa using hl2) (by simpa using hsr) (by rw [List.map_append]; exact d1) (by rw [List.map_append]; exact d2) p1.2 p2.2 hs (hQ T1 h1 p1.1) (hQ T2 h2 p2.1)
    have hz2 := Nat.le_of_ble_eq_true (hlow z hz)
    rcases Nat.lt_or_ge j R.length with h | h
    · exact h
    · exfalso
      have : z.2 < 2 ^ j := Nat.lt_of_lt_of_le hz2 (Nat.pow_le_pow_right (by omega) h)
      rw [Nat.testBit_lt_two_pow this] at hj
      cases hj
theorem wdrawS_any {cl : CL} (hcl : CLOk P cl) {ops : Array Oper} {L : List (AOpr × Nat)} {π : Nat → Nat} {xs : List ((AOpr × Nat) × Option Nat)} (hx : L = xs.map (·.1)) (hmix : P.follows .mixedOrders = true) (hd : DL P nt ops L π) {k : Tm → AH → Prop} (ha : wdrawS cl xs T h k) (hs : Sim nt ds own β T h a w)
    {Q : Exit → Act → World → Prop} (hQ : ∀ T' h', k T' h' → ∀ β' a' w', Sim nt ds own β' T' h' a' w' → Trans own β h w β' h' w' → Q .normal a' w') : wpAny P .any ops Q ops.size (Array.replicate ops.size false) a { w with drawn := w.drawn + 1 } := by
  unfold wdrawS at ha
  rw [← hx] at ha
  cases ht : tmpPairs L [] with
  | false => rw [ht] at ha; exact ha.elim
  | true =>
  rw [ht] at ha
  simp only [cond_true] at ha
  obtain ⟨ss, T', h', e1, e2, e3⟩ := wdopsS_run hcl _ _ _ _ _ ha
  have hm : (xs.map fun x => (x.1.1, x.2)).map (·.1) = L.map (·.1) := by
    rw [hx]; simp
  have hl : xs.length = L.length := by rw [hx]; simp
  rw [hm, hl] at e1
  rw [hm] at e3
  exact wdraw_core hmix hd ht e1 e2 e3 hs hQ

end
/-! ## soundness: in a round of a loop over a function -/
def isStuck : AOp → Bool
  | .stuck => true
  | _ => false
def SCode.rnd : SCode → Bool
  | .skip | .reg _ | .regS _ | .exit _ | .ret | .stuck => true
  | .seq a b => a.rnd && b.rnd
  | .cond _ a b => a.rnd && b.rnd
  | .block _ a => a.rnd
  | .join _ a => a.rnd
  | .joinN _ a => a.rnd
  | .draw ops => ops.all fun x => !isStuck x.1.op
  | .drawS ops => ops.all fun x => !isStuck x.1.1.op
  | .loop _ _ a => a.rnd
  | .loopT a => a.rnd
  | .rng _ _ _ _ _ | .frz _ _ => false
/-- the bodies of loops over functions are plain enough -/
def SCode.rok : SCode → Bool
  | .skip | .reg _ | .regS _ | .exit _ | .ret | .stuck | .draw _ | .drawS _ => true
  | .seq a b => a.rok && b.rok
  | .cond _ a b => a.rok && b.rok
  | .block _ a => a.rok
  | .loop _ _ a => a.rok
  | .loopT a => a.rok
  | .join _ a => a.rok
  | .joinN _ a => a.rok
  | .rng _ _ _ a b => a.rnd && b.rnd
  | .frz _ a => a.rok
/-- the iterators that are named -/
def SCode.its : SCode → List It
  | .skip | .reg _ | .regS _ | .exit _ | .ret | .stuck | .draw _ | .drawS _ => []
  | .seq a b => a.its ++ b.its
  | .cond _ a b => a.its ++ b.its
  | .block _ a => a.its
  | .loop _ _ a => a.its
  | .loopT a => a.its
  | .join _ a => a.its
  | .joinN _ a => a.its
  | .rng its _ _ _ _ => its
  | .frz _ a => a.its

section
variable {P : Program} {nt : Nat} {ds : List Deferred} {own : Nat → Prop} {β : Bl} {T : Tm} {h : AH} {a : Act} {w : World}
abbrev rF (l : Nat) : Fence := Fence.wide.inRound l
theorem not_defer {o : Oper} {v : AV} {h' : AH} (ha : aop noH T h (cOpX P o.op) = some (v, h')) : ∀ c, o.op ≠ .defer c := by
  intro c hc
  rw [hc] at ha
  have : cOpX P (.defer c) = .stuck := by simp [cOpX, cOp, cX, cM]
  rw [this] at ha; simp [aop] at ha
theorem not_defer' {o : Oper} (ha : isStuck (cOpX P o.op) = false) : ∀ c, o.op ≠ .defer c := by
  intro c hc
  rw [hc] at ha
  have : cOpX P (.defer c) = .stuck := by simp [cOpX, cOp, cX, cM]
  rw [this] at ha; cases ha
theorem op_in {rl : Nat} {o : Oper} (hnd : ∀ c, o.op ≠ .defer c) {K K' : Act → World → Prop} {Q : Exit → Act → World → Prop} (hK : ∀ a w, K a w → K' a w) (h : o.wp P a w K Q) : o.wpIn (rF rl) 0 P a w K' Q := by
  refine ⟨fun _ _ => trivial, ?_⟩
  rw [show (rF rl).round = some rl from rfl, Oper.semAt_some rl _ o hnd]
  unfold Oper.wp at h
  revert h
  generalize (execOp a.eval o).run P w = r
  intro h
  cases r with
  | ok nx w' =>
    cases nx with
    | value v => exact hK _ _ h
    | skip => exact hK _ _ h
    | defer d => exact hK _ _ h
    | enter f args =>
      refine ⟨(fun hh => by cases hh), CallsIn.inRound rl (callsIn_wide.2 (Calls.mono h ?_))⟩
      intro e w'' hh
      cases e with
      | returned v => exact hK _ _ hh
      | panicked c => exact hh
      | outgrown => exact hh
    | row row args => exact ⟨(fun hh => by cases hh), fun c cs _ => let ⟨v, w', r, s⟩ := h c cs; ⟨v, w', hK _ _ r, stepsIn_wide.2 s⟩⟩
    | _ => exact h.elim
  | halt st w' =>
    cases st with
    | panic v => exact h
    | _ => exact h.elim
theorem wpAny_in {rl : Nat} {ops : Array Oper} (hnd : ∀ (i : Nat) (o : Oper), ops[i]? = some o → ∀ c, o.op ≠ .defer c) {Q : Exit → Act → World → Prop} (hQ : ¬ LetsOut Q) : ∀ (fuel : Nat) (listed : Array Bool) (a : Act) (w : World), wpAny P .any ops Q fuel listed a w → wpAnyIn (rF rl) 0 P .any ops Q fuel listed a w
  | 0, listed, a, w, h => h
  | fuel + 1, listed, a, w, h => by
    refine ⟨h.1, fun i hi => ?_⟩
    have := h.2 i hi
    unfold wpOp at this
    unfold wpOpIn
    cases ho : ops[i]? with
    | none => rw [ho] at this; exact wpAny_in hnd hQ fuel _ _ _ this
    | some o =>
      rw [ho] at this
      simp only at this ⊢
      split at this
      · rename_i hw
        rw [if_pos hw]
        rcases this with h1 | h1
        · exact op_in (hnd i o ho) (fun a w => wpAny_in hnd hQ fuel _ a w) h1
        · exact absurd h1.2 hQ
      · rename_i hw
        rw [if_neg hw]
        exact ⟨fun _ _ => trivial, wpAny_in hnd hQ fuel _ _ _ this⟩

theorem op_wpIn {l : Nat} (hs : Sim nt ds own β T h a w) {o : Oper} {ao : AOp} {v : AV} {h' : AH} (hc : cOpX P o.op = ao) (ha : aop noH T h ao = some (v, h')) (hnc : ∀ f args, ao ≠ .call f args)
    {K : Act → World → Prop} {Q : Exit → Act → World → Prop}
    (hK : ∀ cv w' β', SimH own β' h'.H h'.nx w' → VR w'.heap (LL own β' h'.H) β' v cv → Trans own β h w β' h' w' → K (a.put o.dst cv) w') : o.wpIn (rF l) 0 P a w K Q := by
  obtain ⟨cv, w', β', hrun, h1, h2, h3⟩ := op_okX noH hs hc ha hnc
  have hk := hK cv w' β' h1 h2 h3
  subst hc
  refine ⟨fun _ _ => trivial, ?_⟩
  rw [show (rF l).round = some l from rfl, Oper.semAt_some l _ o (not_defer ha)]
  rcases hrun with hrun | ⟨hrun, rfl⟩
  · rw [hrun]; exact hk
  · rw [hrun]; exact hk

theorem call_wpIn {l : Nat} {cl : CL} (hcl : CLOk P cl) (hs : Sim nt ds own β T h a w) {o : Oper} {f : Opd} {args : List Opd} (hc : cOpX P o.op = .call f args) {k : AV → AH → Prop} (ha : wcall cl (f.ev T) (args.map (·.ev T)) h k)
    {K : Act → World → Prop} {Q : Exit → Act → World → Prop}
    (hK : ∀ v h', k v h' → ∀ cv w' β', SimH own β' h'.H h'.nx w' → VR w'.heap (LL own β' h'.H) β' v cv → Trans own β h w β' h' w' → K (a.put o.dst cv) w') : o.wpIn (rF l) 0 P a w K Q := by
  have hop := cOp_call (cOpX_call hc)
  obtain ⟨c, fo, hop, hco, hf, has⟩ := hop
  have hfv := cOpd_ok hs hf
  unfold wcall at ha
  cases hfe : f.ev T <;> rw [hfe] at ha hfv <;> (try simp only at ha) <;> try (cases ha; done)
  rename_i fn first captured
  cases fn <;> (try simp only at ha) <;> try (cases ha; done)
  rename_i g
  obtain ⟨v0, h0, hd, hk0⟩ := hcl _ _ _ _ ha
  obtain ⟨⟨fn, hfn, hbody, hname⟩, hcalls⟩ := hd.calls hk0
  generalize hce : a.eval fo = cf at hfv
  cases hfv
  rename_i f2 c2 hl1 h1 hl2 h2
  have hR : RL w.heap (LL own β h.H) β (first ++ args.map (·.ev T) ++ captured) (f2 ++ c.args.map a.eval ++ c2).toList := by
    have r1 : RL w.heap (LL own β h.H) β first f2.toList := ⟨by simpa using hl1, fun i c v hc hv => h1 i c v hc (by simpa using hv)⟩
    have r2 : RL w.heap (LL own β h.H) β captured c2.toList := ⟨by simpa using hl2, fun i c v hc hv => h2 i c v hc (by simpa using hv)⟩
    have r3 := cOpds_ok hs has
    have := (r1.append r3).append r2
    simpa using this
  have hrun : (execOp a.eval o).run P w = .ok (.enter g (f2 ++ c.args.map a.eval ++ c2)) w := by
    have hb : fn.body.isNone = false := by cases hq : fn.body <;> simp_all
    simp only [execOp, hop, resolve, hco, hce, Deferred.ofValue, Sem.run_bind, Sem.run_pure, Result.andThen_ok, invoke, callFunc, run_program, hfn]
    simp [hname, hb]
  refine ⟨fun _ _ => trivial, ?_⟩
  rw [show (rF l).round = some l from rfl, Oper.semAt_some l _ o (by intro c' hc'; rw [hop] at hc'; cases hc'), hrun]
  refine ⟨(fun hh => by cases hh), ?_⟩
  refine CallsIn.inRound l (callsIn_wide.2 ((hcalls own β w _ hs.hp hR).mono ?_))
  rintro e w' ⟨cv, v, h', β', rfl, h3, h4, h5, h6⟩
  exact hK v h' h3 cv w' β' h4 h5 h6

theorem wop_wpIn {l : Nat} {cl : CL} (hcl : CLOk P cl) (hs : Sim nt ds own β T h a w) {o : Oper} {ao : AOp} (hc : cOpX P o.op = ao) {k : AV → AH → Prop} (ha : wop cl ao T h k)
    {K : Act → World → Prop} {Q : Exit → Act → World → Prop}
    (hK : ∀ v h', k v h' → ∀ cv w' β', SimH own β' h'.H h'.nx w' → VR w'.heap (LL own β' h'.H) β' v cv → Trans own β h w β' h' w' → K (a.put o.dst cv) w') : o.wpIn (rF l) 0 P a w K Q := by
  by_cases hcall : ∃ f args, ao = .call f args
  · obtain ⟨f, args, rfl⟩ := hcall
    exact call_wpIn hcl hs hc ha hK
  · have hnc : ∀ f args, ao ≠ .call f args := fun f args he => hcall ⟨f, args, he⟩
    unfold wop at ha
    split at ha
    · rename_i f args; exact absurd rfl (hnc f args)
    · rename_i x
      exact op_wpIn hs hc (by rfl) hnc (hK (x.ev T) h ha)
    · unfold wk at ha
      split at ha
      · rename_i v h' hop
        exact op_wpIn hs hc hop hnc (hK v h' ha)
      · exact ha.elim
end
section
variable {P : Program} {nt : Nat} {ds : List Deferred} {own : Nat → Prop}
theorem wops_wpIn {rl : Nat} {cl : CL} (hcl : CLOk P cl) {ops : Array Oper} {Q : Exit → Act → World → Prop} : ∀ (l : List Oper) (al : List AOpr) (T : Tm) (h : AH) (k : Tm → AH → Prop) (a : Act) (w : World) (β : Bl), cOprs P nt ops l = some al → wops cl al T h k → Sim nt ds own β T h a w →
    (∀ T' h', k T' h' → ∀ β' a' w', Sim nt ds own β' T' h' a' w' → Trans own β h w β' h' w' → Q .normal a' w') → wpListIn (rF rl) 0 P ops Q l a w
  | [], al, T, h, k, a, w, β, hc, ha, hs, hQ => by
    simp [cOprs] at hc; subst hc
    exact hQ T h ha β a w hs (.refl _ _ _ _)
  | o :: l, al, T, h, k, a, w, β, hc, ha, hs, hQ => by
    unfold cOprs at hc
    split at hc
    case h_2 => cases hc
    rename_i ao al' h1 h2
    cases hc
    obtain ⟨q1, q2, q3⟩ := cOpr_spec h1
    have run : wop cl ao.op T h (fun v h' => wops cl al' (tput T ao.dst v) h' k) → gd T ao.guard = some true → wpListIn (rF rl) 0 P ops Q (o :: l) a w := by
      intro ha hg
      have hw := gd_wanted hs h1 hg
      unfold wpListIn
      rw [hw, if_pos rfl]
      refine wop_wpIn hcl hs q1 ha fun v h' hk cv w' β' g1 g2 g3 => ?_
      rw [q3] at hk
      exact wops_wpIn hcl l al' _ h' k _ w' β' h2 hk (hs.put q2 g1 g2 g3) fun T' h'' hk' β'' a'' w'' k1 k2 => hQ T' h'' hk' β'' a'' w'' k1 (g3.trans k2)
    obtain ⟨d, op, gu⟩ := ao
    cases gu with
    | none => exact run ha rfl
    | some g =>
      simp only [wops, wg] at ha
      split at ha
      case h_2 => exact ha.elim
      rename_i b hg
      cases b with
      | true => exact run (ha.1 rfl) hg
      | false =>
        have hw := gd_wanted hs h1 hg
        unfold wpListIn
        rw [hw, if_neg (by simp)]
        have hk := ha.2 rfl
        rw [show d = o.dst from q3] at hk
        refine ⟨fun _ _ => trivial, wops_wpIn hcl l al' _ h k _ w β h2 hk (hs.put q2 hs.hp (?_ : VR _ _ _ skipped Go.undef) (.refl _ _ _ _)) fun T' h'' hk' β'' a'' w'' k1 k2 => hQ T' h'' hk' β'' a'' w'' k1 k2⟩
        exact .tup [] #[] rfl (fun i c v hc => by simp at hc)
theorem wopsS_wpIn {rl : Nat} {cl : CL} (hcl : CLOk P cl) {ops : Array Oper} {Q : Exit → Act → World → Prop} : ∀ (l : List Oper) (al : List (AOpr × Option Nat)) (T : Tm) (h : AH) (k : Tm → AH → Prop) (a : Act) (w : World) (β : Bl), cOprs P nt ops l = some (al.map (·.1)) → wopsS cl al T h k → Sim nt ds own β T h a w →
    (∀ T' h', k T' h' → ∀ β' a' w', Sim nt ds own β' T' h' a' w' → Trans own β h w β' h' w' → Q .normal a' w') → wpListIn (rF rl) 0 P ops Q l a w
  | [], al, T, h, k, a, w, β, hc, ha, hs, hQ => by
    simp [cOprs] at hc; subst hc
    exact hQ T h ha β a w hs (.refl _ _ _ _)
  | o :: l, al, T, h, k, a, w, β, hc, ha, hs, hQ => by
    unfold cOprs at hc
    split at hc
    case h_2 => cases hc
    rename_i ao al' h1 h2
    cases al with
    | nil => simp at hc
    | cons x al =>
    obtain ⟨⟨d, op, gu⟩, sp⟩ := x
    simp at hc
    obtain ⟨rfl, hal⟩ := hc
    rw [hal] at h2
    obtain ⟨q1, q2, q3⟩ := cOpr_spec h1
    have run : ∀ T, Sim nt ds own β T h a w → wop cl op T h (fun v h' => wopsS cl al (tput T d v) h' k) → gd T gu = some true → wpListIn (rF rl) 0 P ops Q (o :: l) a w := by
      intro T hs ha hg
      have hw := gd_wanted hs h1 hg
      unfold wpListIn
      rw [hw, if_pos rfl]
      refine wop_wpIn hcl hs q1 ha fun v h' hk cv w' β' g1 g2 g3 => ?_
      rw [show d = o.dst from q3] at hk
      exact wopsS_wpIn hcl l al _ h' k _ w' β' h2 hk (hs.put q2 g1 g2 g3) fun T' h'' hk' β'' a'' w'' k1 k2 => hQ T' h'' hk' β'' a'' w'' k1 (g3.trans k2)
    cases gu with
    | none =>
      exact run T hs (wspl_elim ha) rfl
    | some g =>
      simp only [wopsS] at ha
      have ha' := wspl_elim ha
      simp only [wg] at ha'
      split at ha'
      case h_2 => exact ha'.elim
      rename_i b hg
      cases b with
      | true => exact run T hs (ha'.1 rfl) hg
      | false =>
        have hw := gd_wanted hs h1 hg
        unfold wpListIn
        rw [hw, if_neg (by simp)]
        have hk := ha'.2 rfl
        rw [show d = o.dst from q3] at hk
        refine ⟨fun _ _ => trivial, wopsS_wpIn hcl l al _ h k _ w β h2 hk (hs.put q2 hs.hp (?_ : VR _ _ _ skipped Go.undef) (.refl _ _ _ _)) fun T' h'' hk' β'' a'' w'' k1 k2 => hQ T' h'' hk' β'' a'' w'' k1 k2⟩
        exact .tup [] #[] rfl (fun i c v hc => by simp at hc)

theorem draw_in {rl rid : Nat} {ops : Array Oper} {L : List (AOpr × Nat)} {π : Nat → Nat} {β : Bl} {h : AH} {a : Act} {w : World} {k : AX → Tm → AH → Prop} (hmix : P.follows .mixedOrders = true) (hd : DL P nt ops L π) (hst : ∀ x ∈ L, isStuck x.1.op = false)
    (hA : ∀ Q' : Exit → Act → World → Prop, (∀ T' h', k .nrm T' h' → ∀ β' a' w', Sim nt ds own β' T' h' a' w' → Trans own β h w β' h' w' → Q' .normal a' w') → wpAny P .any ops Q' ops.size (Array.replicate ops.size false) a { w with drawn := w.drawn + 1 })
    {Q : Exit → Act → World → Prop} (hQ : ∀ x T' h', k x T' h' → ∀ β' a' w', Sim nt ds own β' T' h' a' w' → Trans own β h w β' h' w' → Q x.conc a' w') : (Code.region rid ops true).wpIn (rF rl) 0 P Q a w := by
  refine wpIn_mono (wpIn_region_any (Q := fun e a w => e = .normal ∧ Q .normal a w) hmix (wpAny_in ?_ ?_ _ _ _ _ (hA _ fun T' h' hk β' a' w' s t => ⟨rfl, hQ .nrm T' h' hk β' a' w' s t⟩))) (fun e a w hh => hh.1 ▸ hh.2)
  · intro i o ho
    have hi : i < ops.size := (Array.getElem?_eq_some_iff.1 ho).1
    obtain ⟨p, hp, rfl⟩ := hd.sur i hi
    have hpl : p < L.length := by rw [hd.len]; exact hp
    obtain ⟨oo, hoo, hco⟩ := hd.cop p L[p] (by simp [hpl])
    rw [ho] at hoo; cases hoo
    have h1 := hst L[p] (by simp)
    obtain ⟨q1, _⟩ := cOpr_spec hco
    refine not_defer' (P := P) ?_
    rw [q1]; exact h1
  · rintro ⟨a, w, hh, _⟩; cases hh

theorem rcode_wp {rl : Nat} {cl : CL} (hcl : CLOk P cl) : ∀ (sc : SCode) (c : Code) (β : Bl) (T : Tm) (h : AH) (a : Act) (w : World) (k : AX → Tm → AH → Prop), sc.rnd = true → cCode P nt c = some sc.erase → wexec cl sc T h k → Sim nt ds own β T h a w →
    ∀ Q : Exit → Act → World → Prop, (∀ x T' h', k x T' h' → ∀ β' a' w', Sim nt ds own β' T' h' a' w' → Trans own β h w β' h' w' → Q x.conc a' w') → c.wpIn (rF rl) 0 P Q a w := by
  intro sc
  induction sc with
  | skip =>
    intro c β T h a w k hr hc he hs Q hQ
    simp only [wexec] at he
    cases c <;> simp only [cCode, SCode.erase] at hc <;> (try (cases hc; done))
    case skip => exact wpIn_skip (hQ .nrm T h he β a w hs (.refl _ _ _ _))
    case label => exact wpIn_label (hQ .nrm T h he β a w hs (.refl _ _ _ _))
    all_goals (repeat' (split at hc)) <;> cases hc
  | reg ops =>
    intro c β T h a w k hr hc he hs Q hQ
    simp only [wexec] at he
    cases c <;> simp only [cCode, SCode.erase] at hc <;> (try (cases hc; done))
    case region rid ops' draw =>
      split at hc
      · rename_i l hl
        cases draw with
        | true => simp only [if_true] at hc; split at hc <;> cases hc
        | false =>
          simp only [Bool.false_eq_true, if_false] at hc
          cases hc
          exact wpIn_region_list (wops_wpIn hcl _ _ _ _ _ _ _ _ hl he hs fun T' h' hk => hQ .nrm T' h' hk)
      · cases hc
    all_goals (repeat' (split at hc)) <;> cases hc
  | regS ops =>
    intro c β T h a w k hr hc he hs Q hQ
    simp only [wexec] at he
    cases c <;> simp only [cCode, SCode.erase] at hc <;> (try (cases hc; done))
    case region rid ops' draw =>
      split at hc
      · rename_i l hl
        cases draw with
        | true => simp only [if_true] at hc; split at hc <;> cases hc
        | false =>
          simp only [Bool.false_eq_true, if_false] at hc
          cases hc
          exact wpIn_region_list (wopsS_wpIn hcl _ _ _ _ _ _ _ _ hl he hs fun T' h' hk => hQ .nrm T' h' hk)
      · cases hc
    all_goals (repeat' (split at hc)) <;> cases hc
  | draw ops =>
    intro c β T h a w k hr hc he hs Q hQ
    simp only [wexec] at he
    cases c <;> simp only [cCode, SCode.erase] at hc <;> (try (cases hc; done))
    case region rid ops' draw =>
      split at hc
      · rename_i l hl
        cases draw with
        | true =>
          simp only [if_true] at hc
          split at hc
          · rename_i hm
            cases hc
            simp only [Bool.and_eq_true] at hm
            obtain ⟨_, hdl, hcm⟩ := dl_perm2 hm.2 hl
            exact draw_in hm.1 hdl (fun x hx => by simpa using List.all_eq_true.1 hr x hx) (fun Q' hq => wdraw_any hcl hm.1 hdl hcm he hs hq) hQ
          · cases hc
        | false => simp only [Bool.false_eq_true, if_false] at hc; cases hc
      · cases hc
    all_goals (repeat' (split at hc)) <;> cases hc
  | drawS ops =>
    intro c β T h a w k hr hc he hs Q hQ
    simp only [wexec] at he
    cases c <;> simp only [cCode, SCode.erase] at hc <;> (try (cases hc; done))
    case region rid ops' draw =>
      split at hc
      · rename_i l hl
        cases draw with
        | true =>
          simp only [if_true] at hc
          split at hc
          · rename_i hm
            simp only [Option.some.injEq, ACode.draw.injEq] at hc
            simp only [Bool.and_eq_true] at hm
            obtain ⟨_, hdl, hcm⟩ := dl_perm2 hm.2 hl
            exact draw_in hm.1 hdl (fun x hx => by
              rw [hc] at hx
              obtain ⟨y, hy, rfl⟩ := List.mem_map.1 hx
              simpa using List.all_eq_true.1 hr y hy) (fun Q' hq => wdrawS_any hcl hc hm.1 hdl he hs hq) hQ
          · cases hc
        | false => simp only [Bool.false_eq_true, if_false] at hc; cases hc
      · cases hc
    all_goals (repeat' (split at hc)) <;> cases hc
  | loop li lo b ih =>
    intro c β T h a w k hr hc he hs Q hQ
    obtain ⟨c1, rfl, h1⟩ := cCode_loop hc
    simp only [wexec, wloop] at he
    obtain ⟨I, m, hI, hB⟩ := he
    refine wpIn_loop_rounds (m + 1) ?_
    have key : ∀ (n : Nat) (m : Nat) (β1 : Bl) (vs : List AV) (h1 : AH) (a1 : Act) (w1 : World), m < n → I m vs h1 → Sim nt ds own β1 (mkT li vs) h1 a1 w1 → Trans own β h w β1 h1 w1 → Code.roundsIn (rF rl) 0 P c1 Q n a1 w1 := by
      intro n
      induction n with
      | zero => intro m β1 vs h1 a1 w1 hm; omega
      | succ n ihn =>
        intro m β1 vs h1' a1 w1 hm hI s1 t1
        rw [roundsIn_succ]
        refine ih c1 β1 (mkT li vs) h1' a1 w1 _ hr h1 (hB m vs h1' hI) s1 _ fun y T2 h2 hk β2 a2 w2 s2 t2 => ?_
        cases y with
        | nrm =>
          obtain ⟨m', hm', hI'⟩ := hk
          exact ihn m' β2 _ h2 a2 w2 (by omega) hI' (s2.keep li) (t1.trans t2)
        | exit j => exact hQ _ _ h2 hk β2 a2 w2 (s2.keep lo) (t1.trans t2)
        | ret => exact hQ _ _ h2 hk β2 a2 w2 (s2.keep lo) (t1.trans t2)
    exact key (m + 1) m β _ h a w (Nat.lt_succ_self m) hI (hs.keep li) (.refl _ _ _ _)
  | loopT b ih =>
    intro c β T h a w k hr hc he hs Q hQ
    obtain ⟨c1, rfl, h1⟩ := cCode_loop hc
    simp only [wexec, wloopT] at he
    obtain ⟨I, m, hI, hB⟩ := he
    refine wpIn_loop_rounds (m + 1) ?_
    have key : ∀ (n : Nat) (m : Nat) (β1 : Bl) (T1 : Tm) (h1 : AH) (a1 : Act) (w1 : World), m < n → I m T1 h1 → Sim nt ds own β1 T1 h1 a1 w1 → Trans own β h w β1 h1 w1 → Code.roundsIn (rF rl) 0 P c1 Q n a1 w1 := by
      intro n
      induction n with
      | zero => intro m β1 T1 h1 a1 w1 hm; omega
      | succ n ihn =>
        intro m β1 T1 h1' a1 w1 hm hI s1 t1
        rw [roundsIn_succ]
        refine ih c1 β1 T1 h1' a1 w1 _ hr h1 (hB m T1 h1' hI) s1 _ fun y T2 h2 hk β2 a2 w2 s2 t2 => ?_
        cases y with
        | nrm =>
          obtain ⟨m', hm', hI'⟩ := hk
          exact ihn m' β2 _ h2 a2 w2 (by omega) hI' s2 (t1.trans t2)
        | exit j => exact hQ _ _ h2 hk β2 a2 w2 s2 (t1.trans t2)
        | ret => exact hQ _ _ h2 hk β2 a2 w2 s2 (t1.trans t2)
    exact key (m + 1) m β _ h a w (Nat.lt_succ_self m) hI hs (.refl _ _ _ _)
  | rng it g ps a b iha ihb => intro c β T h a w k hr; cases hr
  | frz lo a ih => intro c β T h a w k hr; cases hr
  | exit id =>
    intro c β T h a w k hr hc he hs Q hQ
    simp only [wexec] at he
    cases c <;> simp only [cCode, SCode.erase] at hc <;> (try (cases hc; done))
    case exit => cases hc; exact wpIn_exit (hQ (.exit _) T h he β a w hs (.refl _ _ _ _))
    all_goals (repeat' (split at hc)) <;> cases hc
  | ret =>
    intro c β T h a w k hr hc he hs Q hQ
    simp only [wexec] at he
    cases c <;> simp only [cCode, SCode.erase] at hc <;> (try (cases hc; done))
    case ret => exact wpIn_ret (hQ .ret T h he β a w hs (.refl _ _ _ _))
    all_goals (repeat' (split at hc)) <;> cases hc
  | stuck => intro c β T h a w k hr hc he; simp [wexec] at he
  | join lo a ih =>
    intro c β T h a' w k hr hc he hs Q hQ
    simp only [wexec, wjoin] at he
    obtain ⟨M, h1, h2⟩ := he
    exact ih c β T h a' w _ hr hc h1 hs Q fun x2 T2 h2' hk β' a2 w2 s t => hQ x2 _ h2' (h2 _ _ _ hk) β' a2 w2 (s.keep lo) t
  | joinN lo a ih =>
    intro c β T h a' w k hr hc he hs Q hQ
    simp only [wexec, wjoinN] at he
    obtain ⟨M, h1, h2⟩ := he
    refine ih c β T h a' w _ hr hc h1 hs Q fun x2 T2 h2' hk β' a2 w2 s t => ?_
    cases x2 with
    | nrm => exact hQ .nrm _ h2' (h2 _ _ hk) β' a2 w2 (s.keep lo) t
    | exit j => exact hk.elim
    | ret => exact hk.elim
  | seq a b iha ihb =>
    intro c β T h a' w k hr hc he hs Q hQ
    obtain ⟨c1, c2, rfl, h1, h2⟩ := cCode_seq hc
    simp only [SCode.rnd, Bool.and_eq_true] at hr
    simp only [wexec] at he
    refine wpIn_seq ?_
    refine iha c1 β T h a' w _ hr.1 h1 he hs _ fun x T1 h1' hk β1 a1 w1 s1 t1 => ?_
    cases x with
    | nrm => exact ihb c2 β1 T1 h1' a1 w1 k hr.2 h2 hk s1 Q fun x T2 h2' hk2 β2 a2 w2 s2 t2 => hQ x T2 h2' hk2 β2 a2 w2 s2 (t1.trans t2)
    | exit j => exact hQ (.exit j) T1 h1' hk β1 a1 w1 s1 t1
    | ret => exact hQ .ret T1 h1' hk β1 a1 w1 s1 t1
  | cond co t e iht ihe =>
    intro c β T h a w k hr hc he hs Q hQ
    obtain ⟨o, c1, c2, rfl, h0, h1, h2⟩ := cCode_cond hc
    simp only [SCode.rnd, Bool.and_eq_true] at hr
    simp only [wexec] at he
    have hv := cOpd_ok hs h0
    cases hyv : co.ev T <;> rw [hyv] at he hv <;> simp only [wif] at he
    rename_i bb
    generalize hce : a.eval o = cv at hv
    cases hv
    cases bb with
    | true => exact wpIn_cond_true hce (iht c1 β T h a w k hr.1 h1 (he.1 rfl) hs Q hQ)
    | false => exact wpIn_cond_false hce (ihe c2 β T h a w k hr.2 h2 (he.2 rfl) hs Q hQ)
  | block id b ih =>
    intro c β T h a w k hr hc he hs Q hQ
    obtain ⟨c1, rfl, h1⟩ := cCode_block hc
    simp only [wexec] at he
    refine wpIn_block ?_
    refine ih c1 β T h a w _ hr h1 he hs _ fun x T1 h1' hk β1 a1 w1 s1 t1 => ?_
    cases x with
    | nrm => exact hQ .nrm T1 h1' hk β1 a1 w1 s1 t1
    | ret => exact hQ .ret T1 h1' hk β1 a1 w1 s1 t1
    | exit j =>
      show (if j = id then Q .normal a1 w1 else Q (.exit j) a1 w1)
      simp only [xs] at hk
      cases hb : Nat.beq j id with
      | true =>
        rw [hb] at hk
        rw [if_pos (Nat.eq_of_beq_eq_true hb)]
        exact hQ .nrm T1 h1' hk β1 a1 w1 s1 t1
      | false =>
        rw [hb] at hk
        rw [if_neg (Nat.ne_of_beq_eq_false hb)]
        exact hQ (.exit j) T1 h1' hk β1 a1 w1 s1 t1
end
/-! ## soundness: code -/
theorem cCode_rng {P : Program} {nt : Nat} {c : Code} {g : Opd} {ps : List Nat} {x y : ACode} (hc : cCode P nt c = some (.rng g ps x y)) : ∃ go pa c1 c2, c = .rangeFunc go pa c1 c2 ∧ cOpd go = some g ∧ pa.toList = ps ∧ cCode P nt c1 = some x ∧ cCode P nt c2 = some y ∧ ∀ p, p ∈ ps → p < nt := by
  cases c <;> simp only [cCode] at hc <;> (try (cases hc; done))
  case rangeFunc go pa c1 c2 =>
    split at hc
    · rename_i g' x' y' q1 q2 q3
      split at hc
      · rename_i hall
        cases hc
        refine ⟨_, _, _, _, rfl, q1, rfl, q2, q3, fun p hp => ?_⟩
        have := List.all_eq_true.1 hall p hp
        exact Nat.le_of_ble_eq_true this
      · cases hc
    · cases hc
  all_goals (repeat' (split at hc)) <;> cases hc
section
variable {P : Program} {nt : Nat} {own : Nat → Prop}
theorem elems_val {own : Nat → Prop} {β1 : Bl} {h1 : AH} {W : World} (hs : SimH own β1 h1.H h1.nx W) {sl : AV} {sv : Value} (hv : VR W.heap (LL own β1 h1.H) β1 sl sv) {xl : List (List AV)} {en : Option Nat} (he : elemsZ h1 (en.getD 1) sl = some xl) :
    xl.length ≤ maxLen ∧ ((xl.length = 0 ∧ ∃ a cap, sv = .slice a 0 cap) ∨ ∃ b' o cap, sv = .slice (some ⟨b', o, none⟩) xl.length cap ∧
      ∀ k, k < xl.length → ∃ v, ElemAt W b' (o + k * en.getD 1) en v ∧ ∀ x, xl[k]? = some x → VR W.heap (LL own β1 h1.H) β1 (elV en x) v) := by
  -- elements off a row of cells
  have key : ∀ (b' o : Nat) (cur2 : Array Value) (e2 : TypeId) (fz : Nat × Nat) (x : List AV), W.heap[b']? = some (.cells cur2 e2 fz) → x.length = en.getD 1 → ones x = true → o + en.getD 1 ≤ cur2.size →
      (∀ (j : Nat) (c : AV) (u : Value), x[j]? = some c → cur2[o + j]? = some u → VR W.heap (LL own β1 h1.H) β1 c u) → ∃ v, ElemAt W b' o en v ∧ VR W.heap (LL own β1 h1.H) β1 (elV en x) v := by
    intro b' o cur2 e2 fz x r1 hxl hone hsz rfls
    cases en with
    | none =>
      simp only [Option.getD_none] at hxl hsz
      match x, hxl with
      | [c], _ =>
        exact ⟨cur2[o], by simp [ElemAt, World.cell?, r1, show o < cur2.size by omega], rfls 0 c _ rfl (by simp [show o < cur2.size by omega])⟩
    | some n =>
      simp only [Option.getD_some] at hxl hsz
      refine ⟨.agg (cur2.extract o (o + n)), ⟨_, rfl, by simp; omega, fun j c hj => ?_, fun j c hj => ?_⟩, .agg _ _ (by simp; omega) fun j c u hj hu => ?_⟩
      · rw [Array.getElem?_extract] at hj
        split at hj
        · simp [World.cell?, r1, hj]
        · cases hj
      · rw [Array.getElem?_extract] at hj
        split at hj
        · rename_i hjn
          have hjx : j < x.length := by omega
          have h1 : x[j].one = true := List.all_eq_true.1 hone _ (List.getElem_mem hjx)
          exact (rfls j x[j] c (by simp [hjx]) hj).one h1
        · cases hj
      · rw [Array.getElem?_extract] at hu
        split at hu
        · exact rfls j c u hj hu
        · cases hu
  unfold elemsZ at he
  split at he
  · cases he
    cases hv
    exact ⟨by simp, .inl ⟨rfl, _, _, rfl⟩⟩
  · cases he
    cases hv
    exact ⟨by simp, .inl ⟨rfl, _, _, rfl⟩⟩
  · rename_i ys
    split at he
    case isFalse => cases he
    rename_i hall
    simp only [Bool.and_eq_true] at hall
    obtain rfl : ys = xl := by simpa using he
    have hlz : ∀ (i : Nat) (x : List AV), ys[i]? = some x → x.length = en.getD 1 ∧ ones x = true := fun i x hi => by
      have hq := List.all_eq_true.1 hall.1 x (List.mem_of_getElem? hi)
      rw [Bool.and_eq_true] at hq
      exact ⟨Nat.eq_of_beq_eq_true hq.1, hq.2⟩
    cases hv with
    | psl0 a cap => exact ⟨by simp, .inl ⟨rfl, _, _, rfl⟩⟩
    | psl _ z b2 o2 cap cur2 e2 fz hb2 hL hs2 hz hcap hx =>
      refine ⟨Nat.le_of_ble_eq_true hall.2, .inr ⟨_, _, _, rfl, fun k hk => ?_⟩⟩
      have h0 : ys[k]? = some ys[k] := by simp [hk]
      have hzz : z = en.getD 1 := by rw [← hz k _ h0]; exact (hlz k _ h0).1
      subst hzz
      have hkz : k * en.getD 1 + en.getD 1 ≤ ys.length * en.getD 1 := by
        have := Nat.mul_le_mul_right (en.getD 1) (show k + 1 ≤ ys.length by omega)
        rw [Nat.succ_mul] at this; exact this
      obtain ⟨v, hv1, hv2⟩ := key b2 (o2 + k * en.getD 1) cur2 e2 fz ys[k] hb2 (hlz k _ h0).1 (hlz k _ h0).2 (by omega) (fun j c u hj hu => hx k _ j c u h0 hj hu)
      refine ⟨v, hv1, fun x hxk => ?_⟩
      rw [h0] at hxk
      cases hxk
      exact hv2
  · rename_i id off len z'
    split at he
    case isFalse => cases he
    rename_i hzz
    subst hzz
    split at he
    case h_2 => cases he
    rename_i cs hcs
    split at he
    case h_2 => cases he
    rename_i l hl
    split at he
    case isFalse => cases he
    rename_i hones
    cases he
    obtain ⟨hl1, rfl⟩ := cut_some hl
    obtain ⟨b2, base2, hb2, _, cur2, e2, r1, r2, r3⟩ := hs.obj id _ (cellsAt_some hcs)
    rw [chunk_len]
    cases hv with
    | rsl _ _ _ _ b3 base3 cap cur3 e3 fz3 h hb3 hc3 hm hs3 =>
      rw [hb2] at h; cases h
      rw [r1] at hb3; cases hb3
      refine ⟨by omega, .inr ⟨_, _, _, rfl, fun k hk => ?_⟩⟩
      have hkz : k * en.getD 1 + en.getD 1 ≤ len * en.getD 1 := by
        have := Nat.mul_le_mul_right (en.getD 1) (show k + 1 ≤ len by omega)
        rw [Nat.succ_mul] at this; exact this
      obtain ⟨v, hv1, hv2⟩ := key b2 (base2 + off + k * en.getD 1) cur2 e2 (0, 0) (((cs.drop off).take (len * en.getD 1)).drop (k * en.getD 1) |>.take (en.getD 1)) r1 (by simp; omega) (List.all_eq_true.2 fun c hc => List.all_eq_true.1 hones c (List.mem_of_mem_drop (List.mem_of_mem_take hc))) (by omega) (fun j c u hj hu => by
        rw [List.getElem?_take] at hj
        split at hj
        · rename_i hjz
          rw [List.getElem?_drop, List.getElem?_take] at hj
          split at hj
          · rw [List.getElem?_drop] at hj
            exact r3 _ c u hj (by rw [← hu]; congr 1; omega)
          · cases hj
        · cases hj)
      refine ⟨v, hv1, fun x hx => ?_⟩
      rw [chunk_get _ _ _ _ hk] at hx
      cases hx
      exact hv2
    | rsl0 _ _ _ b3 base3 o h => exact ⟨by simp, .inl ⟨rfl, _, _, rfl⟩⟩
  · cases he

theorem box_val {own : Nat → Prop} {β1 : Bl} {h1 : AH} {W : World} (hs : SimH own β1 h1.H h1.nx W) {b bb base : Nat} (hb : β1 b = some (bb, base)) {sl : AV} (hc : h1.cellsAt b = some [sl]) :
    ∃ sv, W.cell? ⟨bb, base, none⟩ = some sv ∧ VR W.heap (LL own β1 h1.H) β1 sl sv ∧ bb < W.heap.size := by
  obtain ⟨bb', base', hb', _, cur, e, q1, q2, q3⟩ := hs.obj b _ (cellsAt_some hc)
  rw [hb] at hb'; cases hb'
  have hlt : base < cur.size := by simp at q2; omega
  exact ⟨cur[base], by simp [World.cell?, q1, hlt], q3 0 sl cur[base] (by simp) (by simp [hlt]), (Array.getElem?_eq_some_iff.1 q1).1⟩
theorem elems_mem {own : Nat → Prop} {β1 : Bl} {h1 : AH} {W : World} (hs : SimH own β1 h1.H h1.nx W) {b bb base : Nat} (hb : β1 b = some (bb, base)) {sl : AV} {xl : List (List AV)} {en : Option Nat} (hc : h1.cellsAt b = some [sl]) (he : elemsZ h1 (en.getD 1) sl = some xl) :
    xl.length ≤ maxLen ∧ ((xl.length = 0 ∧ ∃ a cap, W.cell? ⟨bb, base, none⟩ = some (.slice a 0 cap)) ∨ ∃ b' o cap, W.cell? ⟨bb, base, none⟩ = some (.slice (some ⟨b', o, none⟩) xl.length cap) ∧
      ∀ k, k < xl.length → ∃ v, ElemAt W b' (o + k * en.getD 1) en v ∧ ∀ x, xl[k]? = some x → VR W.heap (LL own β1 h1.H) β1 (elV en x) v) := by
  obtain ⟨bb', base', hb', _, cur, e, q1, q2, q3⟩ := hs.obj b _ (cellsAt_some hc)
  rw [hb] at hb'; cases hb'
  have hlt : base < cur.size := by simp at q2; omega
  have hcell : W.cell? ⟨bb, base, none⟩ = some cur[base] := by simp [World.cell?, q1, hlt]
  have hv := q3 0 sl cur[base] (by simp) (by simp [hlt])
  obtain ⟨k1, k2⟩ := elems_val hs hv he
  refine ⟨k1, ?_⟩
  rcases k2 with ⟨hz, a, cap, hsv⟩ | ⟨b', o, cap, hsv, hel⟩
  · exact .inl ⟨hz, a, cap, hcell.trans (congrArg some hsv)⟩
  · exact .inr ⟨b', o, cap, hcell.trans (congrArg some hsv), hel⟩

theorem round_tmps {nt : Nat} {tmps : Array Value} (hsz : tmps.size = nt) {T : Tm} {hp : Array Obj} {L : Nat → Prop} {β : Bl} (ht : ∀ t v, T.get t = some v → VR hp L β v (tmps.getD t Go.undef)) {p q : Nat} (hp1 : p < nt) (hq1 : q < nt) {x y : AV} {cx cy : Value} (hx : VR hp L β x cx) (hy : VR hp L β y cy) :
    ∀ t v, ((T.put p x).put q y).get t = some v → VR hp L β v ((((#[p, q] : Array Nat).zip #[cx, cy]).foldl (fun tm (z : Nat × Value) => tm.setIfInBounds z.1 z.2) tmps).getD t Go.undef) := by
  intro t v hv
  have hf : (((#[p, q] : Array Nat).zip #[cx, cy]).foldl (fun tm (z : Nat × Value) => tm.setIfInBounds z.1 z.2) tmps) = (tmps.setIfInBounds p cx).setIfInBounds q cy := by simp
  rw [hf]
  rw [Tm.get_put, Tm.get_put] at hv
  rw [Array.getD_eq_getD_getElem?, Array.getElem?_setIfInBounds]
  by_cases h1 : t = q
  · subst h1
    rw [if_pos rfl] at hv; cases hv
    simp [hsz, hq1]; exact hy
  · rw [if_neg h1] at hv
    rw [if_neg (Ne.symm h1), Array.getElem?_setIfInBounds]
    by_cases h2 : t = p
    · subst h2
      rw [if_pos rfl] at hv; cases hv
      simp [hsz, hp1]; exact hx
    · rw [if_neg h2] at hv
      rw [if_neg (Ne.symm h2), ← Array.getD_eq_getD_getElem?]
      exact ht t v hv

theorem rng_wp {cl : CL} (hcl : CLOk P cl) {its : List It} {g : Opd} {ps : List Nat} {sa sb : SCode} (hra : sa.rnd = true) (hrb : sb.rnd = true) (hits : ∀ i ∈ its, IterOk P i) {c : Code} {ds : List Deferred} {β : Bl} {T : Tm} {h : AH} {a : Act} {w : World} {k : AX → Tm → AH → Prop}
    (hc : cCode P nt c = some (SCode.rng its g ps sa sb).erase) (he : wexec cl (.rng its g ps sa sb) T h k) (hs : Sim nt ds own β T h a w) {Q : Exit → Act → World → Prop}
    (hQ : ∀ x T' h', k x T' h' → ∀ ds' β' a' w', Sim nt ds' own β' T' h' a' w' → Trans own β h w β' h' w' → Marks w.heap.size w' ds ds' → Q x.conc a' w') : c.wp P Q a w := by
  obtain ⟨go, pa, c1, c2, rfl, hgo, hpa, hc1, hc2, hpl⟩ := cCode_rng hc
  simp only [wexec, wps] at he
  split at he
  case h_2 => exact he.elim
  rename_i p q
  obtain ⟨it, hmit, b, sl, xl, I, hv, hI0, hmem, hround, hdone⟩ := he
  have hit := hits it hmit
  have hpa' : pa = #[p, q] := by apply Array.ext'; simpa using hpa
  subst hpa'
  have hgv := cOpd_ok hs hgo
  rw [hv] at hgv
  generalize hce : a.eval go = cv at hgv
  cases hgv with
  | func _ _ _ f2 d2 hl1 hl2 g1 g2 =>
  have hf2 : f2 = #[] := by simpa using hl1.symm
  subst hf2
  obtain ⟨dv, rfl⟩ : ∃ dv, d2 = #[dv] := by
    have : d2.toList.length = 1 := by simpa using hl2.symm
    obtain ⟨dv, hd⟩ := List.length_eq_one_iff.1 this
    exact ⟨dv, by apply Array.ext'; simpa using hd⟩
  have hdv := g2 0 (.ptr b 0) dv rfl rfl
  cases hdv with
  | ptr _ _ bb base hβ =>
  obtain ⟨⟨fn2, hfn2, hbody2, hname2⟩, hback⟩ := hit
  refine (wpIn_wide (n := 0)).1 (wpIn_rangeFunc ?_)
  intro fn hfn
  obtain ⟨rec, hrec⟩ : ∃ rec : LoopState → Option Code → Loop, rec = fun st pe => { state := st, pending := pe, fn, tmps := a.tmps, params := #[p, q], assign := c1, body := c2, defers := w.heap.size } := ⟨_, rfl⟩
  obtain ⟨W1, hW1⟩ : ∃ W1, (w.alloc (.deferred (some []))).alloc (.loop (rec .ready none)) = W1 := ⟨_, rfl⟩
  have hL1 : W1.heap[w.heap.size + 1]? = some (.loop (rec .ready none)) := by
    rw [← hW1]; have := World.alloc_heap_new (w.alloc (.deferred (some []))) (.loop (rec .ready none)); rwa [World.size_alloc] at this
  have hK1 : W1.heap[w.heap.size]? = some (.deferred (some [])) := by
    rw [← hW1]; exact (Below.heap_alloc _ _ _ (by simp)).trans (World.alloc_heap_new w _)
  have hq1 : Quiet w.heap.size w W1 := by rw [← hW1]; exact (Quiet.alloc _ (Nat.le_refl _)).trans (Quiet.alloc _ (by simp))
  let D := w.heap.size
  let J : Nat → World → Prop := fun i W => ∃ β1 h1, SimH own β1 h1.H h1.nx W ∧ Trans own β h w β1 h1 W ∧ I i h1 ∧ W.heap[w.heap.size + 1]? = some (.loop (rec .ready none)) ∧ W.heap[w.heap.size]? = some (.deferred (some []))
  let Jx : World → Prop := fun W => ∃ (y : AX) (cy : Code) (β1 : Bl) (h1 : AH), ((∃ j, y = .exit j ∧ cy = .exit j) ∨ (y = .ret ∧ cy = .ret)) ∧ SimH own β1 h1.H h1.nx W ∧ Trans own β h w β1 h1 W ∧ k y T h1 ∧ W.heap[w.heap.size + 1]? = some (.loop (rec .done (some cy))) ∧ W.heap[w.heap.size]? = some (.deferred (some []))
  have hJ0 : J 0 W1 := ⟨β, h, hs.hp.quiet hq1, (Trans.refl own β h w).quiet hq1, hI0, hL1, hK1⟩
  have hβ1 : ∀ {β1 : Bl} {h1 : AH} {W : World}, Trans own β h w β1 h1 W → β1 b = some (bb, base) := fun t => t.ext _ _ hβ
  have hcalls : Calls P it.f #[.func (.yield (w.heap.size + 1)) #[] #[], .pointer (some ⟨bb, base + 0, none⟩)] W1 fun e W' => (∃ v, e = .returned v) ∧ (J xl.length W' ∨ Jx W') := by
    rw [Nat.add_zero base]
    obtain ⟨sv, hsv0, hvv, hbl⟩ := box_val hs.hp hβ (hmem 0 h hI0).1
    have hsv1 : W1.cell? ⟨bb, base, none⟩ = some sv := by
      rw [← hsv0]; simp only [World.cell?]; rw [hq1.low bb hbl]
    refine hback _ _ xl.length J Jx W1 ?_ ?_ ?_ ?_ (fun i W W' ⟨β1, h1, s1, t1, hi, hl, hk⟩ hq => ⟨β1, h1, s1.quiet hq, t1.quiet ⟨hq.size, hq.same, fun b hb => hq.low b (Nat.lt_of_lt_of_le hb t1.size), hq.os, hq.tape, hq.output⟩, hi, (hq.low _ (lt_of_get hl)).trans hl, (hq.low _ (lt_of_get hk)).trans hk⟩) hJ0
    · exact (elems_mem (hs.hp.quiet hq1) hβ (hmem 0 h hI0).1 (hmem 0 h hI0).2).1
    · rintro i W ⟨β1, h1, s1, t1, hi, _, _⟩
      rcases (elems_mem s1 (hβ1 t1) (hmem i h1 hi).1 (hmem i h1 hi).2).2 with hz | ⟨b', o, cap, q1, q2⟩
      · exact .inl hz
      · exact .inr ⟨b', o, cap, q1, fun k hk => let ⟨v, hv, _⟩ := q2 k hk; ⟨v, hv⟩⟩
    · rintro b2 o2 cap2 hb2 i W ⟨β1, h1, s1, t1, hi, _, _⟩ k hk
      rw [hsv1] at hb2; cases hb2
      rcases (elems_val s1 (hvv.later t1.later) (hmem i h1 hi).2).2 with ⟨hz, _⟩ | ⟨b', o, cap, q1, q2⟩
      · omega
      · cases q1
        obtain ⟨v, hv, _⟩ := q2 k hk; exact ⟨v, hv⟩
    · rintro i W b2 o2 cap2 v hlt ⟨β1, h1, s1, t1, hi, hl, hk⟩ hsv hvv2
      have hel : ∃ x, xl[it.pos xl.length i]? = some x ∧ VR W.heap (LL own β1 h1.H) β1 (elV it.en x) v := by
        have hk2 : it.pos xl.length i < xl.length := it.pos_lt hlt
        rcases hsv with hsv | hsv
        · rcases (elems_mem s1 (hβ1 t1) (hmem i h1 hi).1 (hmem i h1 hi).2).2 with ⟨hz, _⟩ | ⟨b', o, cap, q1, q2⟩
          · omega
          · rw [hsv] at q1; cases q1
            obtain ⟨v', hv', hx'⟩ := q2 _ hk2
            obtain rfl := hvv2.uniq hv'
            exact ⟨xl[it.pos xl.length i], by simp [hk2], hx' _ (by simp [hk2])⟩
        rw [hsv1] at hsv; cases hsv
        rcases (elems_val s1 (hvv.later t1.later) (hmem i h1 hi).2).2 with ⟨hz, _⟩ | ⟨b', o, cap, q1, q2⟩
        · omega
        · cases q1
          obtain ⟨v', hv', hx'⟩ := q2 _ hk2
          obtain rfl := hvv2.uniq hv'
          exact ⟨xl[it.pos xl.length i], by simp [hk2], hx' _ (by simp [hk2])⟩
      obtain ⟨x, hx, hxv⟩ := hel
      have hy := run_yield (P := P) (args := #[.int .i64 ((it.pos xl.length i : Nat) : Int), v]) hl (by rw [hrec]; rfl)
      rw [hrec] at hy
      refine ⟨fn, _, c1, c2, hy, roundIn_of_wpIn hfn ?_⟩
      have hsim : Sim nt [] own β1 ((T.put p (.int .i64 ((it.pos xl.length i : Nat) : Int))).put q (elV it.en x)) h1 { tmps := (((#[p, q] : Array Nat).zip #[.int .i64 ((it.pos xl.length i : Nat) : Int), v]).foldl (fun tm (z : Nat × Value) => tm.setIfInBounds z.1 z.2) a.tmps), defers := [] } W :=
        ⟨s1, by simp [hs.sz], round_tmps hs.sz (fun t u hu => (hs.tm t u hu).later t1.later) (hpl p (by simp)) (hpl q (by simp)) (.int _ _) hxv, rfl⟩
      refine rcode_wp hcl sa c1 β1 _ h1 _ W _ hra hc1 (hround i h1 x hi hlt hx) hsim _ fun z T2 h2 hz β2 a2 w2 s2 t2 => ?_
      cases z with
      | exit j => exact hz.elim
      | ret => exact hz.elim
      | nrm =>
      have hl2 := t2.idle s1 hl rfl
      have hk2 := t2.idle s1 hk rfl
      have hqb : Quiet w.heap.size w2 (w2.putObj (w.heap.size + 1) (.loop { rec .ready none with state := .busy })) := Quiet.putObj _ hl2 rfl (by omega)
      refine ⟨_, run_beginRound hl2 (by rw [hrec]), ?_⟩
      have s2' : Sim nt [] own β2 T2 h2 a2 (w2.putObj (w.heap.size + 1) (.loop { rec .ready none with state := .busy })) := ⟨s2.hp.quiet hqb, s2.sz, fun t u hu => (s2.tm t u hu).quiet hqb, s2.df⟩
      have tb := (t1.trans t2).quiet hqb
      have hl3 : (w2.putObj (w.heap.size + 1) (.loop { rec .ready none with state := .busy })).heap[w.heap.size + 1]? = some (.loop { rec .ready none with state := .busy }) := World.putObj_heap_same (lt_of_get hl2)
      have hk3 : (w2.putObj (w.heap.size + 1) (.loop { rec .ready none with state := .busy })).heap[w.heap.size]? = some (.deferred (some [])) := (World.putObj_heap_other (by omega)).trans hk2
      refine rcode_wp hcl sb c2 β2 T2 h2 a2 _ _ hrb hc2 hz s2' _ fun y T3 h3 hy3 β3 a3 w3 s3 t3 => ?_
      have hl4 := t3.idle s2'.hp hl3 rfl
      have hk4 := t3.idle s2'.hp hk3 rfl
      have fin : ∀ (jump : Option Code), (Instr.endRound (w.heap.size + 1) jump).run P w3 = .ok (.bool jump.isNone) (w3.putObj (w.heap.size + 1) (.loop (rec (if jump.isNone then .ready else .done) jump))) ∧
          Quiet w.heap.size w3 (w3.putObj (w.heap.size + 1) (.loop (rec (if jump.isNone then .ready else .done) jump))) ∧
          (w3.putObj (w.heap.size + 1) (.loop (rec (if jump.isNone then .ready else .done) jump))).heap[w.heap.size + 1]? = some (.loop (rec (if jump.isNone then .ready else .done) jump)) ∧
          (w3.putObj (w.heap.size + 1) (.loop (rec (if jump.isNone then .ready else .done) jump))).heap[w.heap.size]? = some (.deferred (some [])) := fun jump => by
        have := run_endRound (P := P) jump hl4
        rw [hrec] at this ⊢
        exact ⟨this, Quiet.putObj _ hl4 rfl (by omega), World.putObj_heap_same (lt_of_get hl4), (World.putObj_heap_other (by omega)).trans hk4⟩
      cases y with
      | nrm =>
        obtain ⟨f1, f2, f3, f4⟩ := fin none
        exact ⟨_, _, f1, .inl ⟨rfl, β3, h3, s3.hp.quiet f2, (tb.trans t3).quiet f2, hy3, f3, f4⟩⟩
      | exit j =>
        obtain ⟨f1, f2, f3, f4⟩ := fin (some (.exit j))
        exact ⟨_, _, f1, .inr ⟨rfl, .exit j, .exit j, β3, h3, .inl ⟨j, rfl, rfl⟩, s3.hp.quiet f2, (tb.trans t3).quiet f2, hy3, f3, f4⟩⟩
      | ret =>
        obtain ⟨f1, f2, f3, f4⟩ := fin (some .ret)
        exact ⟨_, _, f1, .inr ⟨rfl, .ret, .ret, β3, h3, .inr ⟨rfl, rfl⟩, s3.hp.quiet f2, (tb.trans t3).quiet f2, hy3, f3, f4⟩⟩
  refine ⟨w.heap.size + 1, [mk w.heap.size], W1, { target := .fn (.func it.f) #[.pointer (some ⟨bb, base + 0, none⟩)], args := #[.func (.yield (w.heap.size + 1)) #[] #[]] }, W1, it.f,
    #[.func (.yield (w.heap.size + 1)) #[] #[], .pointer (some ⟨bb, base + 0, none⟩)], W1, ?_, ?_, fun _ _ => trivial, ?_, (fun hh => by cases hh), ?_⟩
  · rw [← hW1, hrec]; exact run_enterLoop_outer _ _ _ _ _
  · simp only [resolve, hce]
    simp [go_sem]
  · have hb : fn2.body.isNone = false := by cases hq : fn2.body <;> simp_all
    simp only [invoke, callFunc, Sem.run_bind, Sem.run_pure, Result.andThen_ok, run_program, hfn2]
    simp [hname2, hb]
  · refine callsIn_wide.2 (hcalls.mono ?_)
    have simA : ∀ {β1 : Bl} {h1 : AH} {W W' : World}, SimH own β1 h1.H h1.nx W → Trans own β h w β1 h1 W → Quiet w.heap.size W W' → Sim nt (mk w.heap.size :: ds) own β1 T h1 { a with defers := mk w.heap.size :: a.defers } W' := fun s t qq =>
      ⟨s.quiet qq, hs.sz, fun t' u hu => ((hs.tm t' u hu).later t.later).quiet qq, by show _ :: a.defers = _; rw [hs.df]⟩
    have mkA : ∀ {W W' : World}, W.heap[w.heap.size]? = some (.deferred (some [])) → W' = W.putObj (w.heap.size + 1) (.loop (rec .exhausted none)) ∨ (∃ c, W' = W.putObj (w.heap.size + 1) (.loop (rec .exhausted c))) → Marks w.heap.size W' ds (mk w.heap.size :: ds) := fun hk hw => by
      refine ⟨[w.heap.size], rfl, by simp, fun r hr => ?_⟩
      simp at hr; subst hr
      rcases hw with rfl | ⟨c, rfl⟩ <;> exact ⟨Nat.le_refl _, (World.putObj_heap_other (by omega)).trans hk⟩
    rintro e W2 ⟨⟨v, rfl⟩, ⟨β1, h1, s1, t1, hi, hl, hk⟩ | ⟨y, cy, β1, h1, hy, s1, t1, hky, hl, hk⟩⟩
    · subst hrec
      have hend := run_endLoop (P := P) hl (by simp)
      have hqe : Quiet w.heap.size W2 (W2.putObj (w.heap.size + 1) (.loop { state := .exhausted, pending := none, fn, tmps := a.tmps, params := #[p, q], assign := c1, body := c2, defers := w.heap.size })) := Quiet.putObj _ hl rfl (by omega)
      refine ⟨none, _, hend, ?_⟩
      exact hQ .nrm T h1 (hdone h1 hi) _ β1 _ _ (simA s1 t1 hqe) (t1.quiet hqe) (mkA hk (.inr ⟨none, rfl⟩))
    · subst hrec
      have hend := run_endLoop (P := P) hl (by simp)
      have hqe : Quiet w.heap.size W2 (W2.putObj (w.heap.size + 1) (.loop { state := .exhausted, pending := some cy, fn, tmps := a.tmps, params := #[p, q], assign := c1, body := c2, defers := w.heap.size })) := Quiet.putObj _ hl rfl (by omega)
      refine ⟨some cy, _, hend, ?_⟩
      have hq2 := hQ y T h1 hky _ β1 _ _ (simA s1 t1 hqe) (t1.quiet hqe) (mkA hk (.inr ⟨some cy, rfl⟩))
      rcases hy with ⟨j, rfl, rfl⟩ | ⟨rfl, rfl⟩
      · exact wpIn_exit hq2
      · exact wpIn_ret hq2

theorem wcode_wp {cl : CL} (hcl : CLOk P cl) : ∀ (sc : SCode) (c : Code) (ds : List Deferred) (β : Bl) (T : Tm) (h : AH) (a : Act) (w : World) (k : AX → Tm → AH → Prop), sc.rok = true → (∀ i, i ∈ sc.its → IterOk P i) → cCode P nt c = some sc.erase → wexec cl sc T h k → Sim nt ds own β T h a w →
    ∀ Q : Exit → Act → World → Prop, (∀ x T' h', k x T' h' → ∀ ds' β' a' w', Sim nt ds' own β' T' h' a' w' → Trans own β h w β' h' w' → Marks w.heap.size w' ds ds' → Q x.conc a' w') → c.wp P Q a w := by
  intro sc
  induction sc with
  | skip =>
    intro c ds β T h a w k hr hi hc he hs Q hQ
    simp only [wexec] at he
    cases c <;> simp only [cCode, SCode.erase] at hc <;> (try (cases hc; done))
    case skip => exact wp_skip (hQ .nrm T h he ds β a w hs (.refl _ _ _ _) (.refl _ _ _))
    case label => exact wp_label (hQ .nrm T h he ds β a w hs (.refl _ _ _ _) (.refl _ _ _))
    all_goals (repeat' (split at hc)) <;> cases hc
  | reg ops =>
    intro c ds β T h a w k hr hi hc he hs Q hQ
    simp only [wexec] at he
    cases c <;> simp only [cCode, SCode.erase] at hc <;> (try (cases hc; done))
    case region rid ops' draw =>
      split at hc
      · rename_i l hl
        cases draw with
        | true => simp only [if_true] at hc; split at hc <;> cases hc
        | false =>
          simp only [Bool.false_eq_true, if_false] at hc
          cases hc
          exact wp_region_list (wops_wp hcl _ _ _ _ _ _ _ _ hl he hs fun T' h' hk β' a' w' s t => hQ .nrm T' h' hk ds β' a' w' s t (.refl _ _ _))
      · cases hc
    all_goals (repeat' (split at hc)) <;> cases hc
  | draw ops =>
    intro c ds β T h a w k hr hi hc he hs Q hQ
    simp only [wexec] at he
    cases c <;> simp only [cCode, SCode.erase] at hc <;> (try (cases hc; done))
    case region rid ops' draw =>
      split at hc
      · rename_i l hl
        cases draw with
        | true =>
          simp only [if_true] at hc
          split at hc
          · rename_i hm
            cases hc
            simp only [Bool.and_eq_true] at hm
            obtain ⟨_, hdl, hcm⟩ := dl_perm2 hm.2 hl
            exact wp_region_any hm.1 (wdraw_any hcl hm.1 hdl hcm he hs fun T' h' hk β' a' w' s t => hQ .nrm T' h' hk ds β' a' w' s t (.refl _ _ _))
          · cases hc
        | false => simp only [Bool.false_eq_true, if_false] at hc; cases hc
      · cases hc
    all_goals (repeat' (split at hc)) <;> cases hc
  | regS ops =>
    intro c ds β T h a w k hr hi hc he hs Q hQ
    simp only [wexec] at he
    cases c <;> simp only [cCode, SCode.erase] at hc <;> (try (cases hc; done))
    case region rid ops' draw =>
      split at hc
      · rename_i l hl
        cases draw with
        | true => simp only [if_true] at hc; split at hc <;> cases hc
        | false =>
          simp only [Bool.false_eq_true, if_false] at hc
          cases hc
          exact wp_region_list (wopsS_wp hcl _ _ _ _ _ _ _ _ hl he hs fun T' h' hk β' a' w' s t => hQ .nrm T' h' hk ds β' a' w' s t (.refl _ _ _))
      · cases hc
    all_goals (repeat' (split at hc)) <;> cases hc
  | drawS ops =>
    intro c ds β T h a w k hr hi hc he hs Q hQ
    simp only [wexec] at he
    cases c <;> simp only [cCode, SCode.erase] at hc <;> (try (cases hc; done))
    case region rid ops' draw =>
      split at hc
      · rename_i l hl
        cases draw with
        | true =>
          simp only [if_true] at hc
          split at hc
          · rename_i hm
            simp only [Option.some.injEq, ACode.draw.injEq] at hc
            simp only [Bool.and_eq_true] at hm
            obtain ⟨_, hdl, hcm⟩ := dl_perm2 hm.2 hl
            exact wp_region_any hm.1 (wdrawS_any hcl hc hm.1 hdl he hs fun T' h' hk β' a' w' s t => hQ .nrm T' h' hk ds β' a' w' s t (.refl _ _ _))
          · cases hc
        | false => simp only [Bool.false_eq_true, if_false] at hc; cases hc
      · cases hc
    all_goals (repeat' (split at hc)) <;> cases hc
  | exit id =>
    intro c ds β T h a w k hr hi hc he hs Q hQ
    simp only [wexec] at he
    cases c <;> simp only [cCode, SCode.erase] at hc <;> (try (cases hc; done))
    case exit => cases hc; exact wp_exit (hQ (.exit id) T h he ds β a w hs (.refl _ _ _ _) (.refl _ _ _))
    all_goals (repeat' (split at hc)) <;> cases hc
  | ret =>
    intro c ds β T h a w k hr hi hc he hs Q hQ
    simp only [wexec] at he
    cases c <;> simp only [cCode, SCode.erase] at hc <;> (try (cases hc; done))
    case ret => exact wp_ret (hQ .ret T h he ds β a w hs (.refl _ _ _ _) (.refl _ _ _))
    all_goals (repeat' (split at hc)) <;> cases hc
  | stuck => intro c ds β T h a w k hr hi hc he; simp [wexec] at he
  | join lo a ih =>
    intro c ds β T h a' w k hr hi hc he hs Q hQ
    simp only [wexec, wjoin] at he
    obtain ⟨M, h1, h2⟩ := he
    exact ih c ds β T h a' w _ hr hi hc h1 hs Q fun x2 T2 h2' hk ds' β' a2 w2 s t m => hQ x2 _ h2' (h2 _ _ _ hk) ds' β' a2 w2 (s.keep lo) t m
  | frz lo a ih =>
    intro c ds β T h a' w k hr hi hc he hs Q hQ
    simp only [wexec, wfrz] at he
    obtain ⟨vs', hf, he⟩ := he
    have hnone : ∀ (i : Nat), PM.get (.leaf : PM AObj) i = none := fun i => by simp [PM.get]
    have hp0 : SimH own β (PM.leaf) h.nx w := ⟨hs.hp.fresh, hs.hp.lt, hs.hp.ownlt, (fun id o hg => by rw [hnone] at hg; cases hg), (fun id id' o o' b x y hg => by rw [hnone] at hg; cases hg)⟩
    have hs' : Sim nt ds own β (mkT lo vs') ⟨.leaf, h.nx⟩ a' w := by
      refine ⟨hp0, hs.sz, fun t u hu => ?_, hs.df⟩
      rcases mkTa_get _ lo 0 .leaf t u hu with ⟨j, h1, h2⟩ | h1
      · cases hv : vs'[j]? with
        | none => rw [h2]; simp [nthD, hv]; exact .undef _
        | some b =>
          have hb : u = b := by rw [h2]; simp [nthD, hv]
          subst hb
          have hg : (getL lo T)[j]? = some (rg T t) := by simp [getL, h1]
          refine hf own β w hs.hp j _ _ _ hg hv ?_
          unfold rg
          cases hT : T.get t with
          | none => exact .undef _
          | some x => exact hs.tm t x hT
      · cases t <;> cases h1
    have t0 : Trans own β h w β ⟨.leaf, h.nx⟩ w := ⟨fun _ _ h => h, fun _ _ => rfl, Nat.le_refl _, Nat.le_refl _, fun _ _ _ => rfl, (fun b ⟨j, o, x, h1, h2⟩ => by rw [hnone] at h1; cases h1), fun _ cur _ fz h => ⟨cur, fz, h, rfl, fun _ => rfl⟩, rfl, rfl, rfl⟩
    exact ih c ds β _ _ a' w k hr hi hc he hs' Q fun x2 T2 h2' hk ds' β' a2 w2 s t m => hQ x2 T2 h2' hk ds' β' a2 w2 s (t0.trans t) m
  | joinN lo a ih =>
    intro c ds β T h a' w k hr hi hc he hs Q hQ
    simp only [wexec, wjoinN] at he
    obtain ⟨M, h1, h2⟩ := he
    refine ih c ds β T h a' w _ hr hi hc h1 hs Q fun x2 T2 h2' hk ds' β' a2 w2 s t m => ?_
    cases x2 with
    | nrm => exact hQ .nrm _ h2' (h2 _ _ hk) ds' β' a2 w2 (s.keep lo) t m
    | exit j => exact hk.elim
    | ret => exact hk.elim
  | seq a b iha ihb =>
    intro c ds β T h a' w k hr hi hc he hs Q hQ
    obtain ⟨c1, c2, rfl, h1, h2⟩ := cCode_seq hc
    simp only [wexec] at he
    refine wp_seq ?_
    simp only [SCode.rok, Bool.and_eq_true] at hr
    refine iha c1 ds β T h a' w _ hr.1 (fun i hh => hi i (List.mem_append.2 (.inl hh))) h1 he hs _ fun x T1 h1' hk ds1 β1 a1 w1 s1 t1 m1 => ?_
    cases x with
    | nrm => exact ihb c2 ds1 β1 T1 h1' a1 w1 k hr.2 (fun i hh => hi i (List.mem_append.2 (.inr hh))) h2 hk s1 Q fun x T2 h2' hk2 ds2 β2 a2 w2 s2 t2 m2 => hQ x T2 h2' hk2 ds2 β2 a2 w2 s2 (t1.trans t2) (m1.trans t1.size s1.hp t2 m2)
    | exit j => exact hQ (.exit j) T1 h1' hk ds1 β1 a1 w1 s1 t1 m1
    | ret => exact hQ .ret T1 h1' hk ds1 β1 a1 w1 s1 t1 m1
  | cond co t e iht ihe =>
    intro c ds β T h a w k hr hi hc he hs Q hQ
    obtain ⟨o, c1, c2, rfl, h0, h1, h2⟩ := cCode_cond hc
    simp only [SCode.rok, Bool.and_eq_true] at hr
    simp only [wexec] at he
    have hv := cOpd_ok hs h0
    cases hyv : co.ev T <;> rw [hyv] at he hv <;> simp only [wif] at he
    rename_i bb
    generalize hce : a.eval o = cv at hv
    cases hv
    cases bb with
    | true => exact wp_cond_true hce (iht c1 ds β T h a w k hr.1 (fun i hh => hi i (List.mem_append.2 (.inl hh))) h1 (he.1 rfl) hs Q hQ)
    | false => exact wp_cond_false hce (ihe c2 ds β T h a w k hr.2 (fun i hh => hi i (List.mem_append.2 (.inr hh))) h2 (he.2 rfl) hs Q hQ)
  | block id b ih =>
    intro c ds β T h a w k hr hi hc he hs Q hQ
    obtain ⟨c1, rfl, h1⟩ := cCode_block hc
    simp only [wexec] at he
    refine wp_block ?_
    refine ih c1 ds β T h a w _ hr hi h1 he hs _ fun x T1 h1' hk ds1 β1 a1 w1 s1 t1 m1 => ?_
    cases x with
    | nrm => exact hQ .nrm T1 h1' hk ds1 β1 a1 w1 s1 t1 m1
    | ret => exact hQ .ret T1 h1' hk ds1 β1 a1 w1 s1 t1 m1
    | exit j =>
      show (if j = id then Q .normal a1 w1 else Q (.exit j) a1 w1)
      simp only [xs] at hk
      cases hb : Nat.beq j id with
      | true =>
        rw [hb] at hk
        rw [if_pos (Nat.eq_of_beq_eq_true hb)]
        exact hQ .nrm T1 h1' hk ds1 β1 a1 w1 s1 t1 m1
      | false =>
        rw [hb] at hk
        rw [if_neg (Nat.ne_of_beq_eq_false hb)]
        exact hQ (.exit j) T1 h1' hk ds1 β1 a1 w1 s1 t1 m1
  | loop li lo b ih =>
    intro c ds β T h a w k hr hi hc he hs Q hQ
    obtain ⟨c1, rfl, h1⟩ := cCode_loop hc
    simp only [wexec, wloop] at he
    obtain ⟨I, m, hI, hB⟩ := he
    refine wp_loop_rounds (m + 1) ?_
    have key : ∀ (n : Nat) (m : Nat) (ds1 : List Deferred) (β1 : Bl) (vs : List AV) (h1 : AH) (a1 : Act) (w1 : World), m < n → I m vs h1 → Sim nt ds1 own β1 (mkT li vs) h1 a1 w1 → Trans own β h w β1 h1 w1 → Marks w.heap.size w1 ds ds1 → Code.rounds P c1 Q n a1 w1 := by
      intro n
      induction n with
      | zero => intro m ds1 β1 vs h1 a1 w1 hm; omega
      | succ n ihn =>
        intro m ds1 β1 vs h1' a1 w1 hm hI s1 t1 m1
        rw [rounds_succ]
        refine ih c1 ds1 β1 (mkT li vs) h1' a1 w1 _ hr hi h1 (hB m vs h1' hI) s1 _ fun y T2 h2 hk ds2 β2 a2 w2 s2 t2 m2 => ?_
        cases y with
        | nrm =>
          obtain ⟨m', hm', hI'⟩ := hk
          exact ihn m' ds2 β2 _ h2 a2 w2 (by omega) hI' (s2.keep li) (t1.trans t2) (m1.trans t1.size s1.hp t2 m2)
        | exit j => exact hQ _ _ h2 hk ds2 β2 a2 w2 (s2.keep lo) (t1.trans t2) (m1.trans t1.size s1.hp t2 m2)
        | ret => exact hQ _ _ h2 hk ds2 β2 a2 w2 (s2.keep lo) (t1.trans t2) (m1.trans t1.size s1.hp t2 m2)
    exact key (m + 1) m ds β _ h a w (Nat.lt_succ_self m) hI (hs.keep li) (.refl _ _ _ _) (.refl _ _ _)
  | loopT b ih =>
    intro c ds β T h a w k hr hi hc he hs Q hQ
    obtain ⟨c1, rfl, h1⟩ := cCode_loop hc
    simp only [wexec, wloopT] at he
    obtain ⟨I, m, hI, hB⟩ := he
    refine wp_loop_rounds (m + 1) ?_
    have key : ∀ (n : Nat) (m : Nat) (ds1 : List Deferred) (β1 : Bl) (T1 : Tm) (h1 : AH) (a1 : Act) (w1 : World), m < n → I m T1 h1 → Sim nt ds1 own β1 T1 h1 a1 w1 → Trans own β h w β1 h1 w1 → Marks w.heap.size w1 ds ds1 → Code.rounds P c1 Q n a1 w1 := by
      intro n
      induction n with
      | zero => intro m ds1 β1 T1 h1 a1 w1 hm; omega
      | succ n ihn =>
        intro m ds1 β1 T1 h1' a1 w1 hm hI s1 t1 m1
        rw [rounds_succ]
        refine ih c1 ds1 β1 T1 h1' a1 w1 _ hr hi h1 (hB m T1 h1' hI) s1 _ fun y T2 h2 hk ds2 β2 a2 w2 s2 t2 m2 => ?_
        cases y with
        | nrm =>
          obtain ⟨m', hm', hI'⟩ := hk
          exact ihn m' ds2 β2 _ h2 a2 w2 (by omega) hI' s2 (t1.trans t2) (m1.trans t1.size s1.hp t2 m2)
        | exit j => exact hQ _ _ h2 hk ds2 β2 a2 w2 s2 (t1.trans t2) (m1.trans t1.size s1.hp t2 m2)
        | ret => exact hQ _ _ h2 hk ds2 β2 a2 w2 s2 (t1.trans t2) (m1.trans t1.size s1.hp t2 m2)
    exact key (m + 1) m ds β _ h a w (Nat.lt_succ_self m) hI hs (.refl _ _ _ _) (.refl _ _ _)
  | rng it g ps sa sb iha ihb =>
    intro c ds β T h a w k hr hi hc he hs Q hQ
    simp only [SCode.rok, Bool.and_eq_true] at hr
    exact rng_wp hcl hr.1 hr.2 (fun i hh => hi i (by simpa [SCode.its] using hh)) hc he hs hQ
end
/-! ## soundness: functions -/
/-- on the way out: the marks are taken one by one -/
theorem leaves_marks {P : Program} {fn : Func} {tmps : Array Value} {n0 : Nat} {R : Ending → World → Prop} : ∀ (ms : List Nat) (w : World), ms.Nodup → (∀ r ∈ ms, n0 ≤ r ∧ w.heap[r]? = some (.deferred (some []))) →
    (∀ w', Quiet n0 w w' → ∃ v, (results fn tmps).run P w' = .ok v w' ∧ R (.returned v) w') → LeavesInM Fence.wide 0 P fn tmps R (ms.map mk) .returning w
  | [], w, _, _, hR => hR w (.refl _ _)
  | r :: ms, w, hd, hm, hR => by
    obtain ⟨h1, h2⟩ := hm r (by simp)
    have hd' := List.nodup_cons.1 hd
    have hq : Quiet n0 w (w.putObj r (.deferred none)) := Quiet.putObj _ h2 rfl h1
    refine ⟨by simp, .inl ⟨r, _, rfl, run_takeDeferred h2, ?_⟩⟩
    refine leaves_marks ms _ hd'.2 (fun r' hr' => ⟨(hm r' (by simp [hr'])).1, ?_⟩) fun w' hq' => hR w' (hq.trans hq')
    have hne : r' ≠ r := fun e => by subst e; exact hd'.1 hr'
    rw [World.putObj_heap_other hne]
    exact (hm r' (by simp [hr'])).2

theorem wfn_ok {P : Program} {cl : CL} (hcl : CLOk P cl) {f : Nat} {fn : Func} {sf : SFn} (hf : P.funcs[f]? = some fn) (hc : cFn P fn = some sf.erase) (hn : fn.name ≠ "runtime.NumGoroutine") (hr : sf.body.rok = true) (hi : ∀ i, i ∈ sf.body.its → IterOk P i) {args : List AV} {h : AH} {R : AV → AH → Prop} (ha : wrun cl sf args h R) : CallsA P f args h R := by
  refine ⟨⟨fn, hf, cFn_body hc, hn⟩, fun own β w cargs hs hR => ?_⟩
  unfold cFn at hc
  split at hc
  case h_2 => cases hc
  rename_i c hb
  split at hc
  case h_2 => cases hc
  rename_i ac rs hac hrs
  simp only [SFn.erase, Option.some.injEq, AFn.mk.injEq] at hc
  obtain ⟨hnt, hres, hbody⟩ := hc
  unfold wrun at ha
  cases hlen : Nat.ble args.length sf.nt with
  | false => rw [hlen] at ha; exact ha.elim
  | true =>
  rw [hlen] at ha
  simp only [cond_true] at ha
  have hlen' : args.length ≤ fn.ntmps := by rw [hnt]; exact Nat.le_of_ble_eq_true hlen
  have hal : args.length = cargs.size := by simpa using hR.1
  refine (callsIn_wide (n := 0)).1 (callsIn_of_wp_marks hf hb trivial ((wpIn_wide).2 ?_))
  have hsim : Sim fn.ntmps [] own β (initT args 0 .leaf) h { tmps := cargs ++ Array.replicate (fn.ntmps - cargs.size) Go.undef, defers := [] } w := by
    refine ⟨hs, by simp; omega, fun t u hu => ?_, rfl⟩
    rw [initT_get] at hu
    split at hu
    · rename_i ht
      obtain ⟨cv, h1, h2⟩ := hR.get hu
      have hlt : t < cargs.size := by omega
      have h3 : cargs[t]? = some cv := by simpa using h1
      have : (cargs ++ Array.replicate (fn.ntmps - cargs.size) Go.undef).getD t Go.undef = cv := by
        simp [Array.getElem?_append, hlt]
        simpa [hlt] using h3
      rw [this]; exact h2
    · simp [Tm.get_leaf] at hu
  refine wcode_wp hcl sf.body c [] β _ h _ w (wfin sf.res R) hr hi (by rw [hac, hbody]) ha hsim _ fun x T' h1 hk ds' β' a' w' s t m => ?_
  have fin : wres (ares T' h1 sf.res) h1 R → LeavesInM Fence.wide 0 P fn a'.tmps (fun e w' => ∃ cv v h' β', e = .returned cv ∧ R v h' ∧ SimH own β' h'.H h'.nx w' ∧ VR w'.heap (LL own β' h'.H) β' v cv ∧ Trans own β h w β' h' w') a'.defers .returning w' := by
    intro hw
    unfold wres at hw
    split at hw
    case h_2 => exact hw.elim
    rename_i vs hvs
    rw [← hres] at hvs
    obtain ⟨ms, hds, hnd, hm⟩ := m
    rw [s.df, hds, List.append_nil]
    refine leaves_marks ms w' hnd hm fun w2 hq => ?_
    have s2 : Sim fn.ntmps ds' own β' T' h1 a' w2 := ⟨s.hp.quiet hq, s.sz, fun t u hu => (s.tm t u hu).quiet hq, s.df⟩
    have t2 := t.quiet hq
    obtain ⟨cvs, r1, r2⟩ := aload_res (P := P) s2 _ _ _ hrs hvs
    have hrun : (results fn a'.tmps).run P w2 = .ok (if hh : cvs.toArray.size = 1 then cvs.toArray[0] else .tuple cvs.toArray) w2 := by
      have hres : results fn a'.tmps = (do let vs ← fn.results.mapM (resOne a'.tmps); pure (if h : vs.size = 1 then vs[0] else .tuple vs)) := rfl
      rw [hres, Array.mapM_eq_mapM_toList]
      have : (Functor.map List.toArray (fn.results.toList.mapM (resOne a'.tmps)) : Sem (Array Value)) = (do let l ← fn.results.toList.mapM (resOne a'.tmps); pure l.toArray) := rfl
      rw [this]
      simp only [Sem.run_bind, r1, Result.andThen_ok, Sem.run_pure]
    have hval : VR w2.heap (LL own β' h1.H) β' (aret vs) (if hh : cvs.toArray.size = 1 then cvs.toArray[0] else .tuple cvs.toArray) := by
      have hl := r2.1
      match vs, cvs, r2, hl with
      | [], [], r2, _ => exact .tup [] _ rfl (fun i c v hc => by simp at hc)
      | [u], [cu], r2, _ => simpa [aret] using r2.head
      | u1 :: u2 :: us, c1 :: c2 :: cs, r2, _ =>
        simp only [aret]
        rw [dif_neg (by simp)]
        exact RL.tup (by simpa using r2)
    exact ⟨_, hrun, _, _, h1, β', rfl, hw, s2.hp, hval, t2⟩
  cases x with
  | exit j => exact hk.elim
  | nrm => exact fin hk
  | ret => exact fin hk
theorem its_nil {P : Program} {l : List It} (h : l = []) : ∀ i, i ∈ l → IterOk P i := fun i hi => by subst h; cases hi
end Go.Eng
end
