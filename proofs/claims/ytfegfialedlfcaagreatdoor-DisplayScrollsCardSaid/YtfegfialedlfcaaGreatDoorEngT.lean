/- Code and functions: what the abstract interpreter says of them holds. The interpreter in continuation style, over code with live registers noted at joins and loops: definitions. Functions in continuation style; tables of them; handlers. Ranges over functions: what their records do to the world; marks among the deferred calls; the contract of an iterator over a slice from behind. -/
import Derived.Test.YtfegfialedlfcaaGreatDoorEngR
import Derived.RangeFuncNested
import Derived.RangeFuncCalls
import Derived.TacticsIn
import Derived.OrdersIn
set_option linter.unusedSimpArgs false
set_option linter.unusedVariables false
set_option linter.unnecessarySimpa false
noncomputable section
namespace Go.Eng
def AX.conc : AX → Exit
  | .nrm => .normal
  | .exit id => .exit id
  | .ret => .ret

section
variable {P : Program} {nt : Nat} {ds : List Deferred} {own : Nat → Prop}
theorem initT_get : ∀ (args : List AV) (i : Nat) (T : Tm) (t : Nat), (initT args i T).get t = if i ≤ t ∧ t < i + args.length then args[t - i]? else T.get t
  | [], i, T, t => by simp [initT]; intro h1 h2; omega
  | v :: args, i, T, t => by
    simp only [initT]
    rw [initT_get args (i + 1) (T.put i v) t]
    by_cases h1 : t = i
    · subst h1
      rw [if_neg (by omega), Tm.get_put_same, if_pos (by simp)]
      simp
    · by_cases h2 : i + 1 ≤ t ∧ t < i + 1 + args.length
      · rw [if_pos h2, if_pos (by simp; omega)]
        rw [show t - i = (t - (i + 1)) + 1 by omega]
        simp
      · rw [if_neg h2, Tm.get_put_ne _ _ h1, if_neg (by simp; omega)]

/-- one result -/
def resOne (tmps : Array Value) : ResultVar → Sem Value
  | .tmp t => pure (tmps.getD t Go.undef)
  | .cell x t => do loadVar t (← asAddr (tmps.getD x Go.undef))

theorem aload_res {β : Bl} {T : Tm} {h : AH} {a : Act} {w : World} (hs : Sim nt ds own β T h a w) : ∀ (rs : List ResultVar) (ars : List ARes) (vs : List AV), cRes P rs = some ars → ares T h ars = some vs →
    ∃ cvs : List Value, ((rs.mapM (resOne a.tmps)).run P w = .ok cvs w) ∧ RL w.heap (LL own β h.H) β vs cvs
  | [], ars, vs, hc, ha => by
    simp [cRes] at hc; subst hc
    simp [ares] at ha; subst ha
    exact ⟨[], by simp, RL.nil⟩
  | .tmp t :: rs, ars, vs, hc, ha => by
    simp only [cRes] at hc
    split at hc
    · rename_i l hl
      cases hc
      simp only [ares] at ha
      split at ha
      · rename_i l2 hl2
        cases ha
        obtain ⟨cvs, h1, h2⟩ := aload_res hs rs l l2 hl hl2
        refine ⟨a.tmps.getD t Go.undef :: cvs, ?_, RL.cons ?_ h2⟩
        · rw [List.mapM_cons]
          simp only [resOne, Sem.run_bind, Sem.run_pure, Result.andThen_ok, h1]
        · cases hg : T.get t with
          | none => exact .undef _
          | some v => exact hs.tm t v hg
      · cases ha
    · cases hc
  | .cell t ty :: rs, ars, vs, hc, ha => by
    simp only [cRes] at hc
    split at hc
    · rename_i n l hn hl
      cases hc
      simp only [ares] at ha
      split at ha
      · rename_i v l2 hv hl2
        cases ha
        obtain ⟨cvs, h1, h2⟩ := aload_res hs rs l l2 hl hl2
        have hR : VR w.heap (LL own β h.H) β ((T.get t).getD .undef) (a.tmps.getD t Go.undef) := by
          cases hg : T.get t with
          | none => exact .undef _
          | some v => exact hs.tm t v hg
        have hld : ∃ cv, (do loadVar ty (← asAddr (a.tmps.getD t Go.undef)) : Sem Value).run P w = .ok cv w ∧ VR w.heap (LL own β h.H) β v cv := by
          cases n with
          | none =>
            obtain ⟨ad, u, e1, e2, e3⟩ := aload1_ok hs.hp hv hR
            obtain ⟨cv, e4, e5⟩ := load1_ok (P := P) hs.hp hn hv hR
            refine ⟨cv, ?_, e5⟩
            rw [e1] at e4 ⊢
            simpa only [Instr.loadAt, Instr.sureAddr, asAddr, Sem.run_bind, Sem.run_pure, Result.andThen_ok] using e4
          | some n =>
            simp only [Option.map_eq_some_iff] at hv
            obtain ⟨cs, hv, rfl⟩ := hv
            obtain ⟨ad, u, e1, _⟩ := aloadn_ok hs.hp hv hR
            obtain ⟨cv, e4, e5⟩ := loadn_ok (P := P) hs.hp hn hv hR
            refine ⟨cv, ?_, e5⟩
            rw [e1] at e4 ⊢
            simpa only [Instr.loadAt, Instr.sureAddr, asAddr, Sem.run_bind, Sem.run_pure, Result.andThen_ok] using e4
        obtain ⟨cv, e4, e5⟩ := hld
        refine ⟨cv :: cvs, ?_, RL.cons e5 h2⟩
        have e4' : (resOne a.tmps (.cell t ty)).run P w = .ok cv w := e4
        rw [List.mapM_cons]
        simp only [Sem.run_bind, e4', Result.andThen_ok, h1, Sem.run_pure]
      · cases ha
    · cases hc

theorem cFn_body {fn : Func} {af : AFn} (h : cFn P fn = some af) : fn.body.isSome = true := by
  unfold cFn at h
  split at h
  · rename_i c hc; rw [hc]; rfl
  · cases h

end
end Go.Eng
end
noncomputable section
namespace Go.Eng
def nthD (vals : List AV) (i : Nat) : AV := (vals[i]?).getD .undef
def mkTa (vals : List AV) : List Nat → Nat → Tm → Tm
  | [], _, T => T
  | r :: rs, i, T => mkTa vals rs (i + 1) (T.put r (nthD vals i))
def mkT (live : List Nat) (vals : List AV) : Tm := mkTa vals live 0 .leaf
def rg (T : Tm) (t : Nat) : AV := (T.get t).getD .undef
def getL (live : List Nat) (T : Tm) : List AV := live.map (rg T)

/-- an iterator over a slice: its function; from behind or from the start; none: elements of one cell, some n: aggregates of n cells -/
structure It where
  f : Nat
  back : Bool
  en : Option Nat
def It.z (i : It) : Nat := i.en.getD 1
def It.pos (i : It) (len k : Nat) : Nat := cond i.back (len - 1 - k) k
theorem It.pos_lt (i : It) {len k : Nat} (h : k < len) : i.pos len k < len := by
  unfold It.pos
  cases i.back <;> simp <;> omega
inductive SCode where
  | skip
  | reg (ops : List AOpr)
  | draw (ops : List (AOpr × Nat))
  | seq (a b : SCode)
  | cond (c : Opd) (t e : SCode)
  | block (id : Nat) (b : SCode)
  | loop (li lo : List Nat) (b : SCode)
  | join (lo : List Nat) (a : SCode)
  | joinN (lo : List Nat) (a : SCode)
  | regS (ops : List (AOpr × Option Nat))
  | drawS (ops : List ((AOpr × Nat) × Option Nat))
  | exit (id : Nat)
  | ret
  | stuck
  | rng (its : List It) (g : Opd) (ps : List Nat) (a b : SCode)
  | frz (lo : List Nat) (a : SCode)
  | loopT (b : SCode)
  deriving Inhabited

def SCode.erase : SCode → ACode
  | .skip => .skip
  | .reg ops => .reg ops
  | .draw ops => .draw ops
  | .seq a b => .seq a.erase b.erase
  | .cond c t e => .cond c t.erase e.erase
  | .block id b => .block id b.erase
  | .loop _ _ b => .loop b.erase
  | .join _ a => a.erase
  | .joinN _ a => a.erase
  | .regS ops => .reg (ops.map (·.1))
  | .drawS ops => .draw (ops.map (·.1))
  | .exit id => .exit id
  | .ret => .ret
  | .stuck => .stuck
  | .rng _ g ps a b => .rng g ps a.erase b.erase
  | .frz _ a => a.erase
  | .loopT b => .loop b.erase

section
variable {R : Type}
def stp (g : Option Bool) (r : Option (AV × AH)) (h : AH) (k : AV → AH → Option R) : Option R :=
  match g with
  | some true => match r with
    | some (v, h') => k v h'
    | none => none
  | some false => k skipped h
  | none => none
def sjn {α : Type} (r : Option (AX × α × AH)) (k : AX → α → AH → Option R) : Option R :=
  match r with
  | some (x, v, h) => k x v h
  | none => none
end
def siter (f : List AV → AH → Option (AX × (List AV × List AV) × AH)) : Nat → List AV → AH → Option (AX × List AV × AH)
  | 0, _, _ => none
  | n + 1, vals, h => sjn (f vals h) fun x vs h' =>
    match x with
    | .nrm => siter f n vs.1 h'
    | .exit j => some (.exit j, vs.2, h')
    | .ret => some (.ret, vs.2, h')

theorem mkTa_get (vals : List AV) : ∀ (live : List Nat) (i : Nat) (T : Tm) (t : Nat) (u : AV), (mkTa vals live i T).get t = some u → (∃ j, live[j]? = some t ∧ u = nthD vals (i + j)) ∨ T.get t = some u
  | [], i, T, t, u, h => .inr h
  | r :: rs, i, T, t, u, h => by
    simp only [mkTa] at h
    rcases mkTa_get vals rs (i + 1) _ t u h with ⟨j, h1, h2⟩ | h1
    · exact .inl ⟨j + 1, by simpa using h1, by rw [h2]; congr 1; omega⟩
    · rw [Tm.get_put] at h1
      split at h1
      · rename_i ht; subst ht; cases h1; exact .inl ⟨0, by simp, rfl⟩
      · exact .inr h1

section
variable {P : Program} {nt : Nat} {ds : List Deferred} {own : Nat → Prop}
/-- Registers are forgotten. -/
theorem Sim.keep {β : Bl} {T : Tm} {h : AH} {a : Act} {w : World} (hs : Sim nt ds own β T h a w) (live : List Nat) : Sim nt ds own β (mkT live (getL live T)) h a w := by
  refine ⟨hs.hp, hs.sz, fun t u hu => ?_, hs.df⟩
  rcases mkTa_get _ live 0 .leaf t u hu with ⟨j, h1, h2⟩ | h1
  · have : u = rg T t := by
      rw [h2]; simp [nthD, getL, h1]
    subst this
    unfold rg
    cases hg : T.get t with
    | none => exact .undef _
    | some v => exact hs.tm t v hg
  · simp [Tm.get_leaf] at h1

theorem cCode_seq {c : Code} {x y : ACode} (hc : cCode P nt c = some (.seq x y)) : ∃ a b, c = .seq a b ∧ cCode P nt a = some x ∧ cCode P nt b = some y := by
  cases c <;> simp only [cCode] at hc <;> (try (cases hc; done))
  case seq a b =>
    split at hc
    · rename_i h1 h2; cases hc; exact ⟨a, b, rfl, h1, h2⟩
    · cases hc
  all_goals (repeat' (split at hc)) <;> cases hc
theorem cCode_cond {c : Code} {o : Opd} {x y : ACode} (hc : cCode P nt c = some (.cond o x y)) : ∃ co a b, c = .cond co a b ∧ cOpd co = some o ∧ cCode P nt a = some x ∧ cCode P nt b = some y := by
  cases c <;> simp only [cCode] at hc <;> (try (cases hc; done))
  case cond co a b =>
    split at hc
    · rename_i h0 h1 h2; cases hc; exact ⟨co, a, b, rfl, h0, h1, h2⟩
    · cases hc
  all_goals (repeat' (split at hc)) <;> cases hc
theorem cCode_block {c : Code} {id : Nat} {x : ACode} (hc : cCode P nt c = some (.block id x)) : ∃ a, c = .block id a ∧ cCode P nt a = some x := by
  cases c <;> simp only [cCode] at hc <;> (try (cases hc; done))
  case block id a =>
    split at hc
    · rename_i h1; cases hc; exact ⟨a, rfl, h1⟩
    · cases hc
  all_goals (repeat' (split at hc)) <;> cases hc
theorem cCode_loop {c : Code} {x : ACode} (hc : cCode P nt c = some (.loop x)) : ∃ a, c = .loop a ∧ cCode P nt a = some x := by
  cases c <;> simp only [cCode] at hc <;> (try (cases hc; done))
  case loop a =>
    split at hc
    · rename_i h1; cases hc; exact ⟨a, rfl, h1⟩
    · cases hc
  all_goals (repeat' (split at hc)) <;> cases hc

end
end Go.Eng
end
noncomputable section
namespace Go.Eng
structure SFn where
  nt : Nat
  res : List ARes
  body : SCode
def SFn.erase (f : SFn) : AFn := ⟨f.nt, f.res, f.body.erase⟩

section
variable {P : Program}
end
end Go.Eng
end
noncomputable section
namespace Go.Eng
open Go.RowKit
def idle : Obj → Bool
  | .loop _ => true
  | .deferred _ => true
  | _ => false

/-- only records of loops and blocks of deferred calls have turned, and none below n0 -/
structure Quiet (n0 : Nat) (w w' : World) : Prop where
  size : w.heap.size ≤ w'.heap.size
  same : ∀ (b : Nat) (x : Obj), w.heap[b]? = some x → idle x = false → w'.heap[b]? = some x
  low : ∀ (b : Nat), b < n0 → w'.heap[b]? = w.heap[b]?
  os : w'.os = w.os
  tape : w'.tape = w.tape
  output : w'.output = w.output

theorem Quiet.refl (n0 : Nat) (w : World) : Quiet n0 w w := ⟨Nat.le_refl _, fun _ _ h _ => h, fun _ _ => rfl, rfl, rfl, rfl⟩
theorem Quiet.trans {n0 : Nat} {w1 w2 w3 : World} (h : Quiet n0 w1 w2) (k : Quiet n0 w2 w3) : Quiet n0 w1 w3 :=
  ⟨Nat.le_trans h.size k.size, fun b x hx hi => k.same b x (h.same b x hx hi) hi, fun b hb => (k.low b hb).trans (h.low b hb), k.os.trans h.os, k.tape.trans h.tape, k.output.trans h.output⟩
theorem Quiet.putObj {n0 l : Nat} {w : World} {o : Obj} (o' : Obj) (h : w.heap[l]? = some o) (hi : idle o = true) (hl : n0 ≤ l) : Quiet n0 w (w.putObj l o') := by
  refine ⟨by simp, fun b x hx hx2 => ?_, fun b hb => World.putObj_heap_other (by omega), rfl, rfl, rfl⟩
  have : b ≠ l := fun e => by subst e; rw [h] at hx; cases hx; rw [hi] at hx2; cases hx2
  rw [World.putObj_heap_other this]; exact hx
theorem Quiet.alloc {n0 : Nat} {w : World} (o : Obj) (h : n0 ≤ w.heap.size) : Quiet n0 w (w.alloc o) := by
  refine ⟨by simp, fun b x hx _ => (Below.heap_alloc w o b (lt_of_get hx)).trans hx, fun b hb => Below.heap_alloc w o b (by omega), rfl, rfl, rfl⟩

theorem VR.quiet {n0 : Nat} {w w' : World} (hq : Quiet n0 w w') {L : Nat → Prop} {β : Bl} {a : AV} {v : Value} (h : VR w.heap L β a v) : VR w'.heap L β a v := by
  induction h with
  | undef v => exact .undef v
  | bool b => exact .bool b
  | int k n => exact .int k n
  | str s => exact .str s
  | agg cs vs hlen h ih => exact .agg cs vs hlen ih
  | tup cs vs hlen h ih => exact .tup cs vs hlen ih
  | ptr id off b base h => exact .ptr id off b base h
  | nilptr => exact .nilptr
  | pptr cs b o cur e fz hb hL hs h ih => exact .pptr cs b o cur e fz (hq.same _ _ hb rfl) hL hs ih
  | gptr g off => exact .gptr g off
  | nilsl => exact .nilsl
  | esl a => exact .esl a
  | psl0 a cap => exact .psl0 a cap
  | psl xs z b o cap cur e fz hb hL hs hz hc h ih => exact .psl xs z b o cap cur e fz (hq.same _ _ hb rfl) hL hs hz hc ih
  | rsl id off len z b base cap cur e fz h hb hc hm hs => exact .rsl id off len z b base cap cur e fz h (hq.same _ _ hb rfl) hc hm hs
  | rsl0 id off z b base o h => exact .rsl0 id off z b base o h
  | mapv id b base h => exact .mapv id b base h
  | nilmap => exact .nilmap
  | func fn f1 c1 f2 c2 hl1 hl2 h1 h2 ih1 ih2 => exact .func fn f1 c1 f2 c2 hl1 hl2 ih1 ih2
  | nilfunc => exact .nilfunc
  | nilif => exact .nilif
  | iface t a v h ih => exact .iface t a v ih
  | sint k m i c lo hi b base h h1 h2 => exact .sint k m i c lo hi b base h h1 h2
  | scol k m r i j l lo hi b1 n1 b2 n2 b3 h1 h2 h3 q1 q2 q3 q4 => exact .scol k m r i j l lo hi b1 n1 b2 n2 b3 h1 h2 h3 q1 q2 q3 q4
  | oint k rs n h => exact .oint k rs n h
  | lin k l c lo hi f h0 h1 h2 => exact .lin k l c lo hi f h0 h1 h2
  | gsl g off len cap hc => exact .gsl g off len cap hc

theorem SimH.quiet {n0 : Nat} {w w' : World} (hq : Quiet n0 w w') {own : Nat → Prop} {β : Bl} {H : Hp} {nx : Nat} (hs : SimH own β H nx w) : SimH own β H nx w' := by
  refine ⟨hs.fresh, fun id b base h => Nat.lt_of_lt_of_le (hs.lt id b base h) hq.size, fun b h => Nat.lt_of_lt_of_le (hs.ownlt b h) hq.size, fun id o h => ?_, hs.inj⟩
  obtain ⟨b, base, h1, h2, h3⟩ := hs.obj id o h
  refine ⟨b, base, h1, h2, ?_⟩
  cases o with
  | cells cs =>
    obtain ⟨cur, e, q1, q2, q3⟩ := h3
    exact ⟨cur, e, hq.same _ _ q1 rfl, q2, fun i c v k1 k2 => (q3 i c v k1 k2).quiet hq⟩
  | map kvs =>
    obtain ⟨q0, es, q1, q2, q3⟩ := h3
    exact ⟨q0, es, hq.same _ _ q1 rfl, q2, fun i kv e k1 k2 => ⟨(q3 i kv e k1 k2).1.quiet hq, (q3 i kv e k1 k2).2.1.quiet hq, (q3 i kv e k1 k2).2.2⟩⟩
  | siter s pos => exact ⟨h3.1, hq.same _ _ h3.2 rfl⟩
  | typ t cs =>
    obtain ⟨q0, cur, q1, q2, q3⟩ := h3
    exact ⟨q0, cur, hq.same _ _ q1 rfl, q2, fun i c v k1 k2 => (q3 i c v k1 k2).quiet hq⟩
  | glob g cs =>
    obtain ⟨q0, q00, cur, e, fz, q1, q2, q3⟩ := h3
    exact ⟨q0, q00, cur, e, fz, hq.same _ _ q1 rfl, q2, fun i c v k1 k2 => (q3 i c v k1 k2).quiet hq⟩

theorem Trans.quiet {own : Nat → Prop} {β β' : Bl} {h h' : AH} {w w1 w2 : World} (ht : Trans own β h w β' h' w1) (hq : Quiet w.heap.size w1 w2) : Trans own β h w β' h' w2 := by
  refine ⟨ht.ext, ht.low, ht.up, Nat.le_trans ht.size hq.size, fun b hb hl => (hq.low b hb).trans (ht.keep b hb hl), ht.live, fun b cur e fz hb => ?_, hq.os.trans ht.os, hq.tape.trans ht.tape, hq.output.trans ht.output⟩
  obtain ⟨cur', fz', h1, h2, h3⟩ := ht.shape b cur e fz hb
  exact ⟨cur', fz', hq.same _ _ h1 rfl, h2, h3⟩

/-- a block that rests is no live object -/
theorem SimH.idle_dead {own : Nat → Prop} {β : Bl} {H : Hp} {nx : Nat} {w : World} (hs : SimH own β H nx w) {b : Nat} {o : Obj} (hb : w.heap[b]? = some o) (hi : idle o = true) : ¬ Eng.live β H b := by
  rintro ⟨id, ob, base, h1, h2⟩
  obtain ⟨b', base', h3, _, h4⟩ := hs.obj id ob h1
  rw [h2] at h3; cases h3
  cases ob with
  | cells cs => obtain ⟨cur, e, q1, _⟩ := h4; rw [hb] at q1; cases q1; cases hi
  | map kvs => obtain ⟨_, es, q1, _⟩ := h4; rw [hb] at q1; cases q1; cases hi
  | siter s pos => have q1 := h4.2; rw [hb] at q1; cases q1; cases hi
  | typ t cs => obtain ⟨_, cur, q1, _⟩ := h4; rw [hb] at q1; cases q1; cases hi
  | glob g cs => obtain ⟨_, _, cur, e, fz, q1, _⟩ := h4; rw [hb] at q1; cases q1; cases hi
theorem Trans.idle {own : Nat → Prop} {β β' : Bl} {h h' : AH} {w w' : World} (ht : Trans own β h w β' h' w') (hs : SimH own β h.H h.nx w) {b : Nat} {o : Obj} (hb : w.heap[b]? = some o) (hi : idle o = true) : w'.heap[b]? = some o :=
  (ht.keep b (lt_of_get hb) (hs.idle_dead hb hi)).trans hb

/-- the marks that loops over functions have left among the deferred calls -/
def mk (r : Nat) : Deferred := { target := .collected r, args := #[] }
def Marks (n0 : Nat) (w : World) (ds ds' : List Deferred) : Prop :=
  ∃ ms : List Nat, ds' = ms.map mk ++ ds ∧ ms.Nodup ∧ ∀ r ∈ ms, n0 ≤ r ∧ w.heap[r]? = some (.deferred (some []))
theorem Marks.refl (n0 : Nat) (w : World) (ds : List Deferred) : Marks n0 w ds ds := ⟨[], rfl, List.nodup_nil, fun r hr => by simp at hr⟩
theorem Marks.trans {n0 : Nat} {w1 w2 : World} {ds ds1 ds2 : List Deferred} {own : Nat → Prop} {β1 β2 : Bl} {h1 h2 : AH} (m1 : Marks n0 w1 ds ds1) (hn : n0 ≤ w1.heap.size) (hs : SimH own β1 h1.H h1.nx w1) (ht : Trans own β1 h1 w1 β2 h2 w2)
    (m2 : Marks w1.heap.size w2 ds1 ds2) : Marks n0 w2 ds ds2 := by
  obtain ⟨l1, rfl, d1, q1⟩ := m1
  obtain ⟨l2, rfl, d2, q2⟩ := m2
  refine ⟨l2 ++ l1, by simp, List.nodup_append.2 ⟨d2, d1, ?_⟩, fun r hr => ?_⟩
  · intro a ha b hb e
    subst e
    have h3 := (q2 a ha).1
    have h4 := lt_of_get (q1 a hb).2
    omega
  · rcases List.mem_append.1 hr with h | h
    · exact ⟨Nat.le_trans hn (q2 r h).1, (q2 r h).2⟩
    · exact ⟨(q1 r h).1, ht.idle hs (q1 r h).2 rfl⟩

/-- an element of a slice -/
def ElemAt (W : World) (b o : Nat) : Option Nat → Value → Prop
  | none, v => W.cell? ⟨b, o, none⟩ = some v
  | some n, v => ∃ cs : Array Value, v = .agg cs ∧ cs.size = n ∧ (∀ (j : Nat) (c : Value), cs[j]? = some c → W.cell? ⟨b, o + j, none⟩ = some c) ∧ ∀ (j : Nat) (c : Value), cs[j]? = some c → c.oneCell' = true
theorem ElemAt.uniq {W : World} {b o : Nat} : ∀ {en : Option Nat} {v u : Value}, ElemAt W b o en v → ElemAt W b o en u → v = u
  | none, v, u, h, k => by
    have : some v = some u := h.symm.trans k
    cases this; rfl
  | some n, v, u, ⟨cs, h1, h2, h3, _⟩, ⟨ds, k1, k2, k3, _⟩ => by
    subst h1; subst k1
    congr 1
    apply Array.ext (h2.trans k2.symm)
    intro j hj hk
    have a := h3 j cs[j] (by simp [hj])
    have b := k3 j ds[j] (by simp [hk])
    exact Option.some.inj (a.symm.trans b)
/-- its box holds the slice; it calls yield with the places and elements -/
def IterOk (P : Program) (it : It) : Prop :=
  (∃ fn, P.funcs[it.f]? = some fn ∧ fn.body.isSome = true ∧ fn.name ≠ "runtime.NumGoroutine") ∧
  ∀ (l : Nat) (bx : Addr) (len : Nat) (J : Nat → World → Prop) (Jx : World → Prop) (W : World), len ≤ maxLen →
    (∀ i W, J i W → (len = 0 ∧ ∃ a cap, W.cell? bx = some (.slice a 0 cap)) ∨ ∃ b o cap, W.cell? bx = some (.slice (some ⟨b, o, none⟩) len cap) ∧ ∀ k, k < len → ∃ v, ElemAt W b (o + k * it.z) it.en v) →
    (∀ b o cap, W.cell? bx = some (.slice (some ⟨b, o, none⟩) len cap) → ∀ i W', J i W' → ∀ k, k < len → ∃ v, ElemAt W' b (o + k * it.z) it.en v) →
    (∀ i W' b o cap v, i < len → J i W' → (W'.cell? bx = some (.slice (some ⟨b, o, none⟩) len cap) ∨ W.cell? bx = some (.slice (some ⟨b, o, none⟩) len cap)) → ElemAt W' b (o + it.pos len i * it.z) it.en v →
      YieldAt Fence.wide 0 P l #[.int .i64 ((it.pos len i : Nat) : Int), v] W' fun e W2 => (e = .returned (.bool true) ∧ J (i + 1) W2) ∨ (e = .returned (.bool false) ∧ Jx W2)) →
    (∀ i W W', J i W → Quiet W.heap.size W W' → J i W') → J 0 W → Calls P it.f #[.func (.yield l) #[] #[], .pointer (some bx)] W fun e W' => (∃ v, e = .returned v) ∧ (J len W' ∨ Jx W')
end Go.Eng
end
