/- Operations of a region, in the order of the text and in every other order that is let; definitions, and the first of the two. -/
import Derived.Test.YtpnekpbehcbmkaaEngX
set_option linter.unusedSimpArgs false
set_option linter.unusedVariables false
set_option linter.unnecessarySimpa false
namespace Go.Eng

/-- A way to know what calls do. -/
def HOk (P : Program) (cl : Handler) : Prop :=
  ∀ f args h v h', cl f args h = some (v, h') →
    (∃ fn, P.funcs[f]? = some fn ∧ fn.body.isSome = true ∧ fn.name ≠ "runtime.NumGoroutine") ∧
    ∀ (own : Nat → Prop) (β : Bl) (w : World) (cargs : Array Value), SimH own β h.H h.nx w → RL w.heap (LL own β h.H) β args cargs.toList →
      Calls P f cargs w fun e w' => ∃ cv β', e = .returned cv ∧ SimH own β' h'.H h'.nx w' ∧ VR w'.heap (LL own β' h'.H) β' v cv ∧ Trans own β h w β' h' w'

def tput (T : Tm) (d : Option Nat) (v : AV) : Tm :=
  match d with
  | some d => T.put d v
  | none => T

def skipped : AV := .tup []

theorem cEq_call {P : Program} {neg : Bool} {t : TypeId} {a b f : Opd} {args : List Opd} (hc : cEq P neg t a b = some (.call f args)) : False := by
  unfold cEq at hc
  split at hc <;> first | (cases hc; done) | skip
  split at hc
  · cases hc
  · simp at hc

theorem cOp_call {P : Program} {op : Op} {f : Opd} {args : List Opd} (hc : cOp P op = some (.call f args)) : ∃ c fo, op = .call c ∧ c.callee = .value fo ∧ cOpd fo = some f ∧ cOpds c.args.toList = some args := by
  cases op <;> simp only [cOp] at hc <;> try (cases hc; done)
  case call c =>
    refine ⟨c, ?_⟩
    split at hc
    · rename_i fo hco
      simp only [bind, Option.bind_eq_some_iff, pure, Option.some.injEq] at hc
      obtain ⟨f', hf', as', has', he⟩ := hc
      cases he
      exact ⟨fo, rfl, hco, hf', has'⟩
    all_goals first | (cases hc; done) | skip
    all_goals (repeat' (split at hc)) <;> simp [bind, Option.bind_eq_some_iff] at hc
    all_goals (obtain ⟨_, _, _, _, hc⟩ := hc; split at hc <;> simp at hc)
  case binOp op t x y ty =>
    simp only [bind, Option.bind_eq_some_iff] at hc
    obtain ⟨_, _, _, _, hc⟩ := hc
    cases op <;> simp at hc
    · exact (cEq_call hc).elim
    · exact (cEq_call hc).elim
  all_goals (repeat' (split at hc)) <;> simp [bind, Option.bind_eq_some_iff] at hc
  case load t x =>
    obtain ⟨n, _, hc⟩ := hc
    cases n <;> simp [Option.bind_eq_some_iff] at hc

theorem cX_form {P : Program} {op : Op} {ao : AOp} (hc : cX P op = some ao) : ∃ k as, ao = .xo k as := by
  unfold cX at hc
  repeat' (split at hc)
  all_goals first | (cases hc; done) | (cases hc; exact ⟨_, _, rfl⟩)
theorem cOpX_call {P : Program} {op : Op} {f : Opd} {args : List Opd} (hc : cOpX P op = .call f args) : cOp P op = some (.call f args) := by
  unfold cOpX at hc
  split at hc
  · rename_i ao h1; subst hc; exact h1
  · split at hc
    · rename_i ao h1
      obtain ⟨k, as, rfl⟩ := cX_form h1
      cases hc
    · cases hc
theorem cOpX_alloc {P : Program} {op : Op} {ao : AOp} (hc : cOpX P op = ao) (hA : aA ao = true) : cOp P op = some ao := by
  unfold cOpX at hc
  split at hc
  · rename_i ao h1; subst hc; exact h1
  · split at hc
    · rename_i ao h1
      obtain ⟨k, as, rfl⟩ := cX_form h1
      subst hc
      simp [aA] at hA
    · subst hc
      simp [aA] at hA

section
variable {P : Program} {nt : Nat} {ds : List Deferred} {own : Nat → Prop} {β : Bl} {T : Tm} {h : AH} {a : Act} {w : World}

theorem op_wp {cl : Handler} (hcl : HOk P cl) (hs : Sim nt ds own β T h a w) {o : Oper} {ao : AOp} {v : AV} {h' : AH} (hc : cOpX P o.op = ao) (ha : aop cl T h ao = some (v, h'))
    {K : Act → World → Prop} {Q : Exit → Act → World → Prop}
    (hK : ∀ cv w' β', SimH own β' h'.H h'.nx w' → VR w'.heap (LL own β' h'.H) β' v cv → Trans own β h w β' h' w' → K (a.put o.dst cv) w') : o.wp P a w K Q := by
  by_cases hcall : ∃ f args, ao = .call f args
  · obtain ⟨f, args, rfl⟩ := hcall
    -- a call of a Go function
    have hop := cOp_call (cOpX_call hc)
    obtain ⟨c, fo, hop, hco, hf, has⟩ := hop
    simp only [aop, kMov, kPick, kNew, kBox, kBuild, kBuildSl, kLd1, kLdn, kSt, kNilchk, kArith, kEqs, kEqn, kEqf, kUn, kConvI, kFld, kFldA, kIdxA, kIdxArrA, kIdx, kIdxS, kSl, kSlS, kLen, kLenS, kConvS, kLenc, kApp, kCopy, kMnmx, kExt, kMkf, kMksl, kCall, ← afillT_eq] at ha
    have hfv := cOpd_ok hs hf
    cases hfe : f.ev T <;> rw [hfe] at ha hfv <;> (try simp only at ha) <;> try (cases ha; done)
    rename_i fn first captured
    cases fn <;> (try simp only at ha) <;> try (cases ha; done)
    rename_i g
    obtain ⟨⟨fn, hfn, hbody, hname⟩, hcalls⟩ := hcl g _ h v h' ha
    generalize hce : a.eval fo = cf at hfv
    cases hfv
    rename_i f2 c2 hl1 h1 hl2 h2
    have hR : RL w.heap (LL own β h.H) β (first ++ args.map (·.ev T) ++ captured) (f2 ++ c.args.map a.eval ++ c2).toList := by
      have r1 : RL w.heap (LL own β h.H) β first f2.toList := ⟨by simpa using hl1, fun i c v hc hv => h1 i c v hc (by simpa using hv)⟩
      have r2 : RL w.heap (LL own β h.H) β captured c2.toList := ⟨by simpa using hl2, fun i c v hc hv => h2 i c v hc (by simpa using hv)⟩
      have r3 := cOpds_ok hs has
      have := (r1.append r3).append r2
      simpa using this
    have hrun : (execOp a.eval o).run P w = .ok (.enter g (f2 ++ c.args.map a.eval ++ c2)) w := by
      have hb : fn.body.isNone = false := by cases hq : fn.body <;> simp_all
      simp only [execOp, hop, resolve, hco, hce, Deferred.ofValue, Sem.run_bind, Sem.run_pure, Result.andThen_ok, invoke, callFunc, run_program, hfn]
      simp [hname, hb]
    unfold Oper.wp
    rw [hrun]
    show Calls P g _ w _
    refine (hcalls own β w _ hs.hp hR).mono ?_
    rintro e w' ⟨cv, β', rfl, h3, h4, h5⟩
    exact hK cv w' β' h3 h4 h5
  · obtain ⟨cv, w', β', hrun, h1, h2, h3⟩ := op_okX cl hs hc ha (fun f args he => hcall ⟨f, args, he⟩)
    have hk := hK cv w' β' h1 h2 h3
    unfold Oper.wp
    rcases hrun with hrun | ⟨hrun, rfl⟩
    · rw [hrun]; exact hk
    · rw [hrun]; exact hk
end
end Go.Eng
namespace Go.Eng

/-- is the operation wanted? -/
def gd (T : Tm) : Option (Nat × Bool) → Option Bool
  | none => some true
  | some (t, b) => match T.get t with
    | some (.bool c) => some (c == b)
    | some (.tup []) => some false
    | _ => none

def aops (cl : Handler) : List AOpr → Tm → AH → Option (Tm × AH)
  | [], T, h => some (T, h)
  | o :: r, T, h =>
    match gd T o.guard with
    | some true => match aop cl T h o.op with
      | some (v, h') => aops cl r (tput T o.dst v) h'
      | none => none
    | some false => aops cl r (tput T o.dst skipped) h
    | none => none

def cDst (nt : Nat) : Option Nat → Bool
  | none => true
  | some d => Nat.blt d nt
def cOpr (P : Program) (nt : Nat) (ops : Array Oper) (o : Oper) : Option AOpr :=
    if cDst nt o.dst then
      match o.guard with
      | none => some ⟨o.dst, cOpX P o.op, none⟩
      | some (j, b) => match (ops[j]?).bind (·.dst) with
        | some t => some ⟨o.dst, cOpX P o.op, some (t, b)⟩
        | none => none
    else none
def cOprs (P : Program) (nt : Nat) (ops : Array Oper) : List Oper → Option (List AOpr)
  | [] => some []
  | o :: r => match cOpr P nt ops o, cOprs P nt ops r with
    | some x, some l => some (x :: l)
    | _, _ => none

section
variable {P : Program} {nt : Nat} {ds : List Deferred} {own : Nat → Prop} {β : Bl} {T : Tm} {h : AH} {a : Act} {w : World}

theorem Sim.put (hs : Sim nt ds own β T h a w) {w' : World} {β' : Bl} {h' : AH} {v : AV} {cv : Value} {d : Option Nat} (hd : cDst nt d = true) (h1 : SimH own β' h'.H h'.nx w') (h2 : VR w'.heap (LL own β' h'.H) β' v cv) (h3 : Trans own β h w β' h' w') :
    Sim nt ds own β' (tput T d v) h' (a.put d cv) w' := by
  have old : ∀ t u, T.get t = some u → VR w'.heap (LL own β' h'.H) β' u (a.tmps.getD t Go.undef) := fun t u hu => (hs.tm t u hu).later h3.later
  cases d with
  | none => exact ⟨h1, hs.sz, old, hs.df⟩
  | some d =>
    have hd' : d < nt := by simpa [cDst] using hd
    refine ⟨h1, by simp [Act.put, hs.sz], fun t u hu => ?_, hs.df⟩
    simp only [tput] at hu
    by_cases ht : t = d
    · subst ht
      rw [Tm.get_put_same] at hu; cases hu
      have : t < a.tmps.size := by rw [hs.sz]; exact hd'
      simpa [Act.put, this] using h2
    · rw [Tm.get_put_ne _ _ ht] at hu
      have := old t u hu
      simpa [Act.put, Array.getElem?_setIfInBounds_ne (Ne.symm ht)] using this

theorem gd_wanted (hs : Sim nt ds own β T h a w) {ops : Array Oper} {o : Oper} {ao : AOpr} (hc : cOpr P nt ops o = some ao) {b : Bool} (hg : gd T ao.guard = some b) : Region.wanted o (yielded ops a.tmps) = b := by
  unfold cOpr at hc
  split at hc
  case isFalse => cases hc
  split at hc
  · rename_i hgd
    cases hc
    simp [gd] at hg
    simp [Region.wanted, hgd, hg]
  · rename_i j want hgd
    split at hc
    · rename_i t ht
      cases hc
      simp only [gd] at hg
      have hy : yielded ops a.tmps j = match a.tmps[t]? with | some (.bool b) => some b | _ => none := by unfold yielded; rw [ht]; rfl
      cases hT : T.get t with
      | none => simp [hT] at hg
      | some u =>
        have hv := hs.tm t u hT
        cases u <;> simp [hT] at hg
        · rename_i c
          have : a.tmps[t]? = some (.bool c) := by
            generalize hz : a.tmps.getD t Go.undef = z at hv
            cases hv
            by_cases hlt : t < a.tmps.size
            · simp [hlt] at hz ⊢; exact hz
            · simp [hlt, Go.undef] at hz
          simp only [Region.wanted, hgd, hy, this]
          rw [← hg]
          cases c <;> cases want <;> rfl
        · rename_i vs
          cases vs with
          | cons x y => simp at hg
          | nil =>
            simp at hg
            obtain ⟨cs, hcs, hR⟩ := VR.tup_inv hv
            have hne : ∀ q, a.tmps[t]? ≠ some (.bool q) := by
              intro q hq
              have : a.tmps.getD t Go.undef = .bool q := by simp [hq]
              rw [this] at hcs; cases hcs
            have hyn : yielded ops a.tmps j = none := by
              rw [hy]
              split
              · rename_i q hq; exact absurd hq (hne q)
              · rfl
            simp only [Region.wanted, hgd, hyn]
            rw [hg]; rfl
    · cases hc

theorem cOpr_spec {ops : Array Oper} {o : Oper} {ao : AOpr} (hc : cOpr P nt ops o = some ao) : cOpX P o.op = ao.op ∧ cDst nt o.dst = true ∧ ao.dst = o.dst := by
  unfold cOpr at hc
  split at hc
  · rename_i hd
    split at hc
    · cases hc; exact ⟨rfl, hd, rfl⟩
    · split at hc
      · cases hc; exact ⟨rfl, hd, rfl⟩
      · cases hc
  · cases hc

/-- The operations in the order of the text. -/
theorem aops_wp {cl : Handler} (hcl : HOk P cl) {ops : Array Oper} {Q : Exit → Act → World → Prop} : ∀ (l : List Oper) (al : List AOpr) (T : Tm) (h : AH) (T' : Tm) (h' : AH) (a : Act) (w : World) (β : Bl), cOprs P nt ops l = some al → aops cl al T h = some (T', h') → Sim nt ds own β T h a w →
    (∀ β' a' w', Sim nt ds own β' T' h' a' w' → Trans own β h w β' h' w' → Q .normal a' w') → wpList P ops Q l a w
  | [], al, T, h, T', h', a, w, β, hc, ha, hs, hQ => by
    simp [cOprs] at hc; subst hc
    simp [aops] at ha; obtain ⟨rfl, rfl⟩ := ha
    exact hQ β a w hs (.refl _ _ _ _)
  | o :: l, al, T, h, T', h', a, w, β, hc, ha, hs, hQ => by
    unfold cOprs at hc
    split at hc
    · rename_i ao al' h1 h2
      cases hc
      obtain ⟨q1, q2, q3⟩ := cOpr_spec h1
      unfold aops at ha
      cases hg : gd T ao.guard with
      | none => simp [hg] at ha
      | some b =>
        have hw := gd_wanted hs h1 hg
        unfold wpList
        rw [hw]
        cases b with
        | true =>
          simp only [hg] at ha
          cases hop : aop cl T h ao.op with
          | none => simp [hop] at ha
          | some r =>
            obtain ⟨v, h2'⟩ := r
            simp only [hop] at ha
            rw [if_pos rfl]
            refine .inl (op_wp hcl hs q1 hop fun cv w' β' g1 g2 g3 => ?_)
            rw [q3] at ha
            refine aops_wp hcl l al' _ h2' T' h' _ w' β' h2 ha (hs.put q2 g1 g2 g3) fun β'' a'' w'' k1 k2 => hQ β'' a'' w'' k1 (g3.trans k2)
        | false =>
          simp only [hg] at ha
          rw [if_neg (by simp)]
          rw [q3] at ha
          refine aops_wp hcl l al' _ h T' h' _ w β h2 ha (hs.put q2 hs.hp (?_ : VR _ _ _ skipped Go.undef) (.refl _ _ _ _)) fun β'' a'' w'' k1 k2 => hQ β'' a'' w'' k1 k2
          exact .tup [] #[] rfl (fun i c v hc => by simp at hc)
    · cases hc
end
end Go.Eng
