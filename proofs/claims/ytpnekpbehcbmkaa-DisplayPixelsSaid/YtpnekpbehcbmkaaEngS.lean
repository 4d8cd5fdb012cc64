/- Code and functions: what the abstract interpreter says of them holds. -/
import Derived.Test.YtpnekpbehcbmkaaEngR
set_option linter.unusedSimpArgs false
set_option linter.unusedVariables false
set_option linter.unnecessarySimpa false
namespace Go.Eng

def AX.conc : AX → Exit
  | .nrm => .normal
  | .exit id => .exit id
  | .ret => .ret

section
variable {P : Program} {nt : Nat} {ds : List Deferred} {own : Nat → Prop}

theorem code_wp {cl : Handler} (hcl : HOk P cl) {N : Nat} : ∀ (c : Code) (ac : ACode) (β : Bl) (T : Tm) (h : AH) (a : Act) (w : World) (x : AX) (T' : Tm) (h' : AH), cCode P nt c = some ac → aexec cl N ac T h = some (x, T', h') → Sim nt ds own β T h a w →
    ∀ Q : Exit → Act → World → Prop, (∀ β' a' w', Sim nt ds own β' T' h' a' w' → Trans own β h w β' h' w' → Q x.conc a' w') → c.wp P Q a w := by
  intro c
  induction c with
  | skip =>
    intro ac β T h a w x T' h' hc ha hs Q hQ
    simp only [cCode] at hc; cases hc
    simp only [aexec] at ha; cases ha
    exact wp_skip (hQ β a w hs (.refl _ _ _ _))
  | label l =>
    intro ac β T h a w x T' h' hc ha hs Q hQ
    simp only [cCode] at hc; cases hc
    simp only [aexec] at ha; cases ha
    exact wp_label (hQ β a w hs (.refl _ _ _ _))
  | region rid ops draw =>
    intro ac β T h a w x T' h' hc ha hs Q hQ
    simp only [cCode] at hc
    split at hc
    · rename_i l hl
      cases draw with
      | true =>
        simp only [if_true] at hc
        split at hc
        · rename_i hm
          cases hc
          simp only [Bool.and_eq_true] at hm
          simp only [aexec] at ha
          split at ha
          · rename_i T1 h1 had
            cases ha
            exact draw_wp hcl hm.1 hm.2 hl had hs hQ
          · cases ha
        · cases hc
      | false =>
        simp only [Bool.false_eq_true, if_false] at hc
        cases hc
        simp only [aexec] at ha
        split at ha
        · rename_i T1 h1 had
          cases ha
          exact wp_region_list (aops_wp hcl _ _ _ _ _ _ _ _ _ hl had hs hQ)
        · cases ha
    · cases hc
  | seq c1 c2 ih1 ih2 =>
    intro ac β T h a w x T' h' hc ha hs Q hQ
    simp only [cCode] at hc
    split at hc
    · rename_i x1 x2 h1 h2
      cases hc
      simp only [aexec] at ha
      refine wp_seq ?_
      cases hx : aexec cl N x1 T h with
      | none => simp [hx] at ha
      | some r =>
        obtain ⟨y, T1, h1'⟩ := r
        simp only [hx] at ha
        cases y with
        | nrm =>
          simp only at ha
          refine ih1 x1 β T h a w .nrm T1 h1' h1 hx hs _ fun β1 a1 w1 s1 t1 => ?_
          exact ih2 x2 β1 T1 h1' a1 w1 x T' h' h2 ha s1 Q fun β2 a2 w2 s2 t2 => hQ β2 a2 w2 s2 (t1.trans t2)
        | exit j =>
          simp only at ha; cases ha
          exact ih1 x1 β T h a w _ _ _ h1 hx hs _ fun β1 a1 w1 s1 t1 => hQ β1 a1 w1 s1 t1
        | ret =>
          simp only at ha; cases ha
          exact ih1 x1 β T h a w _ _ _ h1 hx hs _ fun β1 a1 w1 s1 t1 => hQ β1 a1 w1 s1 t1
    · cases hc
  | cond co c1 c2 ih1 ih2 =>
    intro ac β T h a w x T' h' hc ha hs Q hQ
    simp only [cCode] at hc
    split at hc
    · rename_i y x1 x2 hy h1 h2
      cases hc
      simp only [aexec] at ha
      have hv := cOpd_ok hs hy
      cases hyv : y.ev T <;> rw [hyv] at ha hv <;> (try (simp only at ha; cases ha; done))
      rename_i bb
      generalize hce : a.eval co = cv at hv
      cases hv
      cases bb with
      | true => exact wp_cond_true hce (ih1 x1 β T h a w x T' h' h1 (by simpa only using ha) hs Q hQ)
      | false => exact wp_cond_false hce (ih2 x2 β T h a w x T' h' h2 (by simpa only using ha) hs Q hQ)
    · cases hc
  | block id c1 ih =>
    intro ac β T h a w x T' h' hc ha hs Q hQ
    simp only [cCode] at hc
    split at hc
    · rename_i x1 h1
      cases hc
      simp only [aexec] at ha
      refine wp_block ?_
      cases hx : aexec cl N x1 T h with
      | none => simp [hx] at ha
      | some r =>
        obtain ⟨y, T1, h1'⟩ := r
        simp only [hx] at ha
        cases y with
        | nrm =>
          simp only at ha; cases ha
          exact ih x1 β T h a w _ _ _ h1 hx hs _ fun β1 a1 w1 s1 t1 => hQ β1 a1 w1 s1 t1
        | ret =>
          simp only at ha; cases ha
          exact ih x1 β T h a w _ _ _ h1 hx hs _ fun β1 a1 w1 s1 t1 => hQ β1 a1 w1 s1 t1
        | exit j =>
          simp only at ha
          refine ih x1 β T h a w _ _ _ h1 hx hs _ fun β1 a1 w1 s1 t1 => ?_
          show (if j = id then Q .normal a1 w1 else Q (.exit j) a1 w1)
          split at ha
          · rename_i hj; cases ha; rw [if_pos hj]; exact hQ β1 a1 w1 s1 t1
          · rename_i hj; cases ha; rw [if_neg hj]; exact hQ β1 a1 w1 s1 t1
    · cases hc
  | loop c1 ih =>
    intro ac β T h a w x T' h' hc ha hs Q hQ
    simp only [cCode] at hc
    split at hc
    · rename_i x1 h1
      cases hc
      simp only [aexec] at ha
      refine wp_loop_rounds N ?_
      have key : ∀ (n : Nat) (β : Bl) (T : Tm) (h : AH) (a : Act) (w : World), aiter (aexec cl N x1) n T h = some (x, T', h') → Sim nt ds own β T h a w → (∀ β' a' w', Sim nt ds own β' T' h' a' w' → Trans own β h w β' h' w' → Q x.conc a' w') → Code.rounds P c1 Q n a w := by
        intro n
        induction n with
        | zero => intro β T h a w hi; simp [aiter] at hi
        | succ n ihn =>
          intro β T h a w hi hs hQ
          rw [rounds_succ]
          simp only [aiter] at hi
          cases hx : aexec cl N x1 T h with
          | none => simp [hx] at hi
          | some r =>
            obtain ⟨y, T1, h1'⟩ := r
            simp only [hx] at hi
            cases y with
            | nrm =>
              simp only at hi
              refine ih x1 β T h a w _ _ _ h1 hx hs _ fun β1 a1 w1 s1 t1 => ?_
              exact ihn β1 T1 h1' a1 w1 hi s1 fun β2 a2 w2 s2 t2 => hQ β2 a2 w2 s2 (t1.trans t2)
            | exit j =>
              simp only at hi; cases hi
              exact ih x1 β T h a w _ _ _ h1 hx hs _ fun β1 a1 w1 s1 t1 => hQ β1 a1 w1 s1 t1
            | ret =>
              simp only at hi; cases hi
              exact ih x1 β T h a w _ _ _ h1 hx hs _ fun β1 a1 w1 s1 t1 => hQ β1 a1 w1 s1 t1
      exact key N β T h a w ha hs hQ
    · cases hc
  | exit id =>
    intro ac β T h a w x T' h' hc ha hs Q hQ
    simp only [cCode] at hc; cases hc
    simp only [aexec] at ha; cases ha
    exact wp_exit (hQ β a w hs (.refl _ _ _ _))
  | ret =>
    intro ac β T h a w x T' h' hc ha hs Q hQ
    simp only [cCode] at hc; cases hc
    simp only [aexec] at ha; cases ha
    exact wp_ret (hQ β a w hs (.refl _ _ _ _))
  | rangeFunc g ps c1 c2 => intro ac β T h a w x T' h' hc ha; simp only [cCode] at hc; (repeat' (split at hc)) <;> cases hc; simp [aexec] at ha
  | scope => intro ac β T h a w x T' h' hc ha; simp only [cCode] at hc; cases hc; simp [aexec] at ha
  | goto => intro ac β T h a w x T' h' hc ha; simp only [cCode] at hc; cases hc; simp [aexec] at ha
  | refuse => intro ac β T h a w x T' h' hc ha; simp only [cCode] at hc; cases hc; simp [aexec] at ha

theorem initT_get : ∀ (args : List AV) (i : Nat) (T : Tm) (t : Nat), (initT args i T).get t = if i ≤ t ∧ t < i + args.length then args[t - i]? else T.get t
  | [], i, T, t => by simp [initT]; intro h1 h2; omega
  | v :: args, i, T, t => by
    simp only [initT]
    rw [initT_get args (i + 1) (T.put i v) t]
    by_cases h1 : t = i
    · subst h1
      rw [if_neg (by omega), Tm.get_put_same, if_pos (by simp)]
      simp
    · by_cases h2 : i + 1 ≤ t ∧ t < i + 1 + args.length
      · rw [if_pos h2, if_pos (by simp; omega)]
        rw [show t - i = (t - (i + 1)) + 1 by omega]
        simp
      · rw [if_neg h2, Tm.get_put_ne _ _ h1, if_neg (by simp; omega)]

/-- one result -/
def resOne (tmps : Array Value) : ResultVar → Sem Value
  | .tmp t => pure (tmps.getD t Go.undef)
  | .cell x t => do loadVar t (← asAddr (tmps.getD x Go.undef))

theorem aload_res {β : Bl} {T : Tm} {h : AH} {a : Act} {w : World} (hs : Sim nt ds own β T h a w) : ∀ (rs : List ResultVar) (ars : List ARes) (vs : List AV), cRes P rs = some ars → ares T h ars = some vs →
    ∃ cvs : List Value, ((rs.mapM (resOne a.tmps)).run P w = .ok cvs w) ∧ RL w.heap (LL own β h.H) β vs cvs
  | [], ars, vs, hc, ha => by
    simp [cRes] at hc; subst hc
    simp [ares] at ha; subst ha
    exact ⟨[], by simp, RL.nil⟩
  | .tmp t :: rs, ars, vs, hc, ha => by
    simp only [cRes] at hc
    split at hc
    · rename_i l hl
      cases hc
      simp only [ares] at ha
      split at ha
      · rename_i l2 hl2
        cases ha
        obtain ⟨cvs, h1, h2⟩ := aload_res hs rs l l2 hl hl2
        refine ⟨a.tmps.getD t Go.undef :: cvs, ?_, RL.cons ?_ h2⟩
        · rw [List.mapM_cons]
          simp only [resOne, Sem.run_bind, Sem.run_pure, Result.andThen_ok, h1]
        · cases hg : T.get t with
          | none => exact .undef _
          | some v => exact hs.tm t v hg
      · cases ha
    · cases hc
  | .cell t ty :: rs, ars, vs, hc, ha => by
    simp only [cRes] at hc
    split at hc
    · rename_i n l hn hl
      cases hc
      simp only [ares] at ha
      split at ha
      · rename_i v l2 hv hl2
        cases ha
        obtain ⟨cvs, h1, h2⟩ := aload_res hs rs l l2 hl hl2
        have hR : VR w.heap (LL own β h.H) β ((T.get t).getD .undef) (a.tmps.getD t Go.undef) := by
          cases hg : T.get t with
          | none => exact .undef _
          | some v => exact hs.tm t v hg
        have hld : ∃ cv, (do loadVar ty (← asAddr (a.tmps.getD t Go.undef)) : Sem Value).run P w = .ok cv w ∧ VR w.heap (LL own β h.H) β v cv := by
          cases n with
          | none =>
            obtain ⟨ad, u, e1, e2, e3⟩ := aload1_ok hs.hp hv hR
            obtain ⟨cv, e4, e5⟩ := load1_ok (P := P) hs.hp hn hv hR
            refine ⟨cv, ?_, e5⟩
            rw [e1] at e4 ⊢
            simpa only [Instr.loadAt, Instr.sureAddr, asAddr, Sem.run_bind, Sem.run_pure, Result.andThen_ok] using e4
          | some n =>
            simp only [Option.map_eq_some_iff] at hv
            obtain ⟨cs, hv, rfl⟩ := hv
            obtain ⟨ad, u, e1, _⟩ := aloadn_ok hs.hp hv hR
            obtain ⟨cv, e4, e5⟩ := loadn_ok (P := P) hs.hp hn hv hR
            refine ⟨cv, ?_, e5⟩
            rw [e1] at e4 ⊢
            simpa only [Instr.loadAt, Instr.sureAddr, asAddr, Sem.run_bind, Sem.run_pure, Result.andThen_ok] using e4
        obtain ⟨cv, e4, e5⟩ := hld
        refine ⟨cv :: cvs, ?_, RL.cons e5 h2⟩
        have e4' : (resOne a.tmps (.cell t ty)).run P w = .ok cv w := e4
        rw [List.mapM_cons]
        simp only [Sem.run_bind, e4', Result.andThen_ok, h1, Sem.run_pure]
      · cases ha
    · cases hc

theorem fn_ok {cl : Handler} (hcl : HOk P cl) {N f : Nat} {fn : Func} {af : AFn} (hf : P.funcs[f]? = some fn) (hc : cFn P fn = some af) {args : List AV} {h h' : AH} {v : AV} (ha : arunFn cl N af args h = some (v, h'))
    {own : Nat → Prop} {β : Bl} {w : World} {cargs : Array Value} (hs : SimH own β h.H h.nx w) (hR : RL w.heap (LL own β h.H) β args cargs.toList) :
    Calls P f cargs w fun e w' => ∃ cv β', e = .returned cv ∧ SimH own β' h'.H h'.nx w' ∧ VR w'.heap (LL own β' h'.H) β' v cv ∧ Trans own β h w β' h' w' := by
  unfold cFn at hc
  split at hc
  case h_2 => cases hc
  rename_i c hb
  split at hc
  case h_2 => cases hc
  rename_i ac rs hac hrs
  cases hc
  unfold arunFn at ha
  split at ha
  case isFalse => cases ha
  rename_i hlen
  simp only at ha hlen
  have hal : args.length = cargs.size := by simpa using hR.1
  refine calls_of_wp hf hb ?_
  have hsim : Sim fn.ntmps [] own β (initT args 0 .leaf) h { tmps := cargs ++ Array.replicate (fn.ntmps - cargs.size) Go.undef, defers := [] } w := by
    refine ⟨hs, by simp; omega, fun t u hu => ?_, rfl⟩
    rw [initT_get] at hu
    split at hu
    · rename_i ht
      obtain ⟨cv, h1, h2⟩ := hR.get hu
      have hlt : t < cargs.size := by omega
      have h3 : cargs[t]? = some cv := by simpa using h1
      have : (cargs ++ Array.replicate (fn.ntmps - cargs.size) Go.undef).getD t Go.undef = cv := by
        simp [Array.getElem?_append, hlt]
        simpa [hlt] using h3
      rw [this]; exact h2
    · simp [Tm.get_leaf] at hu
  have fin : ∀ (x : AX) (T' : Tm) (h1 : AH), (x = .nrm ∨ x = .ret) → aexec cl N ac (initT args 0 .leaf) h = some (x, T', h1) → (∃ vs, ares T' h1 rs = some vs ∧ v = aret vs ∧ h' = h1) →
      c.wp P (bodyPost P fn fun e w' => ∃ cv β', e = .returned cv ∧ SimH own β' h'.H h'.nx w' ∧ VR w'.heap (LL own β' h'.H) β' v cv ∧ Trans own β h w β' h' w') { tmps := cargs ++ Array.replicate (fn.ntmps - cargs.size) Go.undef, defers := [] } w := by
    intro x T' h1 hx hex hres
    obtain ⟨vs, hvs, rfl, rfl⟩ := hres
    refine code_wp hcl c ac β _ h _ w x T' h' hac hex hsim _ fun β' a' w' s' t' => ?_
    obtain ⟨cvs, r1, r2⟩ := aload_res (P := P) s' _ _ _ hrs hvs
    have hrun : (results fn a'.tmps).run P w' = .ok (if hh : cvs.toArray.size = 1 then cvs.toArray[0] else .tuple cvs.toArray) w' := by
      have hres : results fn a'.tmps = (do let vs ← fn.results.mapM (resOne a'.tmps); pure (if h : vs.size = 1 then vs[0] else .tuple vs)) := rfl
      rw [hres, Array.mapM_eq_mapM_toList]
      have : (Functor.map List.toArray (fn.results.toList.mapM (resOne a'.tmps)) : Sem (Array Value)) = (do let l ← fn.results.toList.mapM (resOne a'.tmps); pure l.toArray) := rfl
      rw [this]
      simp only [Sem.run_bind, r1, Result.andThen_ok, Sem.run_pure]
    have hval : VR w'.heap (LL own β' h'.H) β' (aret vs) (if hh : cvs.toArray.size = 1 then cvs.toArray[0] else .tuple cvs.toArray) := by
      have hl := r2.1
      match vs, cvs, r2, hl with
      | [], [], r2, _ => exact .tup [] _ rfl (fun i c v hc => by simp at hc)
      | [u], [cu], r2, _ => simpa [aret] using r2.head
      | u1 :: u2 :: us, c1 :: c2 :: cs, r2, _ =>
        simp only [aret]
        rw [dif_neg (by simp)]
        exact RL.tup (by simpa using r2)
    rcases hx with rfl | rfl
    · exact ⟨s'.df, _, hrun, _, β', rfl, s'.hp, hval, t'⟩
    · exact ⟨s'.df, _, hrun, _, β', rfl, s'.hp, hval, t'⟩
  cases hex : aexec cl N ac (initT args 0 .leaf) h with
  | none => simp [hex] at ha
  | some r =>
    obtain ⟨x, T', h1⟩ := r
    simp only [hex] at ha
    cases x with
    | nrm =>
      cases hq : ares T' h1 rs with
      | none => simp [hq] at ha
      | some vs => simp [hq] at ha; exact fin .nrm T' h1 (.inl rfl) hex ⟨vs, hq, ha.1.symm, ha.2.symm⟩
    | ret =>
      cases hq : ares T' h1 rs with
      | none => simp [hq] at ha
      | some vs => simp [hq] at ha; exact fin .ret T' h1 (.inr rfl) hex ⟨vs, hq, ha.1.symm, ha.2.symm⟩
    | exit j => simp only at ha; cases ha

/-- A table of functions. -/
def FtOk (P : Program) (ft : Nat → Option AFn) : Prop := ∀ f af, ft f = some af → ∃ fn, P.funcs[f]? = some fn ∧ cFn P fn = some af ∧ fn.name ≠ "runtime.NumGoroutine"

theorem cFn_body {fn : Func} {af : AFn} (h : cFn P fn = some af) : fn.body.isSome = true := by
  unfold cFn at h
  split at h
  · rename_i c hc; rw [hc]; rfl
  · cases h

theorem acall_ok {ft : Nat → Option AFn} (hft : FtOk P ft) (N : Nat) : ∀ d, HOk P (acall ft N d)
  | 0 => fun f args h v h' ha => by simp [acall] at ha
  | d + 1 => fun f args h v h' ha => by
    simp only [acall] at ha
    split at ha
    · rename_i af haf
      obtain ⟨fn, h1, h2, h3⟩ := hft f af haf
      exact ⟨⟨fn, h1, cFn_body h2, h3⟩, fun own β w cargs hs hR => fn_ok (acall_ok hft N d) h1 h2 ha hs hR⟩
    · cases ha
end
end Go.Eng
