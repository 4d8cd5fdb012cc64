/- Functions in continuation style; tables of them; handlers. -/
import Derived.Test.YtpnekpbehcbmkaaEngU
set_option linter.unusedSimpArgs false
set_option linter.unusedVariables false
set_option linter.unnecessarySimpa false
namespace Go.Eng

structure SFn where
  nt : Nat
  res : List ARes
  body : SCode
def SFn.erase (f : SFn) : AFn := ⟨f.nt, f.res, f.body.erase⟩

def sfin (res : List ARes) : AX → Tm → AH → Option (AV × AH)
  | .exit _, _, _ => none
  | .nrm, T, h => match ares T h res with
    | some vs => some (aret vs, h)
    | none => none
  | .ret, T, h => match ares T h res with
    | some vs => some (aret vs, h)
    | none => none
def srun (cl : Handler) (N : Nat) (f : SFn) (args : List AV) (h : AH) : Option (AV × AH) :=
  cond (Nat.ble args.length f.nt) (sexec cl N f.body (initT args 0 .leaf) h (sfin f.res)) none

section
variable {P : Program}
theorem sfn_ok {cl : Handler} (hcl : HOk P cl) {N f : Nat} {fn : Func} {sf : SFn} (hf : P.funcs[f]? = some fn) (hc : cFn P fn = some sf.erase) {args : List AV} {h h' : AH} {v : AV} (ha : srun cl N sf args h = some (v, h'))
    {own : Nat → Prop} {β : Bl} {w : World} {cargs : Array Value} (hs : SimH own β h.H h.nx w) (hR : RL w.heap (LL own β h.H) β args cargs.toList) :
    Calls P f cargs w fun e w' => ∃ cv β', e = .returned cv ∧ SimH own β' h'.H h'.nx w' ∧ VR w'.heap (LL own β' h'.H) β' v cv ∧ Trans own β h w β' h' w' := by
  unfold cFn at hc
  split at hc
  case h_2 => cases hc
  rename_i c hb
  split at hc
  case h_2 => cases hc
  rename_i ac rs hac hrs
  simp only [SFn.erase, Option.some.injEq, AFn.mk.injEq] at hc
  obtain ⟨hnt, hres, hbody⟩ := hc
  unfold srun at ha
  cases hlen : Nat.ble args.length sf.nt with
  | false => rw [hlen] at ha; cases ha
  | true =>
  rw [hlen] at ha
  simp only [cond_true] at ha
  have hlen' : args.length ≤ fn.ntmps := by rw [hnt]; exact Nat.le_of_ble_eq_true hlen
  have hal : args.length = cargs.size := by simpa using hR.1
  refine calls_of_wp hf hb ?_
  have hsim : Sim fn.ntmps [] own β (initT args 0 .leaf) h { tmps := cargs ++ Array.replicate (fn.ntmps - cargs.size) Go.undef, defers := [] } w := by
    refine ⟨hs, by simp; omega, fun t u hu => ?_, rfl⟩
    rw [initT_get] at hu
    split at hu
    · rename_i ht
      obtain ⟨cv, h1, h2⟩ := hR.get hu
      have hlt : t < cargs.size := by omega
      have h3 : cargs[t]? = some cv := by simpa using h1
      have : (cargs ++ Array.replicate (fn.ntmps - cargs.size) Go.undef).getD t Go.undef = cv := by
        simp [Array.getElem?_append, hlt]
        simpa [hlt] using h3
      rw [this]; exact h2
    · simp [Tm.get_leaf] at hu
  have fin : ∀ (T' : Tm) (h1 : AH) (vs : List AV), ares T' h1 sf.res = some vs → v = aret vs → h' = h1 → ∀ (β' : Bl) (a' : Act) (w' : World), Sim fn.ntmps [] own β' T' h1 a' w' → Trans own β h w β' h1 w' →
      bodyPost P fn (fun e w' => ∃ cv β', e = .returned cv ∧ SimH own β' h'.H h'.nx w' ∧ VR w'.heap (LL own β' h'.H) β' v cv ∧ Trans own β h w β' h' w') .normal a' w' ∧
      bodyPost P fn (fun e w' => ∃ cv β', e = .returned cv ∧ SimH own β' h'.H h'.nx w' ∧ VR w'.heap (LL own β' h'.H) β' v cv ∧ Trans own β h w β' h' w') .ret a' w' := by
    intro T' h1 vs hvs hv hh β' a' w' s' t'
    subst hv; subst hh
    rw [← hres] at hvs
    obtain ⟨cvs, r1, r2⟩ := aload_res (P := P) s' _ _ _ hrs hvs
    have hrun : (results fn a'.tmps).run P w' = .ok (if hh : cvs.toArray.size = 1 then cvs.toArray[0] else .tuple cvs.toArray) w' := by
      have hres : results fn a'.tmps = (do let vs ← fn.results.mapM (resOne a'.tmps); pure (if h : vs.size = 1 then vs[0] else .tuple vs)) := rfl
      rw [hres, Array.mapM_eq_mapM_toList]
      have : (Functor.map List.toArray (fn.results.toList.mapM (resOne a'.tmps)) : Sem (Array Value)) = (do let l ← fn.results.toList.mapM (resOne a'.tmps); pure l.toArray) := rfl
      rw [this]
      simp only [Sem.run_bind, r1, Result.andThen_ok, Sem.run_pure]
    have hval : VR w'.heap (LL own β' h'.H) β' (aret vs) (if hh : cvs.toArray.size = 1 then cvs.toArray[0] else .tuple cvs.toArray) := by
      have hl := r2.1
      match vs, cvs, r2, hl with
      | [], [], r2, _ => exact .tup [] _ rfl (fun i c v hc => by simp at hc)
      | [u], [cu], r2, _ => simpa [aret] using r2.head
      | u1 :: u2 :: us, c1 :: c2 :: cs, r2, _ =>
        simp only [aret]
        rw [dif_neg (by simp)]
        exact RL.tup (by simpa using r2)
    exact ⟨⟨s'.df, _, hrun, _, β', rfl, s'.hp, hval, t'⟩, ⟨s'.df, _, hrun, _, β', rfl, s'.hp, hval, t'⟩⟩
  refine scode_wp hcl sf.body c β _ h _ w (sfin sf.res) (v, h') (by rw [hac, hbody]) ha hsim _ fun x T' h1 hk β' a' w' s t => ?_
  cases x with
  | exit j => simp [sfin] at hk
  | nrm =>
    simp only [sfin] at hk
    split at hk
    · rename_i vs hvs; cases hk; exact (fin T' _ vs hvs rfl rfl β' a' w' s t).1
    · cases hk
  | ret =>
    simp only [sfin] at hk
    split at hk
    · rename_i vs hvs; cases hk; exact (fin T' _ vs hvs rfl rfl β' a' w' s t).2
    · cases hk

/-- A table of functions. -/
def StOk (P : Program) (st : Nat → Option SFn) : Prop := ∀ f sf, st f = some sf → ∃ fn, P.funcs[f]? = some fn ∧ cFn P fn = some sf.erase ∧ fn.name ≠ "runtime.NumGoroutine"
def scall (st : Nat → Option SFn) (N : Nat) : Nat → Handler
  | 0 => fun _ _ _ => none
  | d + 1 => fun f args h => match st f with
    | some sf => srun (scall st N d) N sf args h
    | none => none
theorem scall_ok {st : Nat → Option SFn} (hst : StOk P st) (N : Nat) : ∀ d, HOk P (scall st N d)
  | 0 => fun f args h v h' ha => by simp [scall] at ha
  | d + 1 => fun f args h v h' ha => by
    simp only [scall] at ha
    split at ha
    · rename_i sf hsf
      obtain ⟨fn, h1, h2, h3⟩ := hst f sf hsf
      exact ⟨⟨fn, h1, cFn_body h2, h3⟩, fun own β w cargs hs hR => sfn_ok (scall_ok hst N d) h1 h2 ha hs hR⟩
    · cases ha
end
end Go.Eng
