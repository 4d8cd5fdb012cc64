/- The interpreter in continuation style, over code with live registers noted at joins and loops: definitions. -/
import Derived.Test.YtpnekpbehcbmkaaEngS
set_option linter.unusedSimpArgs false
set_option linter.unusedVariables false
set_option linter.unnecessarySimpa false
namespace Go.Eng

def nthD (vals : List AV) (i : Nat) : AV := (vals[i]?).getD .undef
def mkTa (vals : List AV) : List Nat → Nat → Tm → Tm
  | [], _, T => T
  | r :: rs, i, T => mkTa vals rs (i + 1) (T.put r (nthD vals i))
def mkT (live : List Nat) (vals : List AV) : Tm := mkTa vals live 0 .leaf
def rg (T : Tm) (t : Nat) : AV := (T.get t).getD .undef
def getL (live : List Nat) (T : Tm) : List AV := live.map (rg T)

inductive SCode where
  | skip
  | reg (ops : List AOpr)
  | draw (ops : List (AOpr × Nat))
  | seq (a b : SCode)
  | cond (c : Opd) (t e : SCode)
  | block (id : Nat) (b : SCode)
  | loop (li lo : List Nat) (b : SCode)
  | join (lo : List Nat) (a : SCode)
  | joinN (lo : List Nat) (a : SCode)
  | regS (ops : List (AOpr × Option Nat))
  | drawS (ops : List ((AOpr × Nat) × Option Nat))
  | exit (id : Nat)
  | ret
  | stuck
  | rng (it : Nat) (g : Opd) (ps : List Nat) (a b : SCode)
  deriving Inhabited

def SCode.erase : SCode → ACode
  | .skip => .skip
  | .reg ops => .reg ops
  | .draw ops => .draw ops
  | .seq a b => .seq a.erase b.erase
  | .cond c t e => .cond c t.erase e.erase
  | .block id b => .block id b.erase
  | .loop _ _ b => .loop b.erase
  | .join _ a => a.erase
  | .joinN _ a => a.erase
  | .regS ops => .reg (ops.map (·.1))
  | .drawS ops => .draw (ops.map (·.1))
  | .exit id => .exit id
  | .ret => .ret
  | .stuck => .stuck
  | .rng _ g ps a b => .rng g ps a.erase b.erase

section
variable {R : Type}
def stp (g : Option Bool) (r : Option (AV × AH)) (h : AH) (k : AV → AH → Option R) : Option R :=
  match g with
  | some true => match r with
    | some (v, h') => k v h'
    | none => none
  | some false => k skipped h
  | none => none
def sif (c : AV) (x y : Option R) : Option R :=
  match c with
  | .bool b => cond b x y
  | _ => none
def sjn {α : Type} (r : Option (AX × α × AH)) (k : AX → α → AH → Option R) : Option R :=
  match r with
  | some (x, v, h) => k x v h
  | none => none
def sops (cl : Handler) : List AOpr → Tm → AH → (Tm → AH → Option R) → Option R
  | [], T, h, k => k T h
  | o :: r, T, h, k => stp (gd T o.guard) (aop cl T h o.op) h (fun v h' => sops cl r (tput T o.dst v) h' k)
end

def siter (f : List AV → AH → Option (AX × (List AV × List AV) × AH)) : Nat → List AV → AH → Option (AX × List AV × AH)
  | 0, _, _ => none
  | n + 1, vals, h => sjn (f vals h) fun x vs h' =>
    match x with
    | .nrm => siter f n vs.1 h'
    | .exit j => some (.exit j, vs.2, h')
    | .ret => some (.ret, vs.2, h')

def sexec (cl : Handler) (N : Nat) : SCode → {R : Type} → Tm → AH → (AX → Tm → AH → Option R) → Option R
  | .skip, _, T, h, k => k .nrm T h
  | .reg ops, _, T, h, k => sops cl ops T h (fun T h => k .nrm T h)
  | .draw ops, _, T, h, k => match adraw cl ops T h with
    | some (T', h') => k .nrm T' h'
    | none => none
  | .seq a b, _, T, h, k => sexec cl N a T h fun x T h =>
    match x with
    | .nrm => sexec cl N b T h k
    | .exit j => k (.exit j) T h
    | .ret => k .ret T h
  | .cond c t e, _, T, h, k => sif (c.ev T) (sexec cl N t T h k) (sexec cl N e T h k)
  | .block id b, _, T, h, k => sexec cl N b T h fun x T h =>
    match x with
    | .nrm => k .nrm T h
    | .exit j => cond (Nat.beq j id) (k .nrm T h) (k (.exit j) T h)
    | .ret => k .ret T h
  | .loop li lo b, _, T, h, k => sjn (siter (fun vals h => sexec cl N b (mkT li vals) h fun x T h => some (x, (getL li T, getL lo T), h)) N (getL li T) h) fun x vals h => k x (mkT lo vals) h
  | .join lo a, _, T, h, k => sjn (sexec cl N a T h fun x T h => some (x, getL lo T, h)) fun x vals h => k x (mkT lo vals) h
  | .joinN lo a, _, T, h, k => sjn (sexec cl N a T h fun x T h => some (x, getL lo T, h)) fun x vals h => k x (mkT lo vals) h
  | .exit id, _, T, h, k => k (.exit id) T h
  | .ret, _, T, h, k => k .ret T h
  | .regS _, _, _, _, _ => none
  | .drawS _, _, _, _, _ => none
  | .stuck, _, _, _, _ => none
  | .rng _ _ _ _ _, _, _, _, _ => none

/-! ## it is sound -/
theorem sops_eq {R : Type} {cl : Handler} : ∀ (l : List AOpr) (T : Tm) (h : AH) (k : Tm → AH → Option R) (r : R), sops cl l T h k = some r → ∃ T' h', aops cl l T h = some (T', h') ∧ k T' h' = some r
  | [], T, h, k, r, hk => ⟨T, h, rfl, hk⟩
  | o :: l, T, h, k, r, hk => by
    simp only [sops, stp] at hk
    simp only [aops]
    split at hk
    · rename_i hg
      split at hk
      · rename_i v h' ha
        obtain ⟨T', h'', h1, h2⟩ := sops_eq l _ _ k r hk
        exact ⟨T', h'', by simp only [hg, ha]; exact h1, h2⟩
      · cases hk
    · rename_i hg
      obtain ⟨T', h'', h1, h2⟩ := sops_eq l _ _ k r hk
      exact ⟨T', h'', by simp only [hg]; exact h1, h2⟩
    · cases hk

theorem mkTa_get (vals : List AV) : ∀ (live : List Nat) (i : Nat) (T : Tm) (t : Nat) (u : AV), (mkTa vals live i T).get t = some u → (∃ j, live[j]? = some t ∧ u = nthD vals (i + j)) ∨ T.get t = some u
  | [], i, T, t, u, h => .inr h
  | r :: rs, i, T, t, u, h => by
    simp only [mkTa] at h
    rcases mkTa_get vals rs (i + 1) _ t u h with ⟨j, h1, h2⟩ | h1
    · exact .inl ⟨j + 1, by simpa using h1, by rw [h2]; congr 1; omega⟩
    · rw [Tm.get_put] at h1
      split at h1
      · rename_i ht; subst ht; cases h1; exact .inl ⟨0, by simp, rfl⟩
      · exact .inr h1

section
variable {P : Program} {nt : Nat} {ds : List Deferred} {own : Nat → Prop}
/-- Registers are forgotten. -/
theorem Sim.keep {β : Bl} {T : Tm} {h : AH} {a : Act} {w : World} (hs : Sim nt ds own β T h a w) (live : List Nat) : Sim nt ds own β (mkT live (getL live T)) h a w := by
  refine ⟨hs.hp, hs.sz, fun t u hu => ?_, hs.df⟩
  rcases mkTa_get _ live 0 .leaf t u hu with ⟨j, h1, h2⟩ | h1
  · have : u = rg T t := by
      rw [h2]; simp [nthD, getL, h1]
    subst this
    unfold rg
    cases hg : T.get t with
    | none => exact .undef _
    | some v => exact hs.tm t v hg
  · simp [Tm.get_leaf] at h1

theorem cCode_seq {c : Code} {x y : ACode} (hc : cCode P nt c = some (.seq x y)) : ∃ a b, c = .seq a b ∧ cCode P nt a = some x ∧ cCode P nt b = some y := by
  cases c <;> simp only [cCode] at hc <;> (try (cases hc; done))
  case seq a b =>
    split at hc
    · rename_i h1 h2; cases hc; exact ⟨a, b, rfl, h1, h2⟩
    · cases hc
  all_goals (repeat' (split at hc)) <;> cases hc
theorem cCode_cond {c : Code} {o : Opd} {x y : ACode} (hc : cCode P nt c = some (.cond o x y)) : ∃ co a b, c = .cond co a b ∧ cOpd co = some o ∧ cCode P nt a = some x ∧ cCode P nt b = some y := by
  cases c <;> simp only [cCode] at hc <;> (try (cases hc; done))
  case cond co a b =>
    split at hc
    · rename_i h0 h1 h2; cases hc; exact ⟨co, a, b, rfl, h0, h1, h2⟩
    · cases hc
  all_goals (repeat' (split at hc)) <;> cases hc
theorem cCode_block {c : Code} {id : Nat} {x : ACode} (hc : cCode P nt c = some (.block id x)) : ∃ a, c = .block id a ∧ cCode P nt a = some x := by
  cases c <;> simp only [cCode] at hc <;> (try (cases hc; done))
  case block id a =>
    split at hc
    · rename_i h1; cases hc; exact ⟨a, rfl, h1⟩
    · cases hc
  all_goals (repeat' (split at hc)) <;> cases hc
theorem cCode_loop {c : Code} {x : ACode} (hc : cCode P nt c = some (.loop x)) : ∃ a, c = .loop a ∧ cCode P nt a = some x := by
  cases c <;> simp only [cCode] at hc <;> (try (cases hc; done))
  case loop a =>
    split at hc
    · rename_i h1; cases hc; exact ⟨a, rfl, h1⟩
    · cases hc
  all_goals (repeat' (split at hc)) <;> cases hc

theorem scode_wp {cl : Handler} (hcl : HOk P cl) {N : Nat} : ∀ (sc : SCode) (c : Code) {R : Type} (β : Bl) (T : Tm) (h : AH) (a : Act) (w : World) (k : AX → Tm → AH → Option R) (r : R), cCode P nt c = some sc.erase → sexec cl N sc T h k = some r → Sim nt ds own β T h a w →
    ∀ Q : Exit → Act → World → Prop, (∀ x T' h', k x T' h' = some r → ∀ β' a' w', Sim nt ds own β' T' h' a' w' → Trans own β h w β' h' w' → Q x.conc a' w') → c.wp P Q a w := by
  intro sc
  induction sc with
  | skip =>
    intro c R β T h a w k r hc he hs Q hQ
    simp only [sexec] at he
    refine code_wp (N := N) hcl c .skip β T h a w .nrm T h hc rfl hs Q fun β' a' w' s t => hQ .nrm T h he β' a' w' s t
  | reg ops =>
    intro c R β T h a w k r hc he hs Q hQ
    simp only [sexec] at he
    obtain ⟨T', h', h1, h2⟩ := sops_eq _ _ _ _ _ he
    refine code_wp (N := N) hcl c (.reg ops) β T h a w .nrm T' h' hc (by simp only [aexec, h1]) hs Q fun β' a' w' s t => hQ .nrm T' h' h2 β' a' w' s t
  | draw ops =>
    intro c R β T h a w k r hc he hs Q hQ
    simp only [sexec] at he
    split at he
    · rename_i T' h' h1
      refine code_wp (N := N) hcl c (.draw ops) β T h a w .nrm T' h' hc (by simp only [aexec, h1]) hs Q fun β' a' w' s t => hQ .nrm T' h' he β' a' w' s t
    · cases he
  | exit id =>
    intro c R β T h a w k r hc he hs Q hQ
    simp only [sexec] at he
    exact code_wp (N := N) hcl c (.exit id) β T h a w (.exit id) T h hc rfl hs Q fun β' a' w' s t => hQ (.exit id) T h he β' a' w' s t
  | ret =>
    intro c R β T h a w k r hc he hs Q hQ
    simp only [sexec] at he
    exact code_wp (N := N) hcl c .ret β T h a w .ret T h hc rfl hs Q fun β' a' w' s t => hQ .ret T h he β' a' w' s t
  | stuck => intro c R β T h a w k r hc he; simp [sexec] at he
  | rng it g ps a b => intro c R β T h a w k r hc he; simp [sexec] at he
  | regS ops => intro c R β T h a w k r hc he; simp [sexec] at he
  | drawS ops => intro c R β T h a w k r hc he; simp [sexec] at he
  | join lo a ih =>
    intro c R β T h a' w k r hc he hs Q hQ
    simp only [sexec, sjn] at he
    split at he
    · rename_i x vals h' hx
      refine ih c β T h a' w _ _ hc hx hs Q fun x2 T2 h2 hk β' a2 w2 s t => ?_
      cases hk
      exact hQ x _ h' he β' a2 w2 (s.keep lo) t
    · cases he
  | joinN lo a ih =>
    intro c R β T h a' w k r hc he hs Q hQ
    simp only [sexec, sjn] at he
    split at he
    · rename_i x vals h' hx
      refine ih c β T h a' w _ _ hc hx hs Q fun x2 T2 h2 hk β' a2 w2 s t => ?_
      cases hk
      exact hQ x _ h' he β' a2 w2 (s.keep lo) t
    · cases he
  | seq a b iha ihb =>
    intro c R β T h a' w k r hc he hs Q hQ
    obtain ⟨c1, c2, rfl, h1, h2⟩ := cCode_seq hc
    simp only [sexec] at he
    refine wp_seq ?_
    refine iha c1 β T h a' w _ r h1 he hs _ fun x T1 h1' hk β1 a1 w1 s1 t1 => ?_
    cases x with
    | nrm => exact ihb c2 β1 T1 h1' a1 w1 k r h2 hk s1 Q fun x T2 h2' hk2 β2 a2 w2 s2 t2 => hQ x T2 h2' hk2 β2 a2 w2 s2 (t1.trans t2)
    | exit j => exact hQ (.exit j) T1 h1' hk β1 a1 w1 s1 t1
    | ret => exact hQ .ret T1 h1' hk β1 a1 w1 s1 t1
  | cond co t e iht ihe =>
    intro c R β T h a w k r hc he hs Q hQ
    obtain ⟨o, c1, c2, rfl, h0, h1, h2⟩ := cCode_cond hc
    simp only [sexec] at he
    have hv := cOpd_ok hs h0
    cases hyv : co.ev T <;> rw [hyv] at he hv <;> simp only [sif] at he <;> (try (cases he; done))
    rename_i bb
    generalize hce : a.eval o = cv at hv
    cases hv
    cases bb with
    | true => exact wp_cond_true hce (iht c1 β T h a w k r h1 he hs Q hQ)
    | false => exact wp_cond_false hce (ihe c2 β T h a w k r h2 he hs Q hQ)
  | block id b ih =>
    intro c R β T h a w k r hc he hs Q hQ
    obtain ⟨c1, rfl, h1⟩ := cCode_block hc
    simp only [sexec] at he
    refine wp_block ?_
    refine ih c1 β T h a w _ r h1 he hs _ fun x T1 h1' hk β1 a1 w1 s1 t1 => ?_
    cases x with
    | nrm => exact hQ .nrm T1 h1' hk β1 a1 w1 s1 t1
    | ret => exact hQ .ret T1 h1' hk β1 a1 w1 s1 t1
    | exit j =>
      show (if j = id then Q .normal a1 w1 else Q (.exit j) a1 w1)
      simp only at hk
      cases hb : Nat.beq j id with
      | true =>
        rw [hb] at hk
        rw [if_pos (Nat.eq_of_beq_eq_true hb)]
        exact hQ .nrm T1 h1' hk β1 a1 w1 s1 t1
      | false =>
        rw [hb] at hk
        rw [if_neg (Nat.ne_of_beq_eq_false hb)]
        exact hQ (.exit j) T1 h1' hk β1 a1 w1 s1 t1
  | loop li lo b ih =>
    intro c R β T h a w k r hc he hs Q hQ
    obtain ⟨c1, rfl, h1⟩ := cCode_loop hc
    simp only [sexec, sjn] at he
    split at he
    case h_2 => cases he
    rename_i x vals h' hit
    refine wp_loop_rounds N ?_
    have key : ∀ (n : Nat) (β : Bl) (vs : List AV) (h : AH) (a : Act) (w : World), siter (fun vals h => sexec cl N b (mkT li vals) h fun x T h => some (x, (getL li T, getL lo T), h)) n vs h = some (x, vals, h') → Sim nt ds own β (mkT li vs) h a w →
        (∀ β' a' w', Sim nt ds own β' (mkT lo vals) h' a' w' → Trans own β h w β' h' w' → Q x.conc a' w') → Code.rounds P c1 Q n a w := by
      intro n
      induction n with
      | zero => intro β vs h a w hi; simp [siter] at hi
      | succ n ihn =>
        intro β vs h a w hi hs hQ
        rw [rounds_succ]
        simp only [siter, sjn] at hi
        split at hi
        case h_2 => cases hi
        rename_i y vs2 h2 hy
        refine ih c1 β (mkT li vs) h a w _ _ h1 hy hs _ fun y' T1 h1' hk β1 a1 w1 s1 t1 => ?_
        cases hk
        cases y with
        | nrm => exact ihn β1 _ _ a1 w1 hi (s1.keep li) fun β2 a2 w2 s2 t2 => hQ β2 a2 w2 s2 (t1.trans t2)
        | exit j =>
          simp only at hi
          cases hi
          exact hQ β1 a1 w1 (s1.keep lo) t1
        | ret =>
          simp only at hi
          cases hi
          exact hQ β1 a1 w1 (s1.keep lo) t1
    exact key N β _ h a w hit (hs.keep li) fun β' a' w' s t => hQ x _ h' he β' a' w' s t
end
end Go.Eng
