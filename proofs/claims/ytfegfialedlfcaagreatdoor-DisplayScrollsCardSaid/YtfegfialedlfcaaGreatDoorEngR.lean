/- A region that draws its order, whole; code; functions. -/
import Derived.Test.YtfegfialedlfcaaGreatDoorEngQ
set_option linter.unusedSimpArgs false
set_option linter.unusedVariables false
set_option linter.unnecessarySimpa false
noncomputable section
namespace Go.Eng
/-- The run of a region in the text's order, each call by a way of its own. -/
inductive DRun (P : Program) : List AOpr → Nat → Tm → AH → List DStep → Tm → AH → Prop where
  | nil (r : Nat) (T : Tm) (h : AH) : DRun P [] r T h [] T h
  | cons {o : AOpr} {l : List AOpr} {r : Nat} {T : Tm} {h : AH} {s : DStep} {ss : List DStep} {T' : Tm} {h' : AH} (cl : Handler) (hcl : HOk P cl) (hs : dstep cl o r T h = some s) (hr : DRun P l (r + 1) (tput T o.dst s.v) s.h' ss T' h') : DRun P (o :: l) r T h (s :: ss) T' h'

theorem drun_spec {P : Program} : ∀ (l : List AOpr) (r : Nat) (T : Tm) (h : AH) (ss : List DStep) (T' : Tm) (h' : AH), DRun P l r T h ss T' h' →
    ∃ (Ts : Nat → Tm) (Hs : Nat → AH), Ts 0 = T ∧ Hs 0 = h ∧ Ts l.length = T' ∧ Hs l.length = h' ∧ ss.length = l.length ∧
      ∀ i o s, l[i]? = some o → ss[i]? = some s → (∃ cl, HOk P cl ∧ DSp cl o (r + i) (Ts i) (Hs i) s) ∧ Ts (i + 1) = tput (Ts i) o.dst s.v ∧ Hs (i + 1) = s.h'
  | [], r, T, h, ss, T', h', hd => by
    cases hd
    exact ⟨fun _ => T, fun _ => h, rfl, rfl, rfl, rfl, rfl, fun i o s ho => by simp at ho⟩
  | o :: l, r, T, h, ss, T', h', hd => by
    cases hd
    rename_i s ss1 cl hcl hs hrec
    obtain ⟨Ts, Hs, e1, e2, e3, e4, e5, e6⟩ := drun_spec l (r + 1) _ _ _ _ _ hrec
    have hsp := dstep_sp hs
    refine ⟨fun i => match i with | 0 => T | i + 1 => Ts i, fun i => match i with | 0 => h | i + 1 => Hs i, rfl, rfl, e3, e4, by simp [e5], fun i o' s' ho' hs' => ?_⟩
    cases i with
    | zero =>
      simp at ho' hs'
      subst ho'; subst hs'
      exact ⟨⟨cl, hcl, hsp⟩, e1, e2⟩
    | succ i =>
      simp at ho' hs'
      obtain ⟨a1, a2, a3⟩ := e6 i o' s' ho' hs'
      exact ⟨by rw [show r + (i + 1) = r + 1 + i by omega]; exact a1, a2, a3⟩

/-! ### the order -/
def befStep (acc : Array Nat) (o : Oper) : Array Nat := acc.push (o.after.foldl (fun s e => if Region.binds .any e then s ||| 2 ^ e.on ||| acc.getD e.on 0 else s) 0)
theorem before_eq (ops : Array Oper) : Region.before ops = ops.toList.foldl befStep #[] := by
  unfold Region.before
  rw [← Array.foldl_toList]
  rfl
theorem befFold_old : ∀ (l : List Oper) (acc : Array Nat) (k : Nat), k < acc.size → (l.foldl befStep acc).getD k 0 = acc.getD k 0
  | [], acc, k, h => rfl
  | o :: l, acc, k, h => by
    simp only [List.foldl_cons]
    rw [befFold_old l _ k (by simp [befStep]; omega)]
    simp [befStep, Array.getElem?_push, Nat.ne_of_lt h]
theorem befFold_size : ∀ (l : List Oper) (acc : Array Nat), (l.foldl befStep acc).size = acc.size + l.length
  | [], acc => by simp
  | o :: l, acc => by simp only [List.foldl_cons]; rw [befFold_size l]; simp [befStep]; omega
theorem edgeFold (acc : Array Nat) (j : Nat) : ∀ (l : List Edge) (s0 : Nat), Nat.testBit (l.foldl (fun s e => if Region.binds .any e then s ||| 2 ^ e.on ||| acc.getD e.on 0 else s) s0) j = true →
    Nat.testBit s0 j = true ∨ ∃ e ∈ l, Region.binds .any e = true ∧ (e.on = j ∨ Nat.testBit (acc.getD e.on 0) j = true)
  | [], s0, h => .inl h
  | e :: l, s0, h => by
    simp only [List.foldl_cons] at h
    rcases edgeFold acc j l _ h with h1 | ⟨e', h1, h2⟩
    · split at h1
      · rename_i hb
        simp only [Nat.testBit_or, Bool.or_eq_true] at h1
        rcases h1 with (h1 | h1) | h1
        · exact .inl h1
        · refine .inr ⟨e, by simp, hb, .inl ?_⟩
          rw [Nat.testBit_two_pow] at h1
          simpa using h1
        · exact .inr ⟨e, by simp, hb, .inr h1⟩
      · exact .inl h1
    · exact .inr ⟨e', by simp [h1], h2⟩
theorem befFold_spec : ∀ (l : List Oper) (acc : Array Nat) (i : Nat) (o : Oper), l[i]? = some o → ∀ j, Nat.testBit ((l.foldl befStep acc).getD (acc.size + i) 0) j = true →
    ∃ e ∈ o.after, Region.binds .any e = true ∧ (e.on = j ∨ Nat.testBit ((l.foldl befStep acc).getD e.on 0) j = true)
  | [], acc, i, o, ho, j, h => by simp at ho
  | o0 :: l, acc, i, o, ho, j, h => by
    simp only [List.foldl_cons] at h ⊢
    cases i with
    | zero =>
      simp at ho; subst ho
      have hsz : acc.size < (befStep acc o0).size := by simp [befStep]
      rw [Nat.add_zero, befFold_old l _ _ hsz] at h
      have h0 : (befStep acc o0).getD acc.size 0 = o0.after.foldl (fun s e => if Region.binds .any e then s ||| 2 ^ e.on ||| acc.getD e.on 0 else s) 0 := by simp [befStep]
      rw [h0, ← Array.foldl_toList] at h
      rcases edgeFold acc j o0.after.toList 0 h with h1 | ⟨e, h1, h2, h3⟩
      · simp at h1
      · refine ⟨e, by simpa using h1, h2, h3.imp id fun h4 => ?_⟩
        have hlt : e.on < acc.size := by
          rcases Nat.lt_or_ge e.on acc.size with h5 | h5
          · exact h5
          · rw [show acc.getD e.on 0 = 0 by simp [Array.getElem?_eq_none h5]] at h4; simp at h4
        rw [befFold_old l _ _ (by simp [befStep]; omega)]
        simpa [befStep, Array.getElem?_push, Nat.ne_of_lt hlt] using h4
    | succ i =>
      simp at ho
      have := befFold_spec l (befStep acc o0) i o ho j (by
        rw [show (befStep acc o0).size + i = acc.size + (i + 1) by simp [befStep]; omega]
        exact h)
      exact this

theorem edgesFrom_spec : ∀ (l : List Oper) (k : Nat), edgesFrom k l = true → ∀ i o, l[i]? = some o → ∀ e ∈ o.after, Region.binds .any e = true → e.on < k + i
  | [], k, h, i, o, ho => by simp at ho
  | o0 :: l, k, h, i, o, ho => by
    simp only [edgesFrom, Bool.and_eq_true] at h
    cases i with
    | zero =>
      simp at ho; subst ho
      intro e he hb
      have := Array.all_eq_true_iff_forall_mem.1 h.1 e he
      simpa [hb] using this
    | succ i =>
      simp at ho
      intro e he hb
      have := edgesFrom_spec l (k + 1) h.2 i o ho e he hb
      omega

theorem cOprs_spec {P : Program} {nt : Nat} {ops : Array Oper} : ∀ (l : List Oper) (al : List AOpr), cOprs P nt ops l = some al → al.length = l.length ∧ ∀ (i : Nat) o ao, l[i]? = some o → al[i]? = some ao → cOpr P nt ops o = some ao
  | [], al, h => by simp [cOprs] at h; subst h; simp
  | o :: l, al, h => by
    unfold cOprs at h
    split at h
    · rename_i x l' h1 h2
      cases h
      obtain ⟨e1, e2⟩ := cOprs_spec l l' h2
      refine ⟨by simp [e1], fun i o' ao' ho hao => ?_⟩
      cases i with
      | zero => simp at ho hao; subst ho; subst hao; exact h1
      | succ i => simp at ho hao; exact e2 i o' ao' ho hao
    · cases h

instance : Inhabited DStep := ⟨⟨.leaf, ⟨.leaf, 0⟩, .undef, .pure⟩⟩

/-- How many are left to be carried out. -/
def unl (listed : Array Bool) : Nat := (listed.toList.filter (! ·)).length

section
variable {P : Program} {nt : Nat} {ds : List Deferred} {own : Nat → Prop} {β : Bl} {T : Tm} {h : AH} {a : Act} {w : World}
theorem draw_done {ops : Array Oper} {π : Nat → Nat} {n : Nat} {o : Nat → AOpr} {s : Nat → DStep} {b : Nat → Nat} {Ts : Nat → Tm} {Hs : Nat → AH} (c : DCtx P nt ops π n h.nx o s b Ts Hs) {T' : Tm} {h' : AH} (e2 : Hs 0 = ⟨h.H, h.nx + n⟩) (e3 : Ts n = T') (e4 : Hs n = h')
    (hnx : ∀ i, i ≤ n → h.nx + n ≤ (Hs i).nx) {Q : Exit → Act → World → Prop} (hQ : ∀ β' a' w', Sim nt ds own β' T' h' a' w' → Trans own β h w β' h' w' → Q .normal a' w')
    {listed : Array Bool} {β' : Bl} {G : HF} {m : Nat} {a' : Act} {w' : World} (v : Inv own β w nt ds n h.nx o s b Ts Hs (fun i => listed.getD (π i) false = true) β' G m a' w') (hall : ∀ i, i < n → listed.getD (π i) false = true) : Q .normal a' w' := by
  have hmn : ∀ x, G x = (Hs n).H.get x := by
    -- behind the cut only objects are made
    have hrest : ∀ q, m ≤ q → q ≤ n → (Hs q).nx = (Hs m).nx ∧ (∀ x, (∀ k, m ≤ k → k < q → isAl s k → x ≠ h.nx + k) → (Hs q).H.get x = (Hs m).H.get x) ∧ (∀ k, m ≤ k → k < q → ∀ r cs, (s k).k = .alloc r cs → (Hs q).H.get (h.nx + k) = some cs) := by
      intro q hq
      induction hq with
      | refl => intro _; exact ⟨rfl, fun _ _ => rfl, fun k h1 h2 => by omega⟩
      | @step q hq ih =>
        intro hqn
        have hq' : m ≤ q := hq
        have hqn' : q < n := hqn
        obtain ⟨a1, a2, a3⟩ := ih (by omega)
        have hnE : ¬ isEff s q := fun hE => by have := v.cutE q hqn' hE (hall q hqn'); omega
        by_cases hA : isAl s q
        · obtain ⟨r, cs, hr⟩ := hA
          have hH := (c.als hqn' hr).2
          refine ⟨by rw [hH]; exact a1, fun x hx => ?_, fun k h1 h2 r' cs' hr' => ?_⟩
          · rw [hH, PM.get_put_ne _ _ (hx q hq' (by omega) ⟨r, cs, hr⟩)]
            exact a2 x (fun k h1 h2 => hx k h1 (by omega))
          · by_cases hkq : k = q
            · subst hkq; rw [hr] at hr'; cases hr'; rw [hH, PM.get_put_same]
            · rw [hH, PM.get_put_ne _ _ (by omega)]; exact a3 k h1 (by omega) r' cs' hr'
        · have hH := c.stays hqn' hnE hA
          rw [hH]
          refine ⟨a1, fun x hx => a2 x (fun k h1 h2 => hx k h1 (by omega)), fun k h1 h2 r' cs' hr' => ?_⟩
          by_cases hkq : k = q
          · subst hkq; exact absurd ⟨r', cs', hr'⟩ hA
          · exact a3 k h1 (by omega) r' cs' hr'
    obtain ⟨_, a2, a3⟩ := hrest n v.mle (Nat.le_refl _)
    intro x
    by_cases hx : ∃ k, m ≤ k ∧ k < n ∧ isAl s k ∧ x = h.nx + k
    · obtain ⟨k, h1, h2, ⟨r, cs, hr⟩, rfl⟩ := hx
      rw [v.g2 k h1 h2 (hall k h2) r cs hr, a3 k h1 h2 r cs hr]
    · have hx' : ∀ k, m ≤ k → k < n → isAl s k → x ≠ h.nx + k := fun k h1 h2 h3 he => hx ⟨k, h1, h2, h3, he⟩
      rw [a2 x hx']
      by_cases hr : h.nx + m ≤ x ∧ x < h.nx + n
      · have g3 := v.g3 (x - h.nx) (by omega) (by omega) (.inr (fun hA => hx' (x - h.nx) (by omega) (by omega) hA (by omega)))
        have m0 := v.m0 (x - h.nx) (by omega) (by omega)
        rw [show h.nx + (x - h.nx) = x by omega] at g3 m0
        rw [g3, m0]
      · exact v.g1 x (by omega)
  have hnxn : (Hs n).nx = (Hs m).nx := by
    have : ∀ q, m ≤ q → q ≤ n → (Hs q).nx = (Hs m).nx := by
      intro q hq
      induction hq with
      | refl => intro _; rfl
      | @step q hq ih =>
        intro hqn
        have hqn' : q < n := hqn
        have hq' : m ≤ q := hq
        have hnE : ¬ isEff s q := fun hE => by have := v.cutE q hqn' hE (hall q hqn'); omega
        by_cases hA : isAl s q
        · obtain ⟨r, cs, hr⟩ := hA
          rw [(c.als hqn' hr).2]; exact ih (by omega)
        · rw [c.stays hqn' hnE hA]; exact ih (by omega)
    exact this n v.mle (Nat.le_refl _)
  have hGe : G = fun x => (Hs n).H.get x := funext hmn
  have hsim := v.sim
  have htm := v.tm
  have htr := v.trans
  rw [hGe] at hsim htm htr
  rw [← hnxn] at hsim
  rw [show Hs n = h' from e4] at hsim htm htr hnxn
  refine hQ β' a' w' ⟨⟨hsim.fresh, hsim.lt, hsim.ownlt, hsim.obj, hsim.inj⟩, v.sz, fun t u hu => htm t u ?_, v.df⟩ ?_
  · have hu' : (Ts n).get t = some u := by rw [show Ts n = T' from e3]; exact hu
    rcases c.text n (Nat.le_refl _) t u hu' with ⟨k, h1, h2, h3, h4, h5⟩ | ⟨h1, h2⟩
    · exact .inl ⟨k, h1, hall k h1, h3, h4, fun i' b1 _ b3 => h5 i' b1 b1 b3⟩
    · exact .inr ⟨fun i b1 _ => h1 i b1 b1, h2⟩
  · have hnx2 := hnx m v.mle
    have h0 : (fun x => (Hs 0).H.get x) = fun x => h.H.get x := by rw [e2]
    rw [h0] at htr
    refine ⟨htr.ext, v.low, by rw [hnxn]; omega, htr.size, htr.keep, htr.live, htr.shape, htr.os, htr.tape, htr.output⟩
theorem draw_next {ops : Array Oper} {π : Nat → Nat} {o : Nat → AOpr} {s : Nat → DStep} {b : Nat → Nat} {Ts : Nat → Tm} {Hs : Nat → AH} (c : DCtx P nt ops π ops.size h.nx o s b Ts Hs) (pinj : ∀ i j, π i = π j → i = j) (sur : ∀ j, j < ops.size → ∃ i, i < ops.size ∧ π i = j) {X : Nat → Nat → Prop}
    (hbef : ∀ i, i < ops.size → ∀ oo, ops[π i]? = some oo → ∀ j, Nat.testBit (b i) j = true → (∃ e ∈ oo.after, Region.binds .any e = true ∧ (e.on = π j ∨ ∃ k, k < ops.size ∧ π k = e.on ∧ Nat.testBit (b k) j = true)) ∨ X i j)
    (hnx : ∀ i, i ≤ ops.size → h.nx + ops.size ≤ (Hs i).nx) {Q : Exit → Act → World → Prop} {listed : Array Bool} {β' : Bl} {G : HF} {m : Nat} {a' : Act} {w' : World} (hsz : listed.size = ops.size)
    (v : Inv own β w nt ds ops.size h.nx o s b Ts Hs (fun i => listed.getD (π i) false = true) β' G m a' w') {i : Nat} (hi : i ∈ Region.ready .any ops listed) (htie : ∀ p j, p < ops.size → π p = i → X p j → listed.getD (π j) false = true) {K : Act → World → Prop}
    (hK : ∀ β'' G'' m'' a'' w'', Inv own β w nt ds ops.size h.nx o s b Ts Hs (fun j => (listed.setIfInBounds i true).getD (π j) false = true) β'' G'' m'' a'' w'' → K a'' w'') : wpOp P ops Q i K a' w' := by
  obtain ⟨hun, oo, hoo, hpre⟩ := mem_ready.1 hi
  have hin : i < ops.size := (Array.getElem?_eq_some_iff.1 hoo).1
  have hil : i < listed.size := by omega
  obtain ⟨p, hpn, hpi⟩ := sur i hin
  have hL : ¬ (listed.getD (π p) false = true) := by rw [hpi]; simp [hil] at hun ⊢; exact hun
  have hP : ∀ j, Nat.testBit (b p) j = true → listed.getD (π j) false = true := by
    intro j hj
    rcases hbef p hpn oo (by rw [hpi]; exact hoo) j hj with ⟨e, h1, h2, h3⟩ | hx
    · have hle := hpre e h1 h2
      rcases h3 with h3 | ⟨k, hk1, hk2, hk3⟩
      · rw [← h3]; exact hle
      · exact v.closed k hk1 (show listed.getD (π k) false = true by rw [hk2]; exact hle) j hk3
    · exact htie p j hpn hpi hx
  rw [← hpi]
  refine v.step c hnx hpn hL hP fun β'' G'' m'' a'' w'' v' => hK β'' G'' m'' a'' w'' ?_
  have heq : (fun j => j = p ∨ listed.getD (π j) false = true) = (fun j => (listed.setIfInBounds i true).getD (π j) false = true) := by
    funext j
    apply propext
    by_cases hj : π j = i
    · have hjp : j = p := pinj j p (hj.trans hpi.symm)
      simp [hil, hj, hjp, hpi]
    · have hjp : j ≠ p := fun he => hj (by rw [he, hpi])
      simp [hjp, Array.getElem?_setIfInBounds_ne (Ne.symm hj)]
  rw [heq] at v'
  exact v'
theorem draw_all {ops : Array Oper} {L : List (AOpr × Nat)} {π : Nat → Nat} (hd : DL P nt ops L π) {listed : Array Bool} (hsz : listed.size = ops.size) (hr : Region.ready .any ops listed = []) : ∀ i, i < ops.size → listed.getD (π i) false = true := by
  have least : (∃ i, i < ops.size ∧ listed.getD (π i) false = false) → ∃ i, i < ops.size ∧ listed.getD (π i) false = false ∧ ∀ j, j < i → listed.getD (π j) false = true := by
    intro ⟨i, hi, hf⟩
    induction i using Nat.strongRecOn with
    | _ i ih =>
      by_cases hex : ∃ j, j < i ∧ listed.getD (π j) false = false
      · obtain ⟨j, hj, hjf⟩ := hex
        exact ih j hj (by omega) hjf
      · refine ⟨i, hi, hf, fun j hj => ?_⟩
        cases hq : listed.getD (π j) false
        · exact absurd ⟨j, hj, hq⟩ hex
        · rfl
  intro i hi
  cases hq : listed.getD (π i) false with
  | true => rfl
  | false =>
    obtain ⟨k, hk1, hk2, hk3⟩ := least ⟨i, hi, hq⟩
    have : π k ∈ Region.ready .any ops listed := by
      rw [mem_ready]
      have hk' : π k < ops.size := hd.lt k hk1
      refine ⟨by have : π k < listed.size := (by omega); simp [this] at hk2 ⊢; exact hk2, ops[π k], by simp [hk'], fun e he hb => ?_⟩
      obtain ⟨q, hq1, hq2⟩ := hd.edge k _ (by simp [hk']) e he hb
      rw [hq2]; exact hk3 q hq1
    rw [hr] at this; cases this
theorem pinj_of {ops : Array Oper} {L : List (AOpr × Nat)} {π : Nat → Nat} (hd : DL P nt ops L π) : ∀ i j, π i = π j → i = j := by
  intro i j hij
  rcases Nat.lt_or_ge i ops.size with hi | hi <;> rcases Nat.lt_or_ge j ops.size with hj | hj
  · exact hd.inj i j hi hj hij
  · have := hd.lt i hi; rw [hij, hd.out j hj] at this; omega
  · have := hd.lt j hj; rw [← hij, hd.out i hi] at this; omega
  · rw [hd.out i hi, hd.out j hj] at hij; exact hij
theorem nx_up {ops : Array Oper} {π : Nat → Nat} {n : Nat} {o : Nat → AOpr} {s : Nat → DStep} {b : Nat → Nat} {Ts : Nat → Tm} {Hs : Nat → AH} (c : DCtx P nt ops π n h.nx o s b Ts Hs) : ∀ i, i < n → (Hs i).nx ≤ (Hs (i + 1)).nx := by
  intro i hi
  obtain ⟨cl, _, h1⟩ := c.step i hi
  rw [c.Hn i hi]
  generalize s i = t at h1
  cases h1 <;> simp only [DStep.h'] <;> first | exact Nat.le_refl _ | assumption
/-- one operation after the other, in any order that is let -/
theorem any_ind {ops : Array Oper} {Q : Exit → Act → World → Prop} {St : Array Bool → Act → World → Prop} (done : ∀ (listed : Array Bool) (a' : Act) (w' : World), listed.size = ops.size → St listed a' w' → Region.ready .any ops listed = [] → Q .normal a' w')
    (step : ∀ (listed : Array Bool) (a' : Act) (w' : World), listed.size = ops.size → St listed a' w' → ∀ i ∈ Region.ready .any ops listed, ∀ K : Act → World → Prop, (∀ a'' w'', St (listed.setIfInBounds i true) a'' w'' → K a'' w'') → wpOp P ops Q i K a' w')
    (h0 : St (Array.replicate ops.size false) a w) : wpAny P .any ops Q ops.size (Array.replicate ops.size false) a w := by
  have key : ∀ (fuel : Nat) (listed : Array Bool) (a' : Act) (w' : World), listed.size = ops.size → unl listed ≤ fuel → St listed a' w' → wpAny P .any ops Q fuel listed a' w' := by
    intro fuel
    induction fuel with
    | zero =>
      intro listed a' w' hsz hu v
      have hr : Region.ready .any ops listed = [] := by
        cases hq : Region.ready .any ops listed with
        | nil => rfl
        | cons i r =>
          exfalso
          obtain ⟨hun, oo, hoo, _⟩ := mem_ready.1 (show i ∈ Region.ready .any ops listed by rw [hq]; simp)
          have hin : i < listed.size := by rw [hsz]; exact (Array.getElem?_eq_some_iff.1 hoo).1
          have : false ∈ listed.toList.filter (! ·) := by
            rw [List.mem_filter]
            refine ⟨?_, rfl⟩
            simp [hin] at hun
            rw [← hun]; simp
          unfold unl at hu
          have hnil := List.eq_nil_of_length_eq_zero (by omega : (listed.toList.filter (! ·)).length = 0)
          rw [hnil] at this; cases this
      exact ⟨hr, done listed a' w' hsz v hr⟩
    | succ fuel ih =>
      intro listed a' w' hsz hu v
      refine ⟨done listed a' w' hsz v, fun i hi => ?_⟩
      refine step listed a' w' hsz v i hi _ fun a'' w'' v' => ih _ a'' w'' (by simp [hsz]) ?_ v'
      obtain ⟨hun, oo, hoo, _⟩ := mem_ready.1 hi
      have hin : i < listed.size := by rw [hsz]; exact (Array.getElem?_eq_some_iff.1 hoo).1
      have hfi : listed[i] = false := by simpa [hin] using hun
      have hlt : unl (listed.setIfInBounds i true) < unl listed := by
        unfold unl
        rw [Array.toList_setIfInBounds]
        have : ∀ (l : List Bool) (k : Nat), l[k]? = some false → ((l.set k true).filter (! ·)).length < (l.filter (! ·)).length := by
          intro l
          induction l with
          | nil => intro k hk; simp at hk
          | cons x l ihl =>
            intro k hk
            cases k with
            | zero => simp at hk; subst hk; simp
            | succ k => simp at hk; have := ihl k hk; cases x <;> simp <;> omega
        exact this _ i (by simp [hin, hfi])
      omega
  refine key ops.size (Array.replicate ops.size false) a w (by simp) ?_ h0
  unfold unl
  have := List.length_filter_le (! ·) (Array.replicate ops.size false).toList
  simp
theorem inv_start {ops : Array Oper} {π : Nat → Nat} {o : Nat → AOpr} {s : Nat → DStep} {b : Nat → Nat} {Ts : Nat → Tm} {Hs : Nat → AH} (c1 : DCtx P nt ops π ops.size h.nx o s b Ts Hs) (hs : Sim nt ds own β T h a w) (a1 : Ts 0 = T) (a2 : Hs 0 = ⟨h.H, h.nx + ops.size⟩) :
    Inv own β w nt ds ops.size h.nx o s b Ts Hs (fun i => (Array.replicate ops.size false).getD (π i) false = true) β (fun x => h.H.get x) 0 a { w with drawn := w.drawn + 1 } := by
  have hnL : ∀ i, (Array.replicate ops.size false).getD i false = false := by
    intro i
    by_cases hi : i < ops.size
    · simp [hi]
    · simp [hi]
  have hnL' : ∀ i, ¬ ((Array.replicate ops.size false).getD (π i) false = true) := fun i hq => by rw [hnL] at hq; cases hq
  have hp' := hs.hp
  refine ⟨⟨fun id hid => hp'.fresh id (by rw [a2] at hid; simp only at hid; omega), hp'.lt, hp'.ownlt, hp'.obj, hp'.inj⟩, hs.sz, hs.df, fun i _ hq => absurd hq (hnL' i), Nat.zero_le _, .inl rfl, fun e _ _ hq => absurd hq (hnL' e), fun x _ => by rw [a2], fun j _ _ hq => absurd hq (hnL' j), fun j _ _ _ => hp'.dead (by omega), fun j _ _ => c1.dead0 _ (by omega), fun j _ _ => hp'.fresh _ (by omega), fun id _ => rfl, fun t u hu => ?_, ?_⟩
  · rcases hu with ⟨i, _, hq, _⟩ | ⟨_, hq⟩
    · exact absurd hq (hnL' i)
    · rw [a1] at hq; exact hs.tm t u hq
  · rw [a2]
    exact ⟨fun _ _ h => h, Nat.le_refl _, fun _ _ _ => rfl, fun _ h => .inl h, fun _ cur _ fz h => ⟨cur, fz, h, rfl, fun _ => rfl⟩, rfl, rfl, rfl⟩
theorem draw_any' {ops : Array Oper} {L : List (AOpr × Nat)} {π : Nat → Nat} {T' : Tm} {h' : AH} (hmix : P.follows .mixedOrders = true) (hd : DL P nt ops L π) {ss : List DStep} (hrun : DRun P (L.map (·.1)) h.nx T ⟨h.H, h.nx + L.length⟩ ss T' h') (hpairs : ∀ (i j : Nat) (p o : AOpr) (q s : DStep) (bits bp : Nat), i < j → L[i]? = some (p, bp) → ss[i]? = some q → L[j]? = some (o, bits) → ss[j]? = some s → Nat.testBit bits i = true ∨ (tmpOk p o = true ∧ recOk q.k s.k = true)) (hs : Sim nt ds own β T h a w)
    {Q : Exit → Act → World → Prop} (hQ : ∀ β' a' w', Sim nt ds own β' T' h' a' w' → Trans own β h w β' h' w' → Q .normal a' w') : wpAny P .any ops Q ops.size (Array.replicate ops.size false) a { w with drawn := w.drawn + 1 } := by
  have hzl : L.length = ops.size := hd.len
  rw [hzl] at hrun
  obtain ⟨Ts, Hs, e1, e2, e3, e4, e5, e6⟩ := drun_spec _ _ _ _ _ _ _ hrun
  rw [List.length_map, hzl] at e3 e4 e5
  let n := ops.size
  let o : Nat → AOpr := fun i => (L.getD i default).1
  let s : Nat → DStep := fun i => ss.getD i default
  let b : Nat → Nat := fun i => (L.getD i default).2
  have hLg : ∀ i, i < n → L[i]? = some (o i, b i) := fun i hi => by simp [o, b, show i < L.length by omega]
  have ho : ∀ i, i < n → (L.map (·.1))[i]? = some (o i) := fun i hi => by rw [List.getElem?_map, hLg i hi]; rfl
  have hsg : ∀ i, i < n → ss[i]? = some (s i) := fun i hi => by simp [s, show i < ss.length by omega]
  have hLi : ∀ i x, L[i]? = some x → i < n := fun i x hx => by have := (List.getElem?_eq_some_iff.1 hx).1; omega
  have hbef : ∀ i, i < n → ∀ oo, ops[π i]? = some oo → ∀ j, Nat.testBit (b i) j = true → ∃ e ∈ oo.after, Region.binds .any e = true ∧ (e.on = π j ∨ ∃ k, k < n ∧ π k = e.on ∧ Nat.testBit (b k) j = true) := by
    intro i hi oo hoo j hb
    obtain ⟨e, h1, h2, h3⟩ := hd.bef i _ (hLg i hi) oo hoo j hb
    refine ⟨e, h1, h2, h3.imp id ?_⟩
    rintro ⟨k, y, hk, h4, h5⟩
    have hkn := hLi k y hk
    rw [hLg k hkn] at hk; cases hk
    exact ⟨k, hkn, h4, h5⟩
  have c : DCtx P nt ops π n h.nx o s b Ts Hs := by
    refine ⟨fun i hi => hd.cop i _ (hLg i hi), fun i hi => (e6 i _ _ (ho i hi) (hsg i hi)).1, fun i hi => (e6 i _ _ (ho i hi) (hsg i hi)).2.1, fun i hi => (e6 i _ _ (ho i hi) (hsg i hi)).2.2, ?_, by rw [e2]; exact Nat.le_refl _, ?_⟩
    · intro i j hij hj
      exact hpairs i j _ _ _ _ _ _ hij (hLg i (by omega)) (hsg i (by omega)) (hLg j hj) (hsg j hj)
    · intro id hid
      rw [e2]
      exact hs.hp.dead hid
  have hnx := c.nxm (nx_up c)
  refine any_ind (St := fun listed a' w' => ∃ β' G m, Inv own β w nt ds n h.nx o s b Ts Hs (fun i => listed.getD (π i) false = true) β' G m a' w') (fun listed a' w' hsz ⟨β', G, m, v⟩ hr => draw_done c e2 e3 e4 hnx hQ v (draw_all hd hsz hr)) (fun listed a' w' hsz ⟨β', G, m, v⟩ i hi K hK => ?_) ⟨β, _, 0, inv_start c hs e1 e2⟩
  exact draw_next c (pinj_of hd) hd.sur (X := fun _ _ => False) (fun i hi oo hoo j hb => .inl (hbef i hi oo hoo j hb)) hnx hsz v hi (fun _ _ _ _ hx => hx.elim) fun β'' G'' m'' a'' w'' v' => hK a'' w'' ⟨β'', G'', m'', v'⟩
/-- the edges stand among the bits -/
def DCmp (ops : Array Oper) (L : List (AOpr × Nat)) (π : Nat → Nat) : Prop := ∀ i x, L[i]? = some x → ∀ oo, ops[π i]? = some oo → ∀ e ∈ oo.after, Region.binds .any e = true → ∃ k, e.on = π k ∧ Nat.testBit x.2 k = true
theorem drun_ext {o1 o2 : Nat → AOpr} {s1 s2 : Nat → DStep} {Ts1 Ts2 : Nat → Tm} {Hs1 Hs2 : Nat → AH} {N : Nat} (hT : Ts1 0 = Ts2 0) (hH : Hs1 0 = Hs2 0) (ho : ∀ i, i < N → o1 i = o2 i) (hs : ∀ i, i < N → s1 i = s2 i)
    (h1 : ∀ i, i < N → Ts1 (i + 1) = tput (Ts1 i) (o1 i).dst (s1 i).v ∧ Hs1 (i + 1) = (s1 i).h') (h2 : ∀ i, i < N → Ts2 (i + 1) = tput (Ts2 i) (o2 i).dst (s2 i).v ∧ Hs2 (i + 1) = (s2 i).h') : ∀ i, i ≤ N → Ts1 i = Ts2 i ∧ Hs1 i = Hs2 i
  | 0, _ => ⟨hT, hH⟩
  | i + 1, hi => by
    obtain ⟨a1, a2⟩ := h1 i (by omega)
    obtain ⟨b1, b2⟩ := h2 i (by omega)
    have ih := drun_ext hT hH ho hs h1 h2 i (by omega)
    rw [a1, a2, b1, b2, ho i (by omega), hs i (by omega), ih.1]
    exact ⟨rfl, rfl⟩
def sw (N : Nat) (π : Nat → Nat) (i : Nat) : Nat := if i = N then π (N + 1) else if i = N + 1 then π N else π i
theorem draw_two {ops : Array Oper} {R : List (AOpr × Nat)} {x y : AOpr × Nat} {π : Nat → Nat} (hd : DL P nt ops (R ++ [x, y]) π) (hc : DCmp ops (R ++ [x, y]) π) (hlow : ∀ z ∈ R ++ [x, y], ∀ j, Nat.testBit z.2 j = true → j < R.length)
    {sr t1 t2 : List DStep} {T1 T2 : Tm} {h1 h2 : AH} (hl1 : t1.length = 2) (hl2 : t2.length = 2) (hsr : sr.length = R.length)
    (hrun1 : DRun P ((R ++ [x, y]).map (·.1)) h.nx T ⟨h.H, h.nx + ops.size⟩ (sr ++ t1) T1 h1) (hrun2 : DRun P ((R ++ [y, x]).map (·.1)) h.nx T ⟨h.H, h.nx + ops.size⟩ (sr ++ t2) T2 h2)
    (hp1 : ∀ (i j : Nat) (p o : AOpr) (q s : DStep) (bits bp : Nat), i < j → (R ++ [x, (y.1, y.2 ||| 2 ^ R.length)])[i]? = some (p, bp) → (sr ++ t1)[i]? = some q → (R ++ [x, (y.1, y.2 ||| 2 ^ R.length)])[j]? = some (o, bits) → (sr ++ t1)[j]? = some s → Nat.testBit bits i = true ∨ (tmpOk p o = true ∧ recOk q.k s.k = true))
    (hp2 : ∀ (i j : Nat) (p o : AOpr) (q s : DStep) (bits bp : Nat), i < j → (R ++ [y, (x.1, x.2 ||| 2 ^ R.length)])[i]? = some (p, bp) → (sr ++ t2)[i]? = some q → (R ++ [y, (x.1, x.2 ||| 2 ^ R.length)])[j]? = some (o, bits) → (sr ++ t2)[j]? = some s → Nat.testBit bits i = true ∨ (tmpOk p o = true ∧ recOk q.k s.k = true))
    (hs : Sim nt ds own β T h a w) {Q : Exit → Act → World → Prop} (hQ1 : ∀ β' a' w', Sim nt ds own β' T1 h1 a' w' → Trans own β h w β' h1 w' → Q .normal a' w') (hQ2 : ∀ β' a' w', Sim nt ds own β' T2 h2 a' w' → Trans own β h w β' h2 w' → Q .normal a' w') :
    wpAny P .any ops Q ops.size (Array.replicate ops.size false) a { w with drawn := w.drawn + 1 } := by
  have hzl : R.length + 2 = ops.size := by have := hd.len; simp at this; omega
  obtain ⟨N, hN⟩ : ∃ N, N = R.length := ⟨_, rfl⟩
  have hn : ops.size = N + 2 := by omega
  obtain ⟨Ts1, Hs1, a1, a2, a3, a4, a5, a6⟩ := drun_spec _ _ _ _ _ _ _ hrun1
  obtain ⟨Ts2, Hs2, b1, b2, b3, b4, b5, b6⟩ := drun_spec _ _ _ _ _ _ _ hrun2
  have hlen1 : ((R ++ [x, y]).map (·.1)).length = ops.size := by simp; omega
  have hlen2 : ((R ++ [y, x]).map (·.1)).length = ops.size := by simp; omega
  rw [hlen1] at a3 a4 a5
  rw [hlen2] at b3 b4 b5
  obtain ⟨L1, hL1⟩ : ∃ L1, L1 = R ++ [x, (y.1, y.2 ||| 2 ^ R.length)] := ⟨_, rfl⟩
  obtain ⟨L2, hL2⟩ : ∃ L2, L2 = R ++ [y, (x.1, x.2 ||| 2 ^ R.length)] := ⟨_, rfl⟩
  have hm1 : (R ++ [x, y]).map (·.1) = L1.map (·.1) := by rw [hL1]; simp
  have hm2 : (R ++ [y, x]).map (·.1) = L2.map (·.1) := by rw [hL2]; simp
  rw [hm1] at a6
  rw [hm2] at b6
  rw [← hL1] at hp1
  rw [← hL2] at hp2
  have hl1' : L1.length = ops.size := by rw [hL1]; simp; omega
  have hl2' : L2.length = ops.size := by rw [hL2]; simp; omega
  let o1 : Nat → AOpr := fun i => (L1.getD i default).1
  let s1 : Nat → DStep := fun i => (sr ++ t1).getD i default
  let bb1 : Nat → Nat := fun i => (L1.getD i default).2
  let o2 : Nat → AOpr := fun i => (L2.getD i default).1
  let s2 : Nat → DStep := fun i => (sr ++ t2).getD i default
  let bb2 : Nat → Nat := fun i => (L2.getD i default).2
  have g1 : ∀ i, i < ops.size → L1[i]? = some (o1 i, bb1 i) := fun i hi => by simp [o1, bb1, show i < L1.length by omega]
  have g2 : ∀ i, i < ops.size → L2[i]? = some (o2 i, bb2 i) := fun i hi => by simp [o2, bb2, show i < L2.length by omega]
  have q1 : ∀ i, i < ops.size → (L1.map (·.1))[i]? = some (o1 i) := fun i hi => by rw [List.getElem?_map, g1 i hi]; rfl
  have q2 : ∀ i, i < ops.size → (L2.map (·.1))[i]? = some (o2 i) := fun i hi => by rw [List.getElem?_map, g2 i hi]; rfl
  have r1 : ∀ i, i < ops.size → (sr ++ t1)[i]? = some (s1 i) := fun i hi => by simp only [s1, List.getD_eq_getElem?_getD]; rw [List.getElem?_eq_getElem (by omega)]; rfl
  have r2 : ∀ i, i < ops.size → (sr ++ t2)[i]? = some (s2 i) := fun i hi => by simp only [s2, List.getD_eq_getElem?_getD]; rw [List.getElem?_eq_getElem (by omega)]; rfl
  have i1 : ∀ i, i < N → L1[i]? = R[i]? := fun i hi => by rw [hL1, List.getElem?_append_left (by omega)]
  have i2 : ∀ i, i < N → L2[i]? = R[i]? := fun i hi => by rw [hL2, List.getElem?_append_left (by omega)]
  have j1 : L1[N]? = some x := by rw [hL1, List.getElem?_append_right (by omega), hN]; simp
  have k1 : L1[N + 1]? = some (y.1, y.2 ||| 2 ^ R.length) := by rw [hL1, List.getElem?_append_right (by omega), show N + 1 - R.length = 1 by omega]; rfl
  have j2 : L2[N]? = some y := by rw [hL2, List.getElem?_append_right (by omega), hN]; simp
  have k2 : L2[N + 1]? = some (x.1, x.2 ||| 2 ^ R.length) := by rw [hL2, List.getElem?_append_right (by omega), show N + 1 - R.length = 1 by omega]; rfl
  have i0 : ∀ i, i < N → (R ++ [x, y])[i]? = R[i]? := fun i hi => by rw [List.getElem?_append_left (by omega)]
  have j0 : (R ++ [x, y])[N]? = some x := by rw [List.getElem?_append_right (by omega), hN]; simp
  have k0 : (R ++ [x, y])[N + 1]? = some y := by rw [List.getElem?_append_right (by omega), show N + 1 - R.length = 1 by omega]; rfl
  have pinj := pinj_of hd
  have swN : sw N π N = π (N + 1) := if_pos rfl
  have swN1 : sw N π (N + 1) = π N := by unfold sw; rw [if_neg (by omega), if_pos rfl]
  have swi : ∀ i, i ≠ N → i ≠ N + 1 → sw N π i = π i := fun i h1 h2 => by unfold sw; rw [if_neg h1, if_neg h2]
  have pinj2 : ∀ i j, sw N π i = sw N π j → i = j := by
    intro i j hij
    have key : ∀ i, sw N π i = π (if i = N then N + 1 else if i = N + 1 then N else i) := fun i => by
      unfold sw
      by_cases h1 : i = N
      · simp [h1]
      · by_cases h2 : i = N + 1
        · simp [h2]
        · simp [h1, h2]
    rw [key, key] at hij
    have := pinj _ _ hij
    split at this <;> split at this <;> (try split at this) <;> (try split at this) <;> omega
  have sur2 : ∀ j, j < ops.size → ∃ i, i < ops.size ∧ sw N π i = j := by
    intro j hj
    obtain ⟨i, hi, hij⟩ := hd.sur j hj
    by_cases h1 : i = N
    · subst h1; exact ⟨i + 1, by omega, by rw [swN1]; exact hij⟩
    · by_cases h2 : i = N + 1
      · subst h2; exact ⟨N, by omega, by rw [swN]; exact hij⟩
      · exact ⟨i, hi, by rw [swi i h1 h2]; exact hij⟩
  have lowR : ∀ (i : Nat) (z : AOpr × Nat), (R ++ [x, y])[i]? = some z → ∀ j, Nat.testBit z.2 j = true → j < N := fun i z hz j hj => by rw [hN]; exact hlow z (List.mem_of_getElem? hz) j hj
  -- what an edge leads to
  have befL : ∀ (i : Nat) (z : AOpr × Nat), (R ++ [x, y])[i]? = some z → ∀ oo, ops[π i]? = some oo → ∀ j, Nat.testBit z.2 j = true → ∃ e ∈ oo.after, Region.binds .any e = true ∧ (e.on = π j ∨ ∃ k u, k < N ∧ R[k]? = some u ∧ π k = e.on ∧ Nat.testBit u.2 j = true) := by
    intro i z hz oo hoo j hj
    obtain ⟨e, h1, h2, h3⟩ := hd.bef i z hz oo hoo j hj
    refine ⟨e, h1, h2, h3.imp id ?_⟩
    rintro ⟨k, u, hk1, hk2, hk3⟩
    obtain ⟨k', hk4, hk5⟩ := hc i z hz oo hoo e h1 h2
    have hkk : k = k' := pinj _ _ (by rw [hk2, hk4])
    subst hkk
    have hkN := lowR i z hz k hk5
    rw [i0 k hkN] at hk1
    exact ⟨k, u, hkN, hk1, hk2, hk3⟩
  have b1eq : ∀ k u, k < N → R[k]? = some u → bb1 k = u.2 := fun k u hk hu => by
    have := g1 k (by omega); rw [i1 k hk, hu] at this; exact (congrArg Prod.snd (Option.some.inj this)).symm
  have b2eq : ∀ k u, k < N → R[k]? = some u → bb2 k = u.2 := fun k u hk hu => by
    have := g2 k (by omega); rw [i2 k hk, hu] at this; exact (congrArg Prod.snd (Option.some.inj this)).symm
  have hbef1 : ∀ i, i < ops.size → ∀ oo, ops[π i]? = some oo → ∀ j, Nat.testBit (bb1 i) j = true → (∃ e ∈ oo.after, Region.binds .any e = true ∧ (e.on = π j ∨ ∃ k, k < ops.size ∧ π k = e.on ∧ Nat.testBit (bb1 k) j = true)) ∨ (i = N + 1 ∧ j = N) := by
    intro i hi oo hoo j hj
    have fin : ∀ z, (R ++ [x, y])[i]? = some z → Nat.testBit z.2 j = true → (∃ e ∈ oo.after, Region.binds .any e = true ∧ (e.on = π j ∨ ∃ k, k < ops.size ∧ π k = e.on ∧ Nat.testBit (bb1 k) j = true)) := by
      intro z hz hzj
      obtain ⟨e, h1, h2, h3⟩ := befL i z hz oo hoo j hzj
      refine ⟨e, h1, h2, h3.imp id ?_⟩
      rintro ⟨k, u, hk1, hk2, hk3, hk4⟩
      exact ⟨k, by omega, hk3, by rw [b1eq k u hk1 hk2]; exact hk4⟩
    by_cases c1 : i < N
    · left
      have hg := g1 i hi
      rw [i1 i c1, ← i0 i c1] at hg
      exact fin _ hg hj
    · by_cases c2 : i = N
      · subst c2
        left
        have hg := g1 i hi
        rw [j1, ← j0] at hg
        exact fin _ hg hj
      · have c3 : i = N + 1 := by omega
        subst c3
        have hg := g1 (N + 1) hi
        rw [k1] at hg
        have hb : bb1 (N + 1) = y.2 ||| 2 ^ R.length := (congrArg Prod.snd (Option.some.inj hg)).symm
        rw [hb, Nat.testBit_or, Nat.testBit_two_pow, Bool.or_eq_true, decide_eq_true_eq] at hj
        rcases hj with hj | hj
        · exact .inl (fin y k0 hj)
        · exact .inr ⟨rfl, by omega⟩
  have hbef2 : ∀ i, i < ops.size → ∀ oo, ops[sw N π i]? = some oo → ∀ j, Nat.testBit (bb2 i) j = true → (∃ e ∈ oo.after, Region.binds .any e = true ∧ (e.on = sw N π j ∨ ∃ k, k < ops.size ∧ sw N π k = e.on ∧ Nat.testBit (bb2 k) j = true)) ∨ (i = N + 1 ∧ j = N) := by
    intro i hi oo hoo j hj
    have fin : ∀ q z, (R ++ [x, y])[q]? = some z → ops[π q]? = some oo → Nat.testBit z.2 j = true → (∃ e ∈ oo.after, Region.binds .any e = true ∧ (e.on = sw N π j ∨ ∃ k, k < ops.size ∧ sw N π k = e.on ∧ Nat.testBit (bb2 k) j = true)) := by
      intro q z hz hoo hzj
      have hjN := lowR q z hz j hzj
      obtain ⟨e, h1, h2, h3⟩ := befL q z hz oo hoo j hzj
      refine ⟨e, h1, h2, ?_⟩
      rcases h3 with h3 | ⟨k, u, hk1, hk2, hk3, hk4⟩
      · left; rw [swi j (by omega) (by omega)]; exact h3
      · right; exact ⟨k, by omega, by rw [swi k (by omega) (by omega)]; exact hk3, by rw [b2eq k u hk1 hk2]; exact hk4⟩
    by_cases c1 : i < N
    · left
      have hg := g2 i hi
      rw [i2 i c1, ← i0 i c1] at hg
      rw [swi i (by omega) (by omega)] at hoo
      exact fin i _ hg hoo hj
    · by_cases c2 : i = N
      · subst c2
        left
        have hg := g2 i hi
        rw [j2, ← k0] at hg
        rw [swN] at hoo
        exact fin (i + 1) _ hg hoo hj
      · have c3 : i = N + 1 := by omega
        subst c3
        have hg := g2 (N + 1) hi
        rw [k2] at hg
        have hb : bb2 (N + 1) = x.2 ||| 2 ^ R.length := (congrArg Prod.snd (Option.some.inj hg)).symm
        rw [hb, Nat.testBit_or, Nat.testBit_two_pow, Bool.or_eq_true, decide_eq_true_eq] at hj
        rw [swN1] at hoo
        rcases hj with hj | hj
        · exact .inl (fin N x j0 hoo hj)
        · exact .inr ⟨rfl, by omega⟩
  have c1 : DCtx P nt ops π ops.size h.nx o1 s1 bb1 Ts1 Hs1 := by
    refine ⟨fun i hi => ?_, fun i hi => (a6 i _ _ (q1 i hi) (r1 i hi)).1, fun i hi => (a6 i _ _ (q1 i hi) (r1 i hi)).2.1, fun i hi => (a6 i _ _ (q1 i hi) (r1 i hi)).2.2, ?_, by rw [a2]; exact Nat.le_refl _, ?_⟩
    · have : ∃ z, (R ++ [x, y])[i]? = some z ∧ z.1 = o1 i := by
        have hq := q1 i hi
        rw [← hm1, List.getElem?_map] at hq
        cases hz : (R ++ [x, y])[i]? with
        | none => rw [hz] at hq; cases hq
        | some z => rw [hz] at hq; exact ⟨z, rfl, Option.some.inj hq⟩
      obtain ⟨z, hz, hz2⟩ := this
      rw [← hz2]
      exact hd.cop i z hz
    · intro i j hij hj
      exact hp1 i j _ _ _ _ _ _ hij (g1 i (by omega)) (r1 i (by omega)) (g1 j hj) (r1 j hj)
    · intro id hid
      rw [a2]
      exact hs.hp.dead hid
  have c2 : DCtx P nt ops (sw N π) ops.size h.nx o2 s2 bb2 Ts2 Hs2 := by
    refine ⟨fun i hi => ?_, fun i hi => (b6 i _ _ (q2 i hi) (r2 i hi)).1, fun i hi => (b6 i _ _ (q2 i hi) (r2 i hi)).2.1, fun i hi => (b6 i _ _ (q2 i hi) (r2 i hi)).2.2, ?_, by rw [b2]; exact Nat.le_refl _, ?_⟩
    · have hg := g2 i hi
      by_cases d1 : i < N
      · rw [i2 i d1, ← i0 i d1] at hg
        rw [swi i (by omega) (by omega)]
        exact hd.cop i _ hg
      · by_cases d2 : i = N
        · subst d2
          rw [j2, ← k0] at hg
          rw [swN]
          exact hd.cop (i + 1) _ hg
        · have d3 : i = N + 1 := by omega
          subst d3
          rw [k2] at hg
          rw [swN1]
          have : o2 (N + 1) = x.1 := (congrArg Prod.fst (Option.some.inj hg)).symm
          rw [this]
          exact hd.cop N x j0
    · intro i j hij hj
      exact hp2 i j _ _ _ _ _ _ hij (g2 i (by omega)) (r2 i (by omega)) (g2 j hj) (r2 j hj)
    · intro id hid
      rw [b2]
      exact hs.hp.dead hid
  have hnx1 := c1.nxm (nx_up c1)
  have hnx2 := c2.nxm (nx_up c2)
  -- up to there both are the same
  have eo : ∀ i, i < N → o1 i = o2 i := fun i hi => by
    have h1 := g1 i (by omega); have h2 := g2 i (by omega)
    rw [i1 i hi] at h1; rw [i2 i hi, h1] at h2; exact congrArg Prod.fst (Option.some.inj h2)
  have eb : ∀ i, i < N → bb1 i = bb2 i := fun i hi => by
    have h1 := g1 i (by omega); have h2 := g2 i (by omega)
    rw [i1 i hi] at h1; rw [i2 i hi, h1] at h2
    have := congrArg Prod.snd (Option.some.inj h2)
    exact this
  have es : ∀ i, i < N → s1 i = s2 i := fun i hi => by
    simp only [s1, s2, List.getD_eq_getElem?_getD]
    rw [List.getElem?_append_left (by omega), List.getElem?_append_left (by omega)]
  have eTH := drun_ext (N := N) (a1.trans b1.symm) (a2.trans b2.symm) eo es (fun i hi => ⟨c1.Tn i (by omega), c1.Hn i (by omega)⟩) (fun i hi => ⟨c2.Tn i (by omega), c2.Hn i (by omega)⟩)
  have conv : ∀ (listed : Array Bool) (β' : Bl) (G : HF) (m : Nat) (a' : Act) (w' : World), listed.getD (π N) false = false → listed.getD (π (N + 1)) false = false → Inv own β w nt ds ops.size h.nx o1 s1 bb1 Ts1 Hs1 (fun i => listed.getD (π i) false = true) β' G m a' w' →
      Inv own β w nt ds ops.size h.nx o2 s2 bb2 Ts2 Hs2 (fun i => listed.getD (sw N π i) false = true) β' G m a' w' := by
    intro listed β' G m a' w' hf0 hf1 v
    have hL : (fun i => listed.getD (sw N π i) false = true) = fun i => listed.getD (π i) false = true := by
      funext i
      by_cases h1 : i = N
      · subst h1; rw [swN, hf0, hf1]
      · by_cases h2 : i = N + 1
        · subst h2; rw [swN1, hf0, hf1]
        · rw [swi i h1 h2]
    rw [hL]
    have hlt : ∀ i, i < ops.size → listed.getD (π i) false = true → i < N := by
      intro i hi hl
      by_cases h1 : i = N
      · subst h1; rw [hf0] at hl; cases hl
      · by_cases h2 : i = N + 1
        · subst h2; rw [hf1] at hl; cases hl
        · omega
    have hmN : m ≤ N := by
      rcases v.cut with rfl | ⟨e, rfl, he, _⟩
      · omega
      · have := hlt e (by have := v.mle; omega) he; omega
    have eH : Hs1 m = Hs2 m := (eTH m hmN).2
    have eE : ∀ i, i < N → (isEff s1 i ↔ isEff s2 i) := fun i hi => by unfold isEff; rw [es i hi]
    have eA : ∀ i, i < N → (isAl s1 i ↔ isAl s2 i) := fun i hi => by unfold isAl; rw [es i hi]
    refine ⟨by rw [← eH]; exact v.sim, v.sz, v.df, fun i hi hl j hj => v.closed i hi hl j (by rw [eb i (hlt i hi hl)]; exact hj), v.mle, ?_, fun e he hE hl => v.cutE e he ((eE e (hlt e he hl)).2 hE) hl, fun x hx => by rw [← eH]; exact v.g1 x hx,
      fun j h1 h2 hl r cs hr => v.g2 j h1 h2 hl r cs (by rw [es j (hlt j h2 hl)]; exact hr), fun j h1 h2 h3 => v.g3 j h1 h2 ?_, fun j h1 h2 => by rw [← eH]; exact v.m0 j h1 h2, fun j h1 h2 => v.resv j h1 ?_, v.low, fun t u hu => v.tm t u ?_, by rw [← (eTH 0 (Nat.zero_le _)).2]; exact v.trans⟩
    · rcases v.cut with rfl | ⟨e, rfl, he, hE⟩
      · exact .inl rfl
      · exact .inr ⟨e, rfl, he, (eE e (by omega)).1 hE⟩
    · by_cases hjN : j < N
      · exact h3.imp id fun h hA => h ((eA j hjN).1 hA)
      · left
        intro hl
        have := hlt j h2 hl
        omega
    · by_cases hjN : j < N
      · exact h2.imp id fun h hA => h ((eA j hjN).1 hA)
      · left
        intro hl
        have := hlt j h1 hl
        omega
    · rcases hu with ⟨i, d1, d2, d3, d4, d5⟩ | ⟨d1, d2⟩
      · have hi := hlt i d1 d2
        exact .inl ⟨i, d1, d2, by rw [eo i hi]; exact d3, by rw [es i hi]; exact d4, fun i' f1 f2 f3 => d5 i' f1 f2 (by rw [← eo i' (hlt i' f1 f2)]; exact f3)⟩
      · exact .inr ⟨fun i f1 f2 f3 => d1 i f1 f2 (by rw [← eo i (hlt i f1 f2)]; exact f3), by rw [(eTH 0 (Nat.zero_le _)).1]; exact d2⟩
  let St : Array Bool → Act → World → Prop := fun listed a' w' =>
    (listed.getD (π N) false = false ∧ listed.getD (π (N + 1)) false = false ∧ ∃ β' G m, Inv own β w nt ds ops.size h.nx o1 s1 bb1 Ts1 Hs1 (fun i => listed.getD (π i) false = true) β' G m a' w') ∨
    (listed.getD (π N) false = true ∧ ∃ β' G m, Inv own β w nt ds ops.size h.nx o1 s1 bb1 Ts1 Hs1 (fun i => listed.getD (π i) false = true) β' G m a' w') ∨
    (listed.getD (π (N + 1)) false = true ∧ ∃ β' G m, Inv own β w nt ds ops.size h.nx o2 s2 bb2 Ts2 Hs2 (fun i => listed.getD (sw N π i) false = true) β' G m a' w')
  have done : ∀ (listed : Array Bool) (a' : Act) (w' : World), listed.size = ops.size → St listed a' w' → Region.ready .any ops listed = [] → Q .normal a' w' := by
    intro listed a' w' hsz hst hr
    have hall := draw_all hd hsz hr
    rcases hst with ⟨hf, _⟩ | ⟨_, β', G, m, v⟩ | ⟨_, β', G, m, v⟩
    · rw [hall N (by omega)] at hf; cases hf
    · exact draw_done c1 a2 a3 a4 hnx1 hQ1 v hall
    · refine draw_done c2 b2 b3 b4 hnx2 hQ2 v fun i hi => ?_
      by_cases d1 : i = N
      · subst d1; rw [swN]; exact hall _ (by omega)
      · by_cases d2 : i = N + 1
        · subst d2; rw [swN1]; exact hall _ (by omega)
        · rw [swi i d1 d2]; exact hall i hi
  have setg : ∀ (listed : Array Bool) (i j : Nat), listed.size = ops.size → i < ops.size → (listed.setIfInBounds i true).getD j false = if j = i then true else listed.getD j false := by
    intro listed i j hsz hi
    by_cases hj : j = i
    · subst hj; simp [show j < listed.size by omega]
    · rw [if_neg hj]; simp [Array.getElem?_setIfInBounds_ne (Ne.symm hj)]
  have step : ∀ (listed : Array Bool) (a' : Act) (w' : World), listed.size = ops.size → St listed a' w' → ∀ i ∈ Region.ready .any ops listed, ∀ K : Act → World → Prop, (∀ a'' w'', St (listed.setIfInBounds i true) a'' w'' → K a'' w'') → wpOp P ops Q i K a' w' := by
    intro listed a' w' hsz hst i hi K hK
    obtain ⟨hun, oo, hoo, _⟩ := mem_ready.1 hi
    have hin : i < ops.size := (Array.getElem?_eq_some_iff.1 hoo).1
    obtain ⟨p, hp, hpi⟩ := hd.sur i hin
    rcases hst with ⟨hf0, hf1, β', G, m, v⟩ | ⟨ht, β', G, m, v⟩ | ⟨ht, β', G, m, v⟩
    · by_cases d1 : p = N + 1
      · subst d1
        refine draw_next c2 pinj2 sur2 hbef2 hnx2 hsz (conv listed β' G m a' w' hf0 hf1 v) hi (fun p' j _ hp' hx => ?_) fun β'' G'' m'' a'' w'' v' => hK a'' w'' (.inr (.inr ⟨?_, β'', G'', m'', v'⟩))
        · obtain ⟨rfl, _⟩ := hx
          rw [swN1, ← hpi] at hp'
          have := pinj _ _ hp'
          omega
        · rw [setg listed i _ hsz hin, if_pos hpi]
      · by_cases d2 : p = N
        · subst d2
          refine draw_next c1 pinj hd.sur hbef1 hnx1 hsz v hi (fun p' j _ hp' hx => ?_) fun β'' G'' m'' a'' w'' v' => hK a'' w'' (.inr (.inl ⟨?_, β'', G'', m'', v'⟩))
          · obtain ⟨rfl, _⟩ := hx
            rw [← hpi] at hp'
            have := pinj _ _ hp'
            omega
          · rw [setg listed i _ hsz hin, if_pos hpi]
        · refine draw_next c1 pinj hd.sur hbef1 hnx1 hsz v hi (fun p' j _ hp' hx => ?_) fun β'' G'' m'' a'' w'' v' => hK a'' w'' (.inl ⟨?_, ?_, β'', G'', m'', v'⟩)
          · obtain ⟨rfl, _⟩ := hx
            rw [← hpi] at hp'
            exact absurd (pinj _ _ hp').symm d1
          · rw [setg listed i _ hsz hin, if_neg (fun he => d2 (pinj _ _ (hpi.trans he.symm)))]; exact hf0
          · rw [setg listed i _ hsz hin, if_neg (fun he => d1 (pinj _ _ (hpi.trans he.symm)))]; exact hf1
    · refine draw_next c1 pinj hd.sur hbef1 hnx1 hsz v hi (fun p' j _ hp' hx => ?_) fun β'' G'' m'' a'' w'' v' => hK a'' w'' (.inr (.inl ⟨?_, β'', G'', m'', v'⟩))
      · obtain ⟨_, rfl⟩ := hx; exact ht
      · rw [setg listed i _ hsz hin]; split
        · rfl
        · exact ht
    · refine draw_next c2 pinj2 sur2 hbef2 hnx2 hsz v hi (fun p' j _ hp' hx => ?_) fun β'' G'' m'' a'' w'' v' => hK a'' w'' (.inr (.inr ⟨?_, β'', G'', m'', v'⟩))
      · obtain ⟨_, rfl⟩ := hx; rw [swN]; exact ht
      · rw [setg listed i _ hsz hin]; split
        · rfl
        · exact ht
  have hnL : ∀ i, (Array.replicate ops.size false).getD i false = false := by
    intro i
    by_cases hi : i < ops.size
    · simp [hi]
    · simp [hi]
  exact any_ind done step (.inl ⟨hnL _, hnL _, β, _, 0, inv_start c1 hs a1 a2⟩)
end
section
variable {P : Program} {nt : Nat} {ds : List Deferred} {own : Nat → Prop} {β : Bl} {T : Tm} {h : AH} {a : Act} {w : World}
/-- The text's order. -/
theorem dl_id {ops : Array Oper} {al : List AOpr} (hed : edgesOk ops = true) (hc : cOprs P nt ops ops.toList = some al) : DL P nt ops (al.zip (Region.before ops).toList) id := by
  obtain ⟨hal, hcop⟩ := cOprs_spec _ _ hc
  have hal' : al.length = ops.size := by simpa using hal
  have hbs : (Region.before ops).toList.length = ops.size := by rw [Array.length_toList, before_eq, befFold_size]; simp
  have hbs' : (Region.before ops).size = ops.size := by simpa using hbs
  have hzl : (al.zip (Region.before ops).toList).length = ops.size := by simp [hal'] at hbs ⊢; omega
  have hedge : ∀ i oo, ops[i]? = some oo → ∀ e ∈ oo.after, Region.binds .any e = true → e.on < i := by
    intro i oo hoo e he hb
    have := edgesFrom_spec ops.toList 0 hed i oo (by simpa using hoo) e he hb
    omega
  refine ⟨hzl, fun i hi => hi, fun _ _ => rfl, fun _ _ _ _ h => h, fun j hj => ⟨j, hj, rfl⟩, fun i x hx => ?_, fun i x hx oo hoo j hb => ?_, fun i oo hoo e he hb => ⟨e.on, hedge i oo hoo e he hb, rfl⟩⟩
  · rw [List.getElem?_zip_eq_some] at hx
    have hi : i < ops.size := by have := (List.getElem?_eq_some_iff.1 hx.1).1; omega
    exact ⟨ops[i], by simp [hi], hcop i _ _ (by simp [hi]) hx.1⟩
  · rw [List.getElem?_zip_eq_some] at hx
    have hi : i < ops.size := by have := (List.getElem?_eq_some_iff.1 hx.1).1; omega
    have hxb : (Region.before ops).getD i 0 = x.2 := by
      have := hx.2
      simp at this
      simp [this]
    have hb' : Nat.testBit ((ops.toList.foldl befStep #[]).getD ((#[] : Array Nat).size + i) 0) j = true := by
      rw [← before_eq]; simpa [hxb] using hb
    obtain ⟨e, h1, h2, h3⟩ := befFold_spec ops.toList #[] i oo (by simpa using hoo) j hb'
    refine ⟨e, h1, h2, h3.imp id fun h4 => ?_⟩
    rw [← before_eq] at h4
    have hei := hedge i oo hoo e h1 h2
    refine ⟨e.on, (al[e.on]'(by omega), (Region.before ops)[e.on]'(by omega)), ?_, rfl, ?_⟩
    · rw [List.getElem?_zip_eq_some]
      simp [show e.on < al.length by omega, show e.on < (Region.before ops).size by omega]
    · simpa [show e.on < (Region.before ops).size by omega] using h4

theorem edgeFold_mono (acc : Array Nat) (j : Nat) : ∀ (l : List Edge) (s0 : Nat), Nat.testBit s0 j = true → Nat.testBit (l.foldl (fun s e => if Region.binds .any e then s ||| 2 ^ e.on ||| acc.getD e.on 0 else s) s0) j = true
  | [], s0, h => h
  | e :: l, s0, h => by
    simp only [List.foldl_cons]
    refine edgeFold_mono acc j l _ ?_
    split
    · simp [Nat.testBit_or, h]
    · exact h
theorem edgeFold_mem (acc : Array Nat) : ∀ (l : List Edge) (s0 : Nat) (e : Edge), e ∈ l → Region.binds .any e = true → Nat.testBit (l.foldl (fun s e => if Region.binds .any e then s ||| 2 ^ e.on ||| acc.getD e.on 0 else s) s0) e.on = true
  | [], s0, e, h, hb => by cases h
  | e0 :: l, s0, e, h, hb => by
    simp only [List.foldl_cons]
    rcases List.mem_cons.1 h with rfl | h
    · refine edgeFold_mono acc _ l _ ?_
      rw [if_pos hb]
      simp [Nat.testBit_or, Nat.testBit_two_pow]
    · exact edgeFold_mem acc l _ e h hb
theorem befFold_mem : ∀ (l : List Oper) (acc : Array Nat) (i : Nat) (o : Oper), l[i]? = some o → ∀ e ∈ o.after, Region.binds .any e = true → Nat.testBit ((l.foldl befStep acc).getD (acc.size + i) 0) e.on = true
  | [], acc, i, o, ho => by simp at ho
  | o0 :: l, acc, i, o, ho => by
    intro e he hb
    simp only [List.foldl_cons]
    cases i with
    | zero =>
      simp at ho; subst ho
      have hsz : acc.size < (befStep acc o0).size := by simp [befStep]
      rw [Nat.add_zero, befFold_old l _ _ hsz]
      have h0 : (befStep acc o0).getD acc.size 0 = o0.after.foldl (fun s e => if Region.binds .any e then s ||| 2 ^ e.on ||| acc.getD e.on 0 else s) 0 := by simp [befStep]
      rw [h0, ← Array.foldl_toList]
      exact edgeFold_mem acc _ 0 e (by simpa using he) hb
    | succ i =>
      simp at ho
      have := befFold_mem l (befStep acc o0) i o ho e he hb
      rwa [show (befStep acc o0).size + i = acc.size + (i + 1) by simp [befStep]; omega] at this

theorem pbits_spec (p : List Nat) (bits : Nat) (j : Nat) : ∀ (l : List Nat) (s : Nat), Nat.testBit (pbits p bits l s) j = true ↔ (Nat.testBit s j = true ∨ (j ∈ l ∧ Nat.testBit bits (p.getD j 0) = true))
  | [], s => by simp [pbits]
  | k :: l, s => by
    unfold pbits
    rw [pbits_spec p bits j l]
    cases hb : Nat.testBit bits (p.getD k 0) with
    | true =>
      simp only [cond_true, Nat.testBit_or, Nat.testBit_two_pow, Bool.or_eq_true, decide_eq_true_eq, List.mem_cons]
      constructor
      · rintro ((h | h) | h)
        · exact .inl h
        · subst h; exact .inr ⟨.inl rfl, hb⟩
        · exact .inr ⟨.inr h.1, h.2⟩
      · rintro (h | ⟨h | h, h2⟩)
        · exact .inl (.inl h)
        · exact .inl (.inr h.symm)
        · exact .inr ⟨h, h2⟩
    | false =>
      simp only [cond_false, List.mem_cons]
      constructor
      · rintro (h | h)
        · exact .inl h
        · exact .inr ⟨.inr h.1, h.2⟩
      · rintro (h | ⟨h | h, h2⟩)
        · exact .inl h
        · subst h; rw [hb] at h2; cases h2
        · exact .inr ⟨h, h2⟩

theorem dl_perm2 {ops : Array Oper} {al : List AOpr} (hed : edgesOk ops = true) (hc : cOprs P nt ops ops.toList = some al) : ∃ π, DL P nt ops (permD (al.zip (Region.before ops).toList)) π ∧ DCmp ops (permD (al.zip (Region.before ops).toList)) π := by
  have d := dl_id hed hc
  have hconv : ∀ (i : Nat) (x : AOpr × Nat), (al.zip (Region.before ops).toList)[i]? = some x → ∀ oo : Oper, ops[i]? = some oo → ∀ e ∈ oo.after, Region.binds .any e = true → Nat.testBit x.2 e.on = true := by
    intro i x hx oo hoo e he hb
    rw [List.getElem?_zip_eq_some] at hx
    have hxb : (Region.before ops).getD i 0 = x.2 := by
      have := hx.2
      simp at this
      simp [this]
    have := befFold_mem ops.toList #[] i oo (by simpa using hoo) e he hb
    rw [← before_eq] at this
    simpa [hxb] using this
  generalize al.zip (Region.before ops).toList = l at d hconv ⊢
  have dc : DCmp ops l id := fun i x hx oo hoo e he hb => ⟨e.on, rfl, hconv i x hx oo hoo e he hb⟩
  unfold permD
  cases wantP l with
  | false => exact ⟨id, d, dc⟩
  | true =>
  cases hk : permChk l (permP l) with
  | false => exact ⟨id, d, dc⟩
  | true =>
  simp only [cond_true]
  generalize permP l = p at hk ⊢
  have hn : l.length = ops.size := d.len
  unfold permChk at hk
  have k0 : ∀ i, i < l.length → p.getD i 0 < l.length ∧ (∃ j, j < l.length ∧ p.getD j 0 = i) ∧ ∀ j, j < l.length → (i = j ∨ ¬ p.getD i 0 = p.getD j 0) ∧ (Nat.testBit (l.getD (p.getD i 0) default).2 (p.getD j 0) = false ∨ j < i) := by
    intro i hi
    have h1 := List.all_eq_true.1 hk i (List.mem_range.2 hi)
    simp only [Bool.and_eq_true] at h1
    obtain ⟨⟨h2, h3⟩, h4⟩ := h1
    refine ⟨by simpa using h2, ?_, fun j hj => ?_⟩
    · obtain ⟨j, hj, hj2⟩ := List.any_eq_true.1 h3
      exact ⟨j, List.mem_range.1 hj, by simpa using hj2⟩
    · have h5 := List.all_eq_true.1 h4 j (List.mem_range.2 hj)
      simp only [Bool.and_eq_true, Bool.or_eq_true, Nat.beq_eq_true_eq, Bool.not_eq_true', Nat.blt_eq] at h5
      refine ⟨h5.1.imp Nat.eq_of_beq_eq_true fun h => ?_, h5.2⟩
      intro he; rw [he] at h; simp at h
  have hP : ∀ i x, (permL l p)[i]? = some x → i < l.length ∧ x = ((l.getD (p.getD i 0) default).1, pbits p (l.getD (p.getD i 0) default).2 (List.range l.length) 0) := by
    intro i x hx
    unfold permL at hx
    rw [List.getElem?_map] at hx
    cases hq : (List.range l.length)[i]? with
    | none => rw [hq] at hx; cases hx
    | some q =>
      rw [hq] at hx
      have hi : i < l.length := by have := (List.getElem?_eq_some_iff.1 hq).1; simpa using this
      rw [List.getElem?_range hi] at hq
      cases hq; cases hx
      exact ⟨hi, rfl⟩
  have hPg : ∀ i, i < l.length → (permL l p)[i]? = some ((l.getD (p.getD i 0) default).1, pbits p (l.getD (p.getD i 0) default).2 (List.range l.length) 0) := by
    intro i hi
    unfold permL
    rw [List.getElem?_map, List.getElem?_range hi]; rfl
  have hg : ∀ i, i < l.length → l[i]? = some (l.getD i default) := fun i hi => by simp [hi]
  have hπ : ∀ i, i < l.length → (if i < ops.size then p.getD i 0 else i) = p.getD i 0 := fun i hi => if_pos (by omega)
  refine ⟨fun i => if i < ops.size then p.getD i 0 else i, ⟨by simp [permL, hn], fun i hi => ?_, fun i hi => if_neg (by omega), fun i j hi hj he => ?_, fun j hj => ?_, fun i x hx => ?_, fun i x hx oo hoo j hb => ?_, fun i oo hoo e he hb => ?_⟩, fun i x hx oo hoo e he hb => ?_⟩
  · simp only [if_pos hi]; have := (k0 i (by omega)).1; omega
  · simp only [if_pos hi, if_pos hj] at he
    exact ((k0 i (by omega)).2.2 j (by omega)).1.resolve_right (fun h => h he)
  · obtain ⟨q, hq, hq2⟩ := (k0 j (by omega)).2.1
    exact ⟨q, by omega, by simp only [if_pos (show q < ops.size by omega)]; exact hq2⟩
  · obtain ⟨hi, rfl⟩ := hP i x hx
    simp only [hπ i hi]
    exact d.cop _ _ (hg _ (k0 i hi).1)
  · obtain ⟨hi, rfl⟩ := hP i x hx
    simp only [hπ i hi] at hoo
    rw [pbits_spec] at hb
    rcases hb with hb | ⟨hj, hb⟩
    · simp at hb
    · have hj' := List.mem_range.1 hj
      obtain ⟨e, h1, h2, h3⟩ := d.bef _ _ (hg _ (k0 i hi).1) oo hoo _ hb
      refine ⟨e, h1, h2, ?_⟩
      rcases h3 with h3 | ⟨k, y, hk1, hk2, hk3⟩
      · left; simp only [hπ j hj']; exact h3
      · right
        have hkl : k < l.length := (List.getElem?_eq_some_iff.1 hk1).1
        obtain ⟨q, hq, hq2⟩ := (k0 k hkl).2.1
        refine ⟨q, _, hPg q hq, by simp only [hπ q hq]; rw [hq2]; exact hk2, ?_⟩
        rw [pbits_spec]
        refine .inr ⟨hj, ?_⟩
        rw [hq2]
        rw [hg k hkl] at hk1; cases hk1
        exact hk3
  · have hi : i < l.length := by
      rcases Nat.lt_or_ge i ops.size with h | h
      · omega
      · rw [if_neg (by omega)] at hoo
        have := (Array.getElem?_eq_some_iff.1 hoo).1; omega
    simp only [hπ i hi] at hoo
    have h1 := hconv _ _ (hg _ (k0 i hi).1) oo hoo e he hb
    obtain ⟨q0, h2, h3⟩ := d.edge _ oo hoo e he hb
    have h3' : e.on = q0 := h3
    have hel : e.on < l.length := by rw [h3']; exact Nat.lt_trans h2 (k0 i hi).1
    obtain ⟨q, hq, hq2⟩ := (k0 _ hel).2.1
    refine ⟨q, ?_, by simp only [hπ q hq]; exact hq2.symm⟩
    refine (((k0 i hi).2.2 q hq).2).resolve_left ?_
    rw [hq2, h1]; simp
  · obtain ⟨hi, rfl⟩ := hP i x hx
    simp only [hπ i hi] at hoo
    have h1 := hconv _ _ (hg _ (k0 i hi).1) oo hoo e he hb
    obtain ⟨q0, h2, h3⟩ := d.edge _ oo hoo e he hb
    have h3' : e.on = q0 := h3
    have hel : e.on < l.length := by rw [h3']; exact Nat.lt_trans h2 (k0 i hi).1
    obtain ⟨q, hq, hq2⟩ := (k0 _ hel).2.1
    refine ⟨q, by simp only [hπ q hq]; exact hq2.symm, ?_⟩
    rw [pbits_spec]
    exact .inr ⟨List.mem_range.2 hq, by rw [hq2]; exact h1⟩
end
end Go.Eng
end
