/- A region that draws its order, whole; code; functions. Code and functions: what the abstract interpreter says of them holds. The interpreter in continuation style, over code with live registers noted at joins and loops: definitions. Functions in continuation style; tables of them; handlers. -/
import Derived.Test.YtndpneieplopaaaGreatDoorEngQ
set_option linter.unusedSimpArgs false
set_option linter.unusedVariables false
set_option linter.unnecessarySimpa false
noncomputable section
namespace Go.Eng
/-- The run of a region in the text's order, each call by a way of its own. -/
inductive DRun (P : Program) : List AOpr → Nat → Tm → AH → List DStep → Tm → AH → Prop where
  | nil (r : Nat) (T : Tm) (h : AH) : DRun P [] r T h [] T h
  | cons {o : AOpr} {l : List AOpr} {r : Nat} {T : Tm} {h : AH} {s : DStep} {ss : List DStep} {T' : Tm} {h' : AH} (cl : Handler) (hcl : HOk P cl) (hs : dstep cl o r T h = some s) (hr : DRun P l (r + 1) (tput T o.dst s.v) s.h' ss T' h') : DRun P (o :: l) r T h (s :: ss) T' h'

theorem drun_DRun {P : Program} {cl : Handler} (hcl : HOk P cl) : ∀ (l : List AOpr) (r : Nat) (T : Tm) (h : AH) (ss : List DStep) (T' : Tm) (h' : AH), drun cl l r T h = some (ss, T', h') → DRun P l r T h ss T' h'
  | [], r, T, h, ss, T', h', hd => by
    simp [drun] at hd
    obtain ⟨rfl, rfl, rfl⟩ := hd
    exact .nil _ _ _
  | o :: l, r, T, h, ss, T', h', hd => by
    unfold drun at hd
    split at hd
    case h_2 => cases hd
    rename_i s hs
    split at hd
    case h_2 => cases hd
    rename_i ss1 T1 h1 hrec
    cases hd
    exact .cons cl hcl hs (drun_DRun hcl l _ _ _ _ _ _ hrec)

theorem drun_spec {P : Program} : ∀ (l : List AOpr) (r : Nat) (T : Tm) (h : AH) (ss : List DStep) (T' : Tm) (h' : AH), DRun P l r T h ss T' h' →
    ∃ (Ts : Nat → Tm) (Hs : Nat → AH), Ts 0 = T ∧ Hs 0 = h ∧ Ts l.length = T' ∧ Hs l.length = h' ∧ ss.length = l.length ∧
      ∀ i o s, l[i]? = some o → ss[i]? = some s → (∃ cl, HOk P cl ∧ DSp cl o (r + i) (Ts i) (Hs i) s) ∧ Ts (i + 1) = tput (Ts i) o.dst s.v ∧ Hs (i + 1) = s.h'
  | [], r, T, h, ss, T', h', hd => by
    cases hd
    exact ⟨fun _ => T, fun _ => h, rfl, rfl, rfl, rfl, rfl, fun i o s ho => by simp at ho⟩
  | o :: l, r, T, h, ss, T', h', hd => by
    cases hd
    rename_i s ss1 cl hcl hs hrec
    obtain ⟨Ts, Hs, e1, e2, e3, e4, e5, e6⟩ := drun_spec l (r + 1) _ _ _ _ _ hrec
    have hsp := dstep_sp hs
    refine ⟨fun i => match i with | 0 => T | i + 1 => Ts i, fun i => match i with | 0 => h | i + 1 => Hs i, rfl, rfl, e3, e4, by simp [e5], fun i o' s' ho' hs' => ?_⟩
    cases i with
    | zero =>
      simp at ho' hs'
      subst ho'; subst hs'
      exact ⟨⟨cl, hcl, hsp⟩, e1, e2⟩
    | succ i =>
      simp at ho' hs'
      obtain ⟨a1, a2, a3⟩ := e6 i o' s' ho' hs'
      exact ⟨by rw [show r + (i + 1) = r + 1 + i by omega]; exact a1, a2, a3⟩

theorem rowOk_spec {o : AOpr} {bits : Nat} {s : DStep} : ∀ (l : List (AOpr × DStep)) (k : Nat), rowOk o bits s k l = true → ∀ i p q, l[i]? = some (p, q) → Nat.testBit bits (k + i) = true ∨ (tmpOk p o = true ∧ recOk q.k s.k = true)
  | [], k, h, i, p, q, hi => by simp at hi
  | (p0, q0) :: l, k, h, i, p, q, hi => by
    simp only [rowOk, Bool.and_eq_true, Bool.or_eq_true] at h
    cases i with
    | zero => simp at hi; obtain ⟨rfl, rfl⟩ := hi; exact h.1
    | succ i =>
      simp at hi
      have := rowOk_spec l (k + 1) h.2 i p q hi
      rwa [show k + 1 + i = k + (i + 1) by omega] at this
theorem pairsOk_spec : ∀ (l : List (AOpr × Nat)) (ss : List DStep) (acc : List (AOpr × DStep)), pairsOk l ss acc = true → ∀ j o bits s, l[j]? = some (o, bits) → ss[j]? = some s →
    ∀ i p q, (acc ++ (l.map (·.1)).zip ss)[i]? = some (p, q) → i < acc.length + j → Nat.testBit bits i = true ∨ (tmpOk p o = true ∧ recOk q.k s.k = true)
  | [], ss, acc, h, j, o, bits, s, hj, hs, i, p, q, hi, hlt => by simp at hj
  | (o0, b0) :: l, [], acc, h, j, o, bits, s, hj, hs, i, p, q, hi, hlt => by simp at hs
  | (o0, b0) :: l, s0 :: ss, acc, h, j, o, bits, s, hj, hs, i, p, q, hi, hlt => by
    simp only [pairsOk, Bool.and_eq_true] at h
    cases j with
    | zero =>
      simp at hj hs
      obtain ⟨rfl, rfl⟩ := hj
      subst hs
      rw [List.getElem?_append, if_pos (by omega)] at hi
      have := rowOk_spec acc 0 h.1 i p q hi
      rwa [Nat.zero_add] at this
    | succ j =>
      simp at hj hs
      refine pairsOk_spec l ss (acc ++ [(o0, s0)]) h.2 j o bits s hj hs i p q ?_ (by simp; omega)
      simpa using hi

/-! ### the order -/
def befStep (acc : Array Nat) (o : Oper) : Array Nat := acc.push (o.after.foldl (fun s e => if Region.binds .any e then s ||| 2 ^ e.on ||| acc.getD e.on 0 else s) 0)
theorem before_eq (ops : Array Oper) : Region.before ops = ops.toList.foldl befStep #[] := by
  unfold Region.before
  rw [← Array.foldl_toList]
  rfl
theorem befFold_old : ∀ (l : List Oper) (acc : Array Nat) (k : Nat), k < acc.size → (l.foldl befStep acc).getD k 0 = acc.getD k 0
  | [], acc, k, h => rfl
  | o :: l, acc, k, h => by
    simp only [List.foldl_cons]
    rw [befFold_old l _ k (by simp [befStep]; omega)]
    simp [befStep, Array.getElem?_push, Nat.ne_of_lt h]
theorem befFold_size : ∀ (l : List Oper) (acc : Array Nat), (l.foldl befStep acc).size = acc.size + l.length
  | [], acc => by simp
  | o :: l, acc => by simp only [List.foldl_cons]; rw [befFold_size l]; simp [befStep]; omega
theorem edgeFold (acc : Array Nat) (j : Nat) : ∀ (l : List Edge) (s0 : Nat), Nat.testBit (l.foldl (fun s e => if Region.binds .any e then s ||| 2 ^ e.on ||| acc.getD e.on 0 else s) s0) j = true →
    Nat.testBit s0 j = true ∨ ∃ e ∈ l, Region.binds .any e = true ∧ (e.on = j ∨ Nat.testBit (acc.getD e.on 0) j = true)
  | [], s0, h => .inl h
  | e :: l, s0, h => by
    simp only [List.foldl_cons] at h
    rcases edgeFold acc j l _ h with h1 | ⟨e', h1, h2⟩
    · split at h1
      · rename_i hb
        simp only [Nat.testBit_or, Bool.or_eq_true] at h1
        rcases h1 with (h1 | h1) | h1
        · exact .inl h1
        · refine .inr ⟨e, by simp, hb, .inl ?_⟩
          rw [Nat.testBit_two_pow] at h1
          simpa using h1
        · exact .inr ⟨e, by simp, hb, .inr h1⟩
      · exact .inl h1
    · exact .inr ⟨e', by simp [h1], h2⟩
theorem befFold_spec : ∀ (l : List Oper) (acc : Array Nat) (i : Nat) (o : Oper), l[i]? = some o → ∀ j, Nat.testBit ((l.foldl befStep acc).getD (acc.size + i) 0) j = true →
    ∃ e ∈ o.after, Region.binds .any e = true ∧ (e.on = j ∨ Nat.testBit ((l.foldl befStep acc).getD e.on 0) j = true)
  | [], acc, i, o, ho, j, h => by simp at ho
  | o0 :: l, acc, i, o, ho, j, h => by
    simp only [List.foldl_cons] at h ⊢
    cases i with
    | zero =>
      simp at ho; subst ho
      have hsz : acc.size < (befStep acc o0).size := by simp [befStep]
      rw [Nat.add_zero, befFold_old l _ _ hsz] at h
      have h0 : (befStep acc o0).getD acc.size 0 = o0.after.foldl (fun s e => if Region.binds .any e then s ||| 2 ^ e.on ||| acc.getD e.on 0 else s) 0 := by simp [befStep]
      rw [h0, ← Array.foldl_toList] at h
      rcases edgeFold acc j o0.after.toList 0 h with h1 | ⟨e, h1, h2, h3⟩
      · simp at h1
      · refine ⟨e, by simpa using h1, h2, h3.imp id fun h4 => ?_⟩
        have hlt : e.on < acc.size := by
          rcases Nat.lt_or_ge e.on acc.size with h5 | h5
          · exact h5
          · rw [show acc.getD e.on 0 = 0 by simp [Array.getElem?_eq_none h5]] at h4; simp at h4
        rw [befFold_old l _ _ (by simp [befStep]; omega)]
        simpa [befStep, Array.getElem?_push, Nat.ne_of_lt hlt] using h4
    | succ i =>
      simp at ho
      have := befFold_spec l (befStep acc o0) i o ho j (by
        rw [show (befStep acc o0).size + i = acc.size + (i + 1) by simp [befStep]; omega]
        exact h)
      exact this

theorem edgesFrom_spec : ∀ (l : List Oper) (k : Nat), edgesFrom k l = true → ∀ i o, l[i]? = some o → ∀ e ∈ o.after, Region.binds .any e = true → e.on < k + i
  | [], k, h, i, o, ho => by simp at ho
  | o0 :: l, k, h, i, o, ho => by
    simp only [edgesFrom, Bool.and_eq_true] at h
    cases i with
    | zero =>
      simp at ho; subst ho
      intro e he hb
      have := Array.all_eq_true_iff_forall_mem.1 h.1 e he
      simpa [hb] using this
    | succ i =>
      simp at ho
      intro e he hb
      have := edgesFrom_spec l (k + 1) h.2 i o ho e he hb
      omega

theorem cOprs_spec {P : Program} {nt : Nat} {ops : Array Oper} : ∀ (l : List Oper) (al : List AOpr), cOprs P nt ops l = some al → al.length = l.length ∧ ∀ (i : Nat) o ao, l[i]? = some o → al[i]? = some ao → cOpr P nt ops o = some ao
  | [], al, h => by simp [cOprs] at h; subst h; simp
  | o :: l, al, h => by
    unfold cOprs at h
    split at h
    · rename_i x l' h1 h2
      cases h
      obtain ⟨e1, e2⟩ := cOprs_spec l l' h2
      refine ⟨by simp [e1], fun i o' ao' ho hao => ?_⟩
      cases i with
      | zero => simp at ho hao; subst ho; subst hao; exact h1
      | succ i => simp at ho hao; exact e2 i o' ao' ho hao
    · cases h

instance : Inhabited DStep := ⟨⟨.leaf, ⟨.leaf, 0⟩, .undef, .pure⟩⟩

/-- How many are left to be carried out. -/
def unl (listed : Array Bool) : Nat := (listed.toList.filter (! ·)).length

section
variable {P : Program} {nt : Nat} {ds : List Deferred} {own : Nat → Prop} {β : Bl} {T : Tm} {h : AH} {a : Act} {w : World}
theorem draw_any' {ops : Array Oper} {L : List (AOpr × Nat)} {π : Nat → Nat} {T' : Tm} {h' : AH} (hmix : P.follows .mixedOrders = true) (hd : DL P nt ops L π) {ss : List DStep} (hrun : DRun P (L.map (·.1)) h.nx T ⟨h.H, h.nx + L.length⟩ ss T' h') (hpairs : ∀ (i j : Nat) (p o : AOpr) (q s : DStep) (bits bp : Nat), i < j → L[i]? = some (p, bp) → ss[i]? = some q → L[j]? = some (o, bits) → ss[j]? = some s → Nat.testBit bits i = true ∨ (tmpOk p o = true ∧ recOk q.k s.k = true)) (hs : Sim nt ds own β T h a w)
    {Q : Exit → Act → World → Prop} (hQ : ∀ β' a' w', Sim nt ds own β' T' h' a' w' → Trans own β h w β' h' w' → Q .normal a' w') : wpAny P .any ops Q ops.size (Array.replicate ops.size false) a { w with drawn := w.drawn + 1 } := by
  have hzl : L.length = ops.size := hd.len
  rw [hzl] at hrun
  obtain ⟨Ts, Hs, e1, e2, e3, e4, e5, e6⟩ := drun_spec _ _ _ _ _ _ _ hrun
  rw [List.length_map, hzl] at e3 e4 e5
  let n := ops.size
  let o : Nat → AOpr := fun i => (L.getD i default).1
  let s : Nat → DStep := fun i => ss.getD i default
  let b : Nat → Nat := fun i => (L.getD i default).2
  have hLg : ∀ i, i < n → L[i]? = some (o i, b i) := fun i hi => by simp [o, b, show i < L.length by omega]
  have ho : ∀ i, i < n → (L.map (·.1))[i]? = some (o i) := fun i hi => by rw [List.getElem?_map, hLg i hi]; rfl
  have hsg : ∀ i, i < n → ss[i]? = some (s i) := fun i hi => by simp [s, show i < ss.length by omega]
  have hLi : ∀ i x, L[i]? = some x → i < n := fun i x hx => by have := (List.getElem?_eq_some_iff.1 hx).1; omega
  have hbef : ∀ i, i < n → ∀ oo, ops[π i]? = some oo → ∀ j, Nat.testBit (b i) j = true → ∃ e ∈ oo.after, Region.binds .any e = true ∧ (e.on = π j ∨ ∃ k, k < n ∧ π k = e.on ∧ Nat.testBit (b k) j = true) := by
    intro i hi oo hoo j hb
    obtain ⟨e, h1, h2, h3⟩ := hd.bef i _ (hLg i hi) oo hoo j hb
    refine ⟨e, h1, h2, h3.imp id ?_⟩
    rintro ⟨k, y, hk, h4, h5⟩
    have hkn := hLi k y hk
    rw [hLg k hkn] at hk; cases hk
    exact ⟨k, hkn, h4, h5⟩
  have pinj : ∀ i j, π i = π j → i = j := by
    intro i j hij
    rcases Nat.lt_or_ge i ops.size with hi | hi <;> rcases Nat.lt_or_ge j ops.size with hj | hj
    · exact hd.inj i j hi hj hij
    · have := hd.lt i hi; rw [hij, hd.out j hj] at this; omega
    · have := hd.lt j hj; rw [← hij, hd.out i hi] at this; omega
    · rw [hd.out i hi, hd.out j hj] at hij; exact hij
  have c : DCtx P nt ops π n h.nx o s b Ts Hs := by
    refine ⟨fun i hi => hd.cop i _ (hLg i hi), fun i hi => (e6 i _ _ (ho i hi) (hsg i hi)).1, fun i hi => (e6 i _ _ (ho i hi) (hsg i hi)).2.1, fun i hi => (e6 i _ _ (ho i hi) (hsg i hi)).2.2, ?_, by rw [e2]; exact Nat.le_refl _, ?_⟩
    · intro i j hij hj
      exact hpairs i j _ _ _ _ _ _ hij (hLg i (by omega)) (hsg i (by omega)) (hLg j hj) (hsg j hj)
    · intro id hid
      rw [e2]
      exact hs.hp.dead hid
  have hup : ∀ i, i < n → (Hs i).nx ≤ (Hs (i + 1)).nx := by
    intro i hi
    obtain ⟨cl, _, h1⟩ := c.step i hi
    rw [c.Hn i hi]
    generalize s i = t at h1
    cases h1 <;> simp only [DStep.h'] <;> first | exact Nat.le_refl _ | assumption
  have hnx := c.nxm hup
  -- whatever is carried out next
  have key : ∀ (fuel : Nat) (listed : Array Bool) (β' : Bl) (G : HF) (m : Nat) (a' : Act) (w' : World), listed.size = n → unl listed ≤ fuel → Inv own β w nt ds n h.nx o s b Ts Hs (fun i => listed.getD (π i) false = true) β' G m a' w' → wpAny P .any ops Q fuel listed a' w' := by
    intro fuel
    have least : ∀ (listed : Array Bool), listed.size = n → (∃ i, i < n ∧ listed.getD (π i) false = false) → ∃ i, i < n ∧ listed.getD (π i) false = false ∧ ∀ j, j < i → listed.getD (π j) false = true := by
      intro listed hsz ⟨i, hi, hf⟩
      induction i using Nat.strongRecOn with
      | _ i ih =>
        by_cases hex : ∃ j, j < i ∧ listed.getD (π j) false = false
        · obtain ⟨j, hj, hjf⟩ := hex
          exact ih j hj (by omega) hjf
        · refine ⟨i, hi, hf, fun j hj => ?_⟩
          cases hq : listed.getD (π j) false
          · exact absurd ⟨j, hj, hq⟩ hex
          · rfl
    have done : ∀ (listed : Array Bool) (β' : Bl) (G : HF) (m : Nat) (a' : Act) (w' : World), listed.size = n → Inv own β w nt ds n h.nx o s b Ts Hs (fun i => listed.getD (π i) false = true) β' G m a' w' → Region.ready .any ops listed = [] → Q .normal a' w' := by
      intro listed β' G m a' w' hsz v hr
      have hall : ∀ i, i < n → listed.getD (π i) false = true := by
        intro i hi
        cases hq : listed.getD (π i) false with
        | true => rfl
        | false =>
          exfalso
          obtain ⟨k, hk1, hk2, hk3⟩ := least listed hsz ⟨i, hi, hq⟩
          have : π k ∈ Region.ready .any ops listed := by
            rw [mem_ready]
            have hk' : π k < ops.size := hd.lt k hk1
            refine ⟨by have : π k < listed.size := by omega
                       simp [this] at hk2 ⊢; exact hk2, ops[π k], by simp [hk'], fun e he hb => ?_⟩
            obtain ⟨q, hq1, hq2⟩ := hd.edge k _ (by simp [hk']) e he hb
            rw [hq2]; exact hk3 q hq1
          rw [hr] at this; cases this
      have hmn : ∀ x, G x = (Hs n).H.get x := by
        -- behind the cut only objects are made
        have hrest : ∀ q, m ≤ q → q ≤ n → (Hs q).nx = (Hs m).nx ∧ (∀ x, (∀ k, m ≤ k → k < q → isAl s k → x ≠ h.nx + k) → (Hs q).H.get x = (Hs m).H.get x) ∧ (∀ k, m ≤ k → k < q → ∀ r cs, (s k).k = .alloc r cs → (Hs q).H.get (h.nx + k) = some cs) := by
          intro q hq
          induction hq with
          | refl => intro _; exact ⟨rfl, fun _ _ => rfl, fun k h1 h2 => by omega⟩
          | @step q hq ih =>
            intro hqn
            have hq' : m ≤ q := hq
            have hqn' : q < n := hqn
            obtain ⟨a1, a2, a3⟩ := ih (by omega)
            have hnE : ¬ isEff s q := fun hE => by have := v.cutE q hqn' hE (hall q hqn'); omega
            by_cases hA : isAl s q
            · obtain ⟨r, cs, hr⟩ := hA
              have hH := (c.als hqn' hr).2
              refine ⟨by rw [hH]; exact a1, fun x hx => ?_, fun k h1 h2 r' cs' hr' => ?_⟩
              · rw [hH, PM.get_put_ne _ _ (hx q hq' (by omega) ⟨r, cs, hr⟩)]
                exact a2 x (fun k h1 h2 => hx k h1 (by omega))
              · by_cases hkq : k = q
                · subst hkq; rw [hr] at hr'; cases hr'; rw [hH, PM.get_put_same]
                · rw [hH, PM.get_put_ne _ _ (by omega)]; exact a3 k h1 (by omega) r' cs' hr'
            · have hH := c.stays hqn' hnE hA
              rw [hH]
              refine ⟨a1, fun x hx => a2 x (fun k h1 h2 => hx k h1 (by omega)), fun k h1 h2 r' cs' hr' => ?_⟩
              by_cases hkq : k = q
              · subst hkq; exact absurd ⟨r', cs', hr'⟩ hA
              · exact a3 k h1 (by omega) r' cs' hr'
        obtain ⟨_, a2, a3⟩ := hrest n v.mle (Nat.le_refl _)
        intro x
        by_cases hx : ∃ k, m ≤ k ∧ k < n ∧ isAl s k ∧ x = h.nx + k
        · obtain ⟨k, h1, h2, ⟨r, cs, hr⟩, rfl⟩ := hx
          rw [v.g2 k h1 h2 (hall k h2) r cs hr, a3 k h1 h2 r cs hr]
        · have hx' : ∀ k, m ≤ k → k < n → isAl s k → x ≠ h.nx + k := fun k h1 h2 h3 he => hx ⟨k, h1, h2, h3, he⟩
          rw [a2 x hx']
          by_cases hr : h.nx + m ≤ x ∧ x < h.nx + n
          · have g3 := v.g3 (x - h.nx) (by omega) (by omega) (.inr (fun hA => hx' (x - h.nx) (by omega) (by omega) hA (by omega)))
            have m0 := v.m0 (x - h.nx) (by omega) (by omega)
            rw [show h.nx + (x - h.nx) = x by omega] at g3 m0
            rw [g3, m0]
          · exact v.g1 x (by omega)
      have hnxn : (Hs n).nx = (Hs m).nx := by
        have : ∀ q, m ≤ q → q ≤ n → (Hs q).nx = (Hs m).nx := by
          intro q hq
          induction hq with
          | refl => intro _; rfl
          | @step q hq ih =>
            intro hqn
            have hqn' : q < n := hqn
            have hq' : m ≤ q := hq
            have hnE : ¬ isEff s q := fun hE => by have := v.cutE q hqn' hE (hall q hqn'); omega
            by_cases hA : isAl s q
            · obtain ⟨r, cs, hr⟩ := hA
              rw [(c.als hqn' hr).2]; exact ih (by omega)
            · rw [c.stays hqn' hnE hA]; exact ih (by omega)
        exact this n v.mle (Nat.le_refl _)
      have hGe : G = fun x => (Hs n).H.get x := funext hmn
      have hsim := v.sim
      have htm := v.tm
      have htr := v.trans
      rw [hGe] at hsim htm htr
      rw [← hnxn] at hsim
      rw [show Hs n = h' from e4] at hsim htm htr hnxn
      refine hQ β' a' w' ⟨⟨hsim.fresh, hsim.lt, hsim.ownlt, hsim.obj, hsim.inj⟩, v.sz, fun t u hu => htm t u ?_, v.df⟩ ?_
      · have hu' : (Ts n).get t = some u := by rw [show Ts n = T' from e3]; exact hu
        rcases c.text n (Nat.le_refl _) t u hu' with ⟨k, h1, h2, h3, h4, h5⟩ | ⟨h1, h2⟩
        · exact .inl ⟨k, h1, hall k h1, h3, h4, fun i' b1 _ b3 => h5 i' b1 b1 b3⟩
        · exact .inr ⟨fun i b1 _ => h1 i b1 b1, h2⟩
      · have hnx2 := hnx m v.mle
        have h0 : (fun x => (Hs 0).H.get x) = fun x => h.H.get x := by rw [e2]
        rw [h0] at htr
        refine ⟨htr.ext, v.low, by rw [hnxn]; omega, htr.size, htr.keep, htr.live, htr.shape, htr.os, htr.tape, htr.output⟩
    have stepTo : ∀ (listed : Array Bool) (β' : Bl) (G : HF) (m : Nat) (a' : Act) (w' : World), listed.size = n → Inv own β w nt ds n h.nx o s b Ts Hs (fun i => listed.getD (π i) false = true) β' G m a' w' → ∀ i ∈ Region.ready .any ops listed, ∀ K : Act → World → Prop,
        (∀ β'' G'' m'' a'' w'', Inv own β w nt ds n h.nx o s b Ts Hs (fun j => (listed.setIfInBounds i true).getD (π j) false = true) β'' G'' m'' a'' w'' → K a'' w'') → wpOp P ops Q i K a' w' := by
      intro listed β' G m a' w' hsz v i hi K hK
      obtain ⟨hun, oo, hoo, hpre⟩ := mem_ready.1 hi
      have hin : i < n := (Array.getElem?_eq_some_iff.1 hoo).1
      have hil : i < listed.size := by omega
      obtain ⟨p, hpn, hpi⟩ := hd.sur i hin
      have hL : ¬ (listed.getD (π p) false = true) := by rw [hpi]; simp [hil] at hun ⊢; exact hun
      have hP : ∀ j, Nat.testBit (b p) j = true → listed.getD (π j) false = true := by
        intro j hj
        obtain ⟨e, h1, h2, h3⟩ := hbef p hpn oo (by rw [hpi]; exact hoo) j hj
        have hle := hpre e h1 h2
        rcases h3 with h3 | ⟨k, hk1, hk2, hk3⟩
        · rw [← h3]; exact hle
        · exact v.closed k hk1 (show listed.getD (π k) false = true by rw [hk2]; exact hle) j hk3
      rw [← hpi]
      refine v.step c hnx hpn hL hP fun β'' G'' m'' a'' w'' v' => hK β'' G'' m'' a'' w'' ?_
      have heq : (fun j => j = p ∨ listed.getD (π j) false = true) = (fun j => (listed.setIfInBounds i true).getD (π j) false = true) := by
        funext j
        apply propext
        by_cases hj : π j = i
        · have hjp : j = p := pinj j p (hj.trans hpi.symm)
          simp [hil, hj, hjp, hpi]
        · have hjp : j ≠ p := fun he => hj (by rw [he, hpi])
          simp [hjp, Array.getElem?_setIfInBounds_ne (Ne.symm hj)]
      rw [heq] at v'
      exact v'
    induction fuel with
    | zero =>
      intro listed β' G m a' w' hsz hu v
      have hr : Region.ready .any ops listed = [] := by
        cases hq : Region.ready .any ops listed with
        | nil => rfl
        | cons i r =>
          exfalso
          obtain ⟨hun, oo, hoo, _⟩ := mem_ready.1 (show i ∈ Region.ready .any ops listed by rw [hq]; simp)
          have hin : i < listed.size := by rw [hsz]; exact (Array.getElem?_eq_some_iff.1 hoo).1
          have : false ∈ listed.toList.filter (! ·) := by
            rw [List.mem_filter]
            refine ⟨?_, rfl⟩
            simp [hin] at hun
            rw [← hun]; simp
          unfold unl at hu
          have hnil := List.eq_nil_of_length_eq_zero (by omega : (listed.toList.filter (! ·)).length = 0)
          rw [hnil] at this; cases this
      exact ⟨hr, done listed β' G m a' w' hsz v hr⟩
    | succ fuel ih =>
      intro listed β' G m a' w' hsz hu v
      refine ⟨done listed β' G m a' w' hsz v, fun i hi => ?_⟩
      refine stepTo listed β' G m a' w' hsz v i hi _ fun β'' G'' m'' a'' w'' v' => ih _ β'' G'' m'' a'' w'' (by simp [hsz]) ?_ v'
      obtain ⟨hun, oo, hoo, _⟩ := mem_ready.1 hi
      have hin : i < listed.size := by rw [hsz]; exact (Array.getElem?_eq_some_iff.1 hoo).1
      have hfi : listed[i] = false := by simpa [hin] using hun
      have hlt : unl (listed.setIfInBounds i true) < unl listed := by
        unfold unl
        rw [Array.toList_setIfInBounds]
        have : ∀ (l : List Bool) (k : Nat), l[k]? = some false → ((l.set k true).filter (! ·)).length < (l.filter (! ·)).length := by
          intro l
          induction l with
          | nil => intro k hk; simp at hk
          | cons x l ihl =>
            intro k hk
            cases k with
            | zero => simp at hk; subst hk; simp
            | succ k => simp at hk; have := ihl k hk; cases x <;> simp <;> omega
        exact this _ i (by simp [hin, hfi])
      omega
  refine key ops.size (Array.replicate ops.size false) β (fun x => h.H.get x) 0 a { w with drawn := w.drawn + 1 } (by simp [n]) ?_ ?_
  · unfold unl
    have := List.length_filter_le (! ·) (Array.replicate ops.size false).toList
    simp
  · have hnL : ∀ i, ¬ ((Array.replicate ops.size false).getD (π i) false = true) := by
      intro i hq
      by_cases hi : π i < ops.size
      · simp [hi] at hq
      · simp [hi] at hq
    have hp' := hs.hp
    refine ⟨⟨fun id hid => hp'.fresh id (by rw [e2] at hid; simp only at hid; omega), hp'.lt, hp'.ownlt, hp'.obj, hp'.inj⟩, hs.sz, hs.df, fun i _ hq => absurd hq (hnL i), Nat.zero_le _, .inl rfl, fun e _ _ hq => absurd hq (hnL e), fun x _ => by rw [e2], fun j _ _ hq => absurd hq (hnL j), fun j _ _ _ => hp'.dead (by omega), fun j _ _ => c.dead0 _ (by omega), fun j _ _ => hp'.fresh _ (by omega), fun id _ => rfl, fun t u hu => ?_, ?_⟩
    · rcases hu with ⟨i, _, hq, _⟩ | ⟨_, hq⟩
      · exact absurd hq (hnL i)
      · rw [e1] at hq; exact hs.tm t u hq
    · rw [e2]
      exact ⟨fun _ _ h => h, Nat.le_refl _, fun _ _ _ => rfl, fun _ h => .inl h, fun _ cur _ fz h => ⟨cur, fz, h, rfl, fun _ => rfl⟩, rfl, rfl, rfl⟩

theorem draw_wp' {rid : Nat} {ops : Array Oper} {L : List (AOpr × Nat)} {π : Nat → Nat} {T' : Tm} {h' : AH} (hmix : P.follows .mixedOrders = true) (hd : DL P nt ops L π) {ss : List DStep} (hrun : DRun P (L.map (·.1)) h.nx T ⟨h.H, h.nx + L.length⟩ ss T' h') (hpairs : ∀ (i j : Nat) (p o : AOpr) (q s : DStep) (bits bp : Nat), i < j → L[i]? = some (p, bp) → ss[i]? = some q → L[j]? = some (o, bits) → ss[j]? = some s → Nat.testBit bits i = true ∨ (tmpOk p o = true ∧ recOk q.k s.k = true)) (hs : Sim nt ds own β T h a w)
    {Q : Exit → Act → World → Prop} (hQ : ∀ β' a' w', Sim nt ds own β' T' h' a' w' → Trans own β h w β' h' w' → Q .normal a' w') : (Code.region rid ops true).wp P Q a w :=
  wp_region_any hmix (draw_any' hmix hd hrun hpairs hs hQ)

theorem draw_wp {cl : Handler} (hcl : HOk P cl) {rid : Nat} {ops : Array Oper} {L : List (AOpr × Nat)} {π : Nat → Nat} {T' : Tm} {h' : AH} (hmix : P.follows .mixedOrders = true) (hd : DL P nt ops L π) (ha : adraw cl L T h = some (T', h')) (hs : Sim nt ds own β T h a w)
    {Q : Exit → Act → World → Prop} (hQ : ∀ β' a' w', Sim nt ds own β' T' h' a' w' → Trans own β h w β' h' w' → Q .normal a' w') : (Code.region rid ops true).wp P Q a w := by
  unfold adraw at ha
  split at ha
  case h_2 => cases ha
  rename_i ss T1 h1 hrun
  split at ha
  case isFalse => cases ha
  rename_i hpairs
  cases ha
  refine draw_wp' hmix hd (drun_DRun hcl _ _ _ _ _ _ _ hrun) (fun i j p o q s bits bp hij h1 h2 h3 h4 => ?_) hs hQ
  have hz2 : (([] : List (AOpr × DStep)) ++ (L.map (·.1)).zip ss)[i]? = some (p, q) := by
    rw [List.nil_append, List.getElem?_zip_eq_some]; exact ⟨by rw [List.getElem?_map, h1]; rfl, h2⟩
  exact pairsOk_spec _ _ _ hpairs j _ _ _ h3 h4 i _ _ hz2 (by simpa using hij)

/-- The text's order. -/
theorem dl_id {ops : Array Oper} {al : List AOpr} (hed : edgesOk ops = true) (hc : cOprs P nt ops ops.toList = some al) : DL P nt ops (al.zip (Region.before ops).toList) id := by
  obtain ⟨hal, hcop⟩ := cOprs_spec _ _ hc
  have hal' : al.length = ops.size := by simpa using hal
  have hbs : (Region.before ops).toList.length = ops.size := by rw [Array.length_toList, before_eq, befFold_size]; simp
  have hbs' : (Region.before ops).size = ops.size := by simpa using hbs
  have hzl : (al.zip (Region.before ops).toList).length = ops.size := by simp [hal'] at hbs ⊢; omega
  have hedge : ∀ i oo, ops[i]? = some oo → ∀ e ∈ oo.after, Region.binds .any e = true → e.on < i := by
    intro i oo hoo e he hb
    have := edgesFrom_spec ops.toList 0 hed i oo (by simpa using hoo) e he hb
    omega
  refine ⟨hzl, fun i hi => hi, fun _ _ => rfl, fun _ _ _ _ h => h, fun j hj => ⟨j, hj, rfl⟩, fun i x hx => ?_, fun i x hx oo hoo j hb => ?_, fun i oo hoo e he hb => ⟨e.on, hedge i oo hoo e he hb, rfl⟩⟩
  · rw [List.getElem?_zip_eq_some] at hx
    have hi : i < ops.size := by have := (List.getElem?_eq_some_iff.1 hx.1).1; omega
    exact ⟨ops[i], by simp [hi], hcop i _ _ (by simp [hi]) hx.1⟩
  · rw [List.getElem?_zip_eq_some] at hx
    have hi : i < ops.size := by have := (List.getElem?_eq_some_iff.1 hx.1).1; omega
    have hxb : (Region.before ops).getD i 0 = x.2 := by
      have := hx.2
      simp at this
      simp [this]
    have hb' : Nat.testBit ((ops.toList.foldl befStep #[]).getD ((#[] : Array Nat).size + i) 0) j = true := by
      rw [← before_eq]; simpa [hxb] using hb
    obtain ⟨e, h1, h2, h3⟩ := befFold_spec ops.toList #[] i oo (by simpa using hoo) j hb'
    refine ⟨e, h1, h2, h3.imp id fun h4 => ?_⟩
    rw [← before_eq] at h4
    have hei := hedge i oo hoo e h1 h2
    refine ⟨e.on, (al[e.on]'(by omega), (Region.before ops)[e.on]'(by omega)), ?_, rfl, ?_⟩
    · rw [List.getElem?_zip_eq_some]
      simp [show e.on < al.length by omega, show e.on < (Region.before ops).size by omega]
    · simpa [show e.on < (Region.before ops).size by omega] using h4

theorem edgeFold_mono (acc : Array Nat) (j : Nat) : ∀ (l : List Edge) (s0 : Nat), Nat.testBit s0 j = true → Nat.testBit (l.foldl (fun s e => if Region.binds .any e then s ||| 2 ^ e.on ||| acc.getD e.on 0 else s) s0) j = true
  | [], s0, h => h
  | e :: l, s0, h => by
    simp only [List.foldl_cons]
    refine edgeFold_mono acc j l _ ?_
    split
    · simp [Nat.testBit_or, h]
    · exact h
theorem edgeFold_mem (acc : Array Nat) : ∀ (l : List Edge) (s0 : Nat) (e : Edge), e ∈ l → Region.binds .any e = true → Nat.testBit (l.foldl (fun s e => if Region.binds .any e then s ||| 2 ^ e.on ||| acc.getD e.on 0 else s) s0) e.on = true
  | [], s0, e, h, hb => by cases h
  | e0 :: l, s0, e, h, hb => by
    simp only [List.foldl_cons]
    rcases List.mem_cons.1 h with rfl | h
    · refine edgeFold_mono acc _ l _ ?_
      rw [if_pos hb]
      simp [Nat.testBit_or, Nat.testBit_two_pow]
    · exact edgeFold_mem acc l _ e h hb
theorem befFold_mem : ∀ (l : List Oper) (acc : Array Nat) (i : Nat) (o : Oper), l[i]? = some o → ∀ e ∈ o.after, Region.binds .any e = true → Nat.testBit ((l.foldl befStep acc).getD (acc.size + i) 0) e.on = true
  | [], acc, i, o, ho => by simp at ho
  | o0 :: l, acc, i, o, ho => by
    intro e he hb
    simp only [List.foldl_cons]
    cases i with
    | zero =>
      simp at ho; subst ho
      have hsz : acc.size < (befStep acc o0).size := by simp [befStep]
      rw [Nat.add_zero, befFold_old l _ _ hsz]
      have h0 : (befStep acc o0).getD acc.size 0 = o0.after.foldl (fun s e => if Region.binds .any e then s ||| 2 ^ e.on ||| acc.getD e.on 0 else s) 0 := by simp [befStep]
      rw [h0, ← Array.foldl_toList]
      exact edgeFold_mem acc _ 0 e (by simpa using he) hb
    | succ i =>
      simp at ho
      have := befFold_mem l (befStep acc o0) i o ho e he hb
      rwa [show (befStep acc o0).size + i = acc.size + (i + 1) by simp [befStep]; omega] at this

theorem pbits_spec (p : List Nat) (bits : Nat) (j : Nat) : ∀ (l : List Nat) (s : Nat), Nat.testBit (pbits p bits l s) j = true ↔ (Nat.testBit s j = true ∨ (j ∈ l ∧ Nat.testBit bits (p.getD j 0) = true))
  | [], s => by simp [pbits]
  | k :: l, s => by
    unfold pbits
    rw [pbits_spec p bits j l]
    cases hb : Nat.testBit bits (p.getD k 0) with
    | true =>
      simp only [cond_true, Nat.testBit_or, Nat.testBit_two_pow, Bool.or_eq_true, decide_eq_true_eq, List.mem_cons]
      constructor
      · rintro ((h | h) | h)
        · exact .inl h
        · subst h; exact .inr ⟨.inl rfl, hb⟩
        · exact .inr ⟨.inr h.1, h.2⟩
      · rintro (h | ⟨h | h, h2⟩)
        · exact .inl (.inl h)
        · exact .inl (.inr h.symm)
        · exact .inr ⟨h, h2⟩
    | false =>
      simp only [cond_false, List.mem_cons]
      constructor
      · rintro (h | h)
        · exact .inl h
        · exact .inr ⟨.inr h.1, h.2⟩
      · rintro (h | ⟨h | h, h2⟩)
        · exact .inl h
        · subst h; rw [hb] at h2; cases h2
        · exact .inr ⟨h, h2⟩

theorem dl_perm {ops : Array Oper} {al : List AOpr} (hed : edgesOk ops = true) (hc : cOprs P nt ops ops.toList = some al) : ∃ π, DL P nt ops (permD (al.zip (Region.before ops).toList)) π := by
  have d := dl_id hed hc
  have hconv : ∀ (i : Nat) (x : AOpr × Nat), (al.zip (Region.before ops).toList)[i]? = some x → ∀ oo : Oper, ops[i]? = some oo → ∀ e ∈ oo.after, Region.binds .any e = true → Nat.testBit x.2 e.on = true := by
    intro i x hx oo hoo e he hb
    rw [List.getElem?_zip_eq_some] at hx
    have hxb : (Region.before ops).getD i 0 = x.2 := by
      have := hx.2
      simp at this
      simp [this]
    have := befFold_mem ops.toList #[] i oo (by simpa using hoo) e he hb
    rw [← before_eq] at this
    simpa [hxb] using this
  generalize al.zip (Region.before ops).toList = l at d hconv ⊢
  unfold permD
  cases lateAl l 0 [] with
  | false => exact ⟨id, d⟩
  | true =>
  cases hk : permChk l (permEff l.length l 0 []) with
  | false => exact ⟨id, d⟩
  | true =>
  simp only [cond_true]
  generalize permEff l.length l 0 [] = p at hk ⊢
  have hn : l.length = ops.size := d.len
  unfold permChk at hk
  have k0 : ∀ i, i < l.length → p.getD i 0 < l.length ∧ (∃ j, j < l.length ∧ p.getD j 0 = i) ∧ ∀ j, j < l.length → (i = j ∨ ¬ p.getD i 0 = p.getD j 0) ∧ (Nat.testBit (l.getD (p.getD i 0) default).2 (p.getD j 0) = false ∨ j < i) := by
    intro i hi
    have h1 := List.all_eq_true.1 hk i (List.mem_range.2 hi)
    simp only [Bool.and_eq_true] at h1
    obtain ⟨⟨h2, h3⟩, h4⟩ := h1
    refine ⟨by simpa using h2, ?_, fun j hj => ?_⟩
    · obtain ⟨j, hj, hj2⟩ := List.any_eq_true.1 h3
      exact ⟨j, List.mem_range.1 hj, by simpa using hj2⟩
    · have h5 := List.all_eq_true.1 h4 j (List.mem_range.2 hj)
      simp only [Bool.and_eq_true, Bool.or_eq_true, Nat.beq_eq_true_eq, Bool.not_eq_true', Nat.blt_eq] at h5
      refine ⟨h5.1.imp Nat.eq_of_beq_eq_true fun h => ?_, h5.2⟩
      intro he; rw [he] at h; simp at h
  have hP : ∀ i x, (permL l p)[i]? = some x → i < l.length ∧ x = ((l.getD (p.getD i 0) default).1, pbits p (l.getD (p.getD i 0) default).2 (List.range l.length) 0) := by
    intro i x hx
    unfold permL at hx
    rw [List.getElem?_map] at hx
    cases hq : (List.range l.length)[i]? with
    | none => rw [hq] at hx; cases hx
    | some q =>
      rw [hq] at hx
      have hi : i < l.length := by have := (List.getElem?_eq_some_iff.1 hq).1; simpa using this
      rw [List.getElem?_range hi] at hq
      cases hq; cases hx
      exact ⟨hi, rfl⟩
  have hPg : ∀ i, i < l.length → (permL l p)[i]? = some ((l.getD (p.getD i 0) default).1, pbits p (l.getD (p.getD i 0) default).2 (List.range l.length) 0) := by
    intro i hi
    unfold permL
    rw [List.getElem?_map, List.getElem?_range hi]; rfl
  have hg : ∀ i, i < l.length → l[i]? = some (l.getD i default) := fun i hi => by simp [hi]
  have hπ : ∀ i, i < l.length → (if i < ops.size then p.getD i 0 else i) = p.getD i 0 := fun i hi => if_pos (by omega)
  refine ⟨fun i => if i < ops.size then p.getD i 0 else i, by simp [permL, hn], fun i hi => ?_, fun i hi => if_neg (by omega), fun i j hi hj he => ?_, fun j hj => ?_, fun i x hx => ?_, fun i x hx oo hoo j hb => ?_, fun i oo hoo e he hb => ?_⟩
  · simp only [if_pos hi]; have := (k0 i (by omega)).1; omega
  · simp only [if_pos hi, if_pos hj] at he
    exact ((k0 i (by omega)).2.2 j (by omega)).1.resolve_right (fun h => h he)
  · obtain ⟨q, hq, hq2⟩ := (k0 j (by omega)).2.1
    exact ⟨q, by omega, by simp only [if_pos (show q < ops.size by omega)]; exact hq2⟩
  · obtain ⟨hi, rfl⟩ := hP i x hx
    simp only [hπ i hi]
    exact d.cop _ _ (hg _ (k0 i hi).1)
  · obtain ⟨hi, rfl⟩ := hP i x hx
    simp only [hπ i hi] at hoo
    rw [pbits_spec] at hb
    rcases hb with hb | ⟨hj, hb⟩
    · simp at hb
    · have hj' := List.mem_range.1 hj
      obtain ⟨e, h1, h2, h3⟩ := d.bef _ _ (hg _ (k0 i hi).1) oo hoo _ hb
      refine ⟨e, h1, h2, ?_⟩
      rcases h3 with h3 | ⟨k, y, hk1, hk2, hk3⟩
      · left; simp only [hπ j hj']; exact h3
      · right
        have hkl : k < l.length := (List.getElem?_eq_some_iff.1 hk1).1
        obtain ⟨q, hq, hq2⟩ := (k0 k hkl).2.1
        refine ⟨q, _, hPg q hq, by simp only [hπ q hq]; rw [hq2]; exact hk2, ?_⟩
        rw [pbits_spec]
        refine .inr ⟨hj, ?_⟩
        rw [hq2]
        rw [hg k hkl] at hk1; cases hk1
        exact hk3
  · have hi : i < l.length := by
      rcases Nat.lt_or_ge i ops.size with h | h
      · omega
      · rw [if_neg (by omega)] at hoo
        have := (Array.getElem?_eq_some_iff.1 hoo).1; omega
    simp only [hπ i hi] at hoo
    have h1 := hconv _ _ (hg _ (k0 i hi).1) oo hoo e he hb
    obtain ⟨q0, h2, h3⟩ := d.edge _ oo hoo e he hb
    have h3' : e.on = q0 := h3
    have hel : e.on < l.length := by rw [h3']; exact Nat.lt_trans h2 (k0 i hi).1
    obtain ⟨q, hq, hq2⟩ := (k0 _ hel).2.1
    refine ⟨q, ?_, by simp only [hπ q hq]; exact hq2.symm⟩
    refine (((k0 i hi).2.2 q hq).2).resolve_left ?_
    rw [hq2, h1]; simp
end
end Go.Eng
end
noncomputable section
namespace Go.Eng
def AX.conc : AX → Exit
  | .nrm => .normal
  | .exit id => .exit id
  | .ret => .ret

section
variable {P : Program} {nt : Nat} {ds : List Deferred} {own : Nat → Prop}
theorem code_wp {cl : Handler} (hcl : HOk P cl) {N : Nat} : ∀ (c : Code) (ac : ACode) (β : Bl) (T : Tm) (h : AH) (a : Act) (w : World) (x : AX) (T' : Tm) (h' : AH), cCode P nt c = some ac → aexec cl N ac T h = some (x, T', h') → Sim nt ds own β T h a w →
    ∀ Q : Exit → Act → World → Prop, (∀ β' a' w', Sim nt ds own β' T' h' a' w' → Trans own β h w β' h' w' → Q x.conc a' w') → c.wp P Q a w := by
  intro c
  induction c with
  | skip =>
    intro ac β T h a w x T' h' hc ha hs Q hQ
    simp only [cCode] at hc; cases hc
    simp only [aexec] at ha; cases ha
    exact wp_skip (hQ β a w hs (.refl _ _ _ _))
  | label l =>
    intro ac β T h a w x T' h' hc ha hs Q hQ
    simp only [cCode] at hc; cases hc
    simp only [aexec] at ha; cases ha
    exact wp_label (hQ β a w hs (.refl _ _ _ _))
  | region rid ops draw =>
    intro ac β T h a w x T' h' hc ha hs Q hQ
    simp only [cCode] at hc
    split at hc
    · rename_i l hl
      cases draw with
      | true =>
        simp only [if_true] at hc
        split at hc
        · rename_i hm
          cases hc
          simp only [Bool.and_eq_true] at hm
          simp only [aexec] at ha
          split at ha
          · rename_i T1 h1 had
            cases ha
            obtain ⟨_, hdl⟩ := dl_perm hm.2 hl
            exact draw_wp hcl hm.1 hdl had hs hQ
          · cases ha
        · cases hc
      | false =>
        simp only [Bool.false_eq_true, if_false] at hc
        cases hc
        simp only [aexec] at ha
        split at ha
        · rename_i T1 h1 had
          cases ha
          exact wp_region_list (aops_wp hcl _ _ _ _ _ _ _ _ _ hl had hs hQ)
        · cases ha
    · cases hc
  | seq c1 c2 ih1 ih2 =>
    intro ac β T h a w x T' h' hc ha hs Q hQ
    simp only [cCode] at hc
    split at hc
    · rename_i x1 x2 h1 h2
      cases hc
      simp only [aexec] at ha
      refine wp_seq ?_
      cases hx : aexec cl N x1 T h with
      | none => simp [hx] at ha
      | some r =>
        obtain ⟨y, T1, h1'⟩ := r
        simp only [hx] at ha
        cases y with
        | nrm =>
          simp only at ha
          refine ih1 x1 β T h a w .nrm T1 h1' h1 hx hs _ fun β1 a1 w1 s1 t1 => ?_
          exact ih2 x2 β1 T1 h1' a1 w1 x T' h' h2 ha s1 Q fun β2 a2 w2 s2 t2 => hQ β2 a2 w2 s2 (t1.trans t2)
        | exit j =>
          simp only at ha; cases ha
          exact ih1 x1 β T h a w _ _ _ h1 hx hs _ fun β1 a1 w1 s1 t1 => hQ β1 a1 w1 s1 t1
        | ret =>
          simp only at ha; cases ha
          exact ih1 x1 β T h a w _ _ _ h1 hx hs _ fun β1 a1 w1 s1 t1 => hQ β1 a1 w1 s1 t1
    · cases hc
  | cond co c1 c2 ih1 ih2 =>
    intro ac β T h a w x T' h' hc ha hs Q hQ
    simp only [cCode] at hc
    split at hc
    · rename_i y x1 x2 hy h1 h2
      cases hc
      simp only [aexec] at ha
      have hv := cOpd_ok hs hy
      cases hyv : y.ev T <;> rw [hyv] at ha hv <;> (try (simp only at ha; cases ha; done))
      rename_i bb
      generalize hce : a.eval co = cv at hv
      cases hv
      cases bb with
      | true => exact wp_cond_true hce (ih1 x1 β T h a w x T' h' h1 (by simpa only using ha) hs Q hQ)
      | false => exact wp_cond_false hce (ih2 x2 β T h a w x T' h' h2 (by simpa only using ha) hs Q hQ)
    · cases hc
  | block id c1 ih =>
    intro ac β T h a w x T' h' hc ha hs Q hQ
    simp only [cCode] at hc
    split at hc
    · rename_i x1 h1
      cases hc
      simp only [aexec] at ha
      refine wp_block ?_
      cases hx : aexec cl N x1 T h with
      | none => simp [hx] at ha
      | some r =>
        obtain ⟨y, T1, h1'⟩ := r
        simp only [hx] at ha
        cases y with
        | nrm =>
          simp only at ha; cases ha
          exact ih x1 β T h a w _ _ _ h1 hx hs _ fun β1 a1 w1 s1 t1 => hQ β1 a1 w1 s1 t1
        | ret =>
          simp only at ha; cases ha
          exact ih x1 β T h a w _ _ _ h1 hx hs _ fun β1 a1 w1 s1 t1 => hQ β1 a1 w1 s1 t1
        | exit j =>
          simp only at ha
          refine ih x1 β T h a w _ _ _ h1 hx hs _ fun β1 a1 w1 s1 t1 => ?_
          show (if j = id then Q .normal a1 w1 else Q (.exit j) a1 w1)
          split at ha
          · rename_i hj; cases ha; rw [if_pos hj]; exact hQ β1 a1 w1 s1 t1
          · rename_i hj; cases ha; rw [if_neg hj]; exact hQ β1 a1 w1 s1 t1
    · cases hc
  | loop c1 ih =>
    intro ac β T h a w x T' h' hc ha hs Q hQ
    simp only [cCode] at hc
    split at hc
    · rename_i x1 h1
      cases hc
      simp only [aexec] at ha
      refine wp_loop_rounds N ?_
      have key : ∀ (n : Nat) (β : Bl) (T : Tm) (h : AH) (a : Act) (w : World), aiter (aexec cl N x1) n T h = some (x, T', h') → Sim nt ds own β T h a w → (∀ β' a' w', Sim nt ds own β' T' h' a' w' → Trans own β h w β' h' w' → Q x.conc a' w') → Code.rounds P c1 Q n a w := by
        intro n
        induction n with
        | zero => intro β T h a w hi; simp [aiter] at hi
        | succ n ihn =>
          intro β T h a w hi hs hQ
          rw [rounds_succ]
          simp only [aiter] at hi
          cases hx : aexec cl N x1 T h with
          | none => simp [hx] at hi
          | some r =>
            obtain ⟨y, T1, h1'⟩ := r
            simp only [hx] at hi
            cases y with
            | nrm =>
              simp only at hi
              refine ih x1 β T h a w _ _ _ h1 hx hs _ fun β1 a1 w1 s1 t1 => ?_
              exact ihn β1 T1 h1' a1 w1 hi s1 fun β2 a2 w2 s2 t2 => hQ β2 a2 w2 s2 (t1.trans t2)
            | exit j =>
              simp only at hi; cases hi
              exact ih x1 β T h a w _ _ _ h1 hx hs _ fun β1 a1 w1 s1 t1 => hQ β1 a1 w1 s1 t1
            | ret =>
              simp only at hi; cases hi
              exact ih x1 β T h a w _ _ _ h1 hx hs _ fun β1 a1 w1 s1 t1 => hQ β1 a1 w1 s1 t1
      exact key N β T h a w ha hs hQ
    · cases hc
  | exit id =>
    intro ac β T h a w x T' h' hc ha hs Q hQ
    simp only [cCode] at hc; cases hc
    simp only [aexec] at ha; cases ha
    exact wp_exit (hQ β a w hs (.refl _ _ _ _))
  | ret =>
    intro ac β T h a w x T' h' hc ha hs Q hQ
    simp only [cCode] at hc; cases hc
    simp only [aexec] at ha; cases ha
    exact wp_ret (hQ β a w hs (.refl _ _ _ _))
  | rangeFunc g ps c1 c2 => intro ac β T h a w x T' h' hc ha; simp only [cCode] at hc; (repeat' (split at hc)) <;> cases hc; simp [aexec] at ha
  | scope => intro ac β T h a w x T' h' hc ha; simp only [cCode] at hc; cases hc; simp [aexec] at ha
  | goto => intro ac β T h a w x T' h' hc ha; simp only [cCode] at hc; cases hc; simp [aexec] at ha
  | refuse => intro ac β T h a w x T' h' hc ha; simp only [cCode] at hc; cases hc; simp [aexec] at ha

theorem initT_get : ∀ (args : List AV) (i : Nat) (T : Tm) (t : Nat), (initT args i T).get t = if i ≤ t ∧ t < i + args.length then args[t - i]? else T.get t
  | [], i, T, t => by simp [initT]; intro h1 h2; omega
  | v :: args, i, T, t => by
    simp only [initT]
    rw [initT_get args (i + 1) (T.put i v) t]
    by_cases h1 : t = i
    · subst h1
      rw [if_neg (by omega), Tm.get_put_same, if_pos (by simp)]
      simp
    · by_cases h2 : i + 1 ≤ t ∧ t < i + 1 + args.length
      · rw [if_pos h2, if_pos (by simp; omega)]
        rw [show t - i = (t - (i + 1)) + 1 by omega]
        simp
      · rw [if_neg h2, Tm.get_put_ne _ _ h1, if_neg (by simp; omega)]

/-- one result -/
def resOne (tmps : Array Value) : ResultVar → Sem Value
  | .tmp t => pure (tmps.getD t Go.undef)
  | .cell x t => do loadVar t (← asAddr (tmps.getD x Go.undef))

theorem aload_res {β : Bl} {T : Tm} {h : AH} {a : Act} {w : World} (hs : Sim nt ds own β T h a w) : ∀ (rs : List ResultVar) (ars : List ARes) (vs : List AV), cRes P rs = some ars → ares T h ars = some vs →
    ∃ cvs : List Value, ((rs.mapM (resOne a.tmps)).run P w = .ok cvs w) ∧ RL w.heap (LL own β h.H) β vs cvs
  | [], ars, vs, hc, ha => by
    simp [cRes] at hc; subst hc
    simp [ares] at ha; subst ha
    exact ⟨[], by simp, RL.nil⟩
  | .tmp t :: rs, ars, vs, hc, ha => by
    simp only [cRes] at hc
    split at hc
    · rename_i l hl
      cases hc
      simp only [ares] at ha
      split at ha
      · rename_i l2 hl2
        cases ha
        obtain ⟨cvs, h1, h2⟩ := aload_res hs rs l l2 hl hl2
        refine ⟨a.tmps.getD t Go.undef :: cvs, ?_, RL.cons ?_ h2⟩
        · rw [List.mapM_cons]
          simp only [resOne, Sem.run_bind, Sem.run_pure, Result.andThen_ok, h1]
        · cases hg : T.get t with
          | none => exact .undef _
          | some v => exact hs.tm t v hg
      · cases ha
    · cases hc
  | .cell t ty :: rs, ars, vs, hc, ha => by
    simp only [cRes] at hc
    split at hc
    · rename_i n l hn hl
      cases hc
      simp only [ares] at ha
      split at ha
      · rename_i v l2 hv hl2
        cases ha
        obtain ⟨cvs, h1, h2⟩ := aload_res hs rs l l2 hl hl2
        have hR : VR w.heap (LL own β h.H) β ((T.get t).getD .undef) (a.tmps.getD t Go.undef) := by
          cases hg : T.get t with
          | none => exact .undef _
          | some v => exact hs.tm t v hg
        have hld : ∃ cv, (do loadVar ty (← asAddr (a.tmps.getD t Go.undef)) : Sem Value).run P w = .ok cv w ∧ VR w.heap (LL own β h.H) β v cv := by
          cases n with
          | none =>
            obtain ⟨ad, u, e1, e2, e3⟩ := aload1_ok hs.hp hv hR
            obtain ⟨cv, e4, e5⟩ := load1_ok (P := P) hs.hp hn hv hR
            refine ⟨cv, ?_, e5⟩
            rw [e1] at e4 ⊢
            simpa only [Instr.loadAt, Instr.sureAddr, asAddr, Sem.run_bind, Sem.run_pure, Result.andThen_ok] using e4
          | some n =>
            simp only [Option.map_eq_some_iff] at hv
            obtain ⟨cs, hv, rfl⟩ := hv
            obtain ⟨ad, u, e1, _⟩ := aloadn_ok hs.hp hv hR
            obtain ⟨cv, e4, e5⟩ := loadn_ok (P := P) hs.hp hn hv hR
            refine ⟨cv, ?_, e5⟩
            rw [e1] at e4 ⊢
            simpa only [Instr.loadAt, Instr.sureAddr, asAddr, Sem.run_bind, Sem.run_pure, Result.andThen_ok] using e4
        obtain ⟨cv, e4, e5⟩ := hld
        refine ⟨cv :: cvs, ?_, RL.cons e5 h2⟩
        have e4' : (resOne a.tmps (.cell t ty)).run P w = .ok cv w := e4
        rw [List.mapM_cons]
        simp only [Sem.run_bind, e4', Result.andThen_ok, h1, Sem.run_pure]
      · cases ha
    · cases hc

theorem cFn_body {fn : Func} {af : AFn} (h : cFn P fn = some af) : fn.body.isSome = true := by
  unfold cFn at h
  split at h
  · rename_i c hc; rw [hc]; rfl
  · cases h

end
end Go.Eng
end
noncomputable section
namespace Go.Eng
def nthD (vals : List AV) (i : Nat) : AV := (vals[i]?).getD .undef
def mkTa (vals : List AV) : List Nat → Nat → Tm → Tm
  | [], _, T => T
  | r :: rs, i, T => mkTa vals rs (i + 1) (T.put r (nthD vals i))
def mkT (live : List Nat) (vals : List AV) : Tm := mkTa vals live 0 .leaf
def rg (T : Tm) (t : Nat) : AV := (T.get t).getD .undef
def getL (live : List Nat) (T : Tm) : List AV := live.map (rg T)

/-- an iterator over a slice: its function; from behind or from the start; none: elements of one cell, some n: aggregates of n cells -/
structure It where
  f : Nat
  back : Bool
  en : Option Nat
def It.z (i : It) : Nat := i.en.getD 1
def It.pos (i : It) (len k : Nat) : Nat := cond i.back (len - 1 - k) k
theorem It.pos_lt (i : It) {len k : Nat} (h : k < len) : i.pos len k < len := by
  unfold It.pos
  cases i.back <;> simp <;> omega
inductive SCode where
  | skip
  | reg (ops : List AOpr)
  | draw (ops : List (AOpr × Nat))
  | seq (a b : SCode)
  | cond (c : Opd) (t e : SCode)
  | block (id : Nat) (b : SCode)
  | loop (li lo : List Nat) (b : SCode)
  | join (lo : List Nat) (a : SCode)
  | joinN (lo : List Nat) (a : SCode)
  | regS (ops : List (AOpr × Option Nat))
  | drawS (ops : List ((AOpr × Nat) × Option Nat))
  | exit (id : Nat)
  | ret
  | stuck
  | rng (its : List It) (g : Opd) (ps : List Nat) (a b : SCode)
  | frz (lo : List Nat) (a : SCode)
  | loopT (b : SCode)
  deriving Inhabited

def SCode.erase : SCode → ACode
  | .skip => .skip
  | .reg ops => .reg ops
  | .draw ops => .draw ops
  | .seq a b => .seq a.erase b.erase
  | .cond c t e => .cond c t.erase e.erase
  | .block id b => .block id b.erase
  | .loop _ _ b => .loop b.erase
  | .join _ a => a.erase
  | .joinN _ a => a.erase
  | .regS ops => .reg (ops.map (·.1))
  | .drawS ops => .draw (ops.map (·.1))
  | .exit id => .exit id
  | .ret => .ret
  | .stuck => .stuck
  | .rng _ g ps a b => .rng g ps a.erase b.erase
  | .frz _ a => a.erase
  | .loopT b => .loop b.erase

section
variable {R : Type}
def sjn {α : Type} (r : Option (AX × α × AH)) (k : AX → α → AH → Option R) : Option R :=
  match r with
  | some (x, v, h) => k x v h
  | none => none
end
def siter (f : List AV → AH → Option (AX × (List AV × List AV) × AH)) : Nat → List AV → AH → Option (AX × List AV × AH)
  | 0, _, _ => none
  | n + 1, vals, h => sjn (f vals h) fun x vs h' =>
    match x with
    | .nrm => siter f n vs.1 h'
    | .exit j => some (.exit j, vs.2, h')
    | .ret => some (.ret, vs.2, h')

theorem mkTa_get (vals : List AV) : ∀ (live : List Nat) (i : Nat) (T : Tm) (t : Nat) (u : AV), (mkTa vals live i T).get t = some u → (∃ j, live[j]? = some t ∧ u = nthD vals (i + j)) ∨ T.get t = some u
  | [], i, T, t, u, h => .inr h
  | r :: rs, i, T, t, u, h => by
    simp only [mkTa] at h
    rcases mkTa_get vals rs (i + 1) _ t u h with ⟨j, h1, h2⟩ | h1
    · exact .inl ⟨j + 1, by simpa using h1, by rw [h2]; congr 1; omega⟩
    · rw [Tm.get_put] at h1
      split at h1
      · rename_i ht; subst ht; cases h1; exact .inl ⟨0, by simp, rfl⟩
      · exact .inr h1

section
variable {P : Program} {nt : Nat} {ds : List Deferred} {own : Nat → Prop}
/-- Registers are forgotten. -/
theorem Sim.keep {β : Bl} {T : Tm} {h : AH} {a : Act} {w : World} (hs : Sim nt ds own β T h a w) (live : List Nat) : Sim nt ds own β (mkT live (getL live T)) h a w := by
  refine ⟨hs.hp, hs.sz, fun t u hu => ?_, hs.df⟩
  rcases mkTa_get _ live 0 .leaf t u hu with ⟨j, h1, h2⟩ | h1
  · have : u = rg T t := by
      rw [h2]; simp [nthD, getL, h1]
    subst this
    unfold rg
    cases hg : T.get t with
    | none => exact .undef _
    | some v => exact hs.tm t v hg
  · simp [Tm.get_leaf] at h1

theorem cCode_seq {c : Code} {x y : ACode} (hc : cCode P nt c = some (.seq x y)) : ∃ a b, c = .seq a b ∧ cCode P nt a = some x ∧ cCode P nt b = some y := by
  cases c <;> simp only [cCode] at hc <;> (try (cases hc; done))
  case seq a b =>
    split at hc
    · rename_i h1 h2; cases hc; exact ⟨a, b, rfl, h1, h2⟩
    · cases hc
  all_goals (repeat' (split at hc)) <;> cases hc
theorem cCode_cond {c : Code} {o : Opd} {x y : ACode} (hc : cCode P nt c = some (.cond o x y)) : ∃ co a b, c = .cond co a b ∧ cOpd co = some o ∧ cCode P nt a = some x ∧ cCode P nt b = some y := by
  cases c <;> simp only [cCode] at hc <;> (try (cases hc; done))
  case cond co a b =>
    split at hc
    · rename_i h0 h1 h2; cases hc; exact ⟨co, a, b, rfl, h0, h1, h2⟩
    · cases hc
  all_goals (repeat' (split at hc)) <;> cases hc
theorem cCode_block {c : Code} {id : Nat} {x : ACode} (hc : cCode P nt c = some (.block id x)) : ∃ a, c = .block id a ∧ cCode P nt a = some x := by
  cases c <;> simp only [cCode] at hc <;> (try (cases hc; done))
  case block id a =>
    split at hc
    · rename_i h1; cases hc; exact ⟨a, rfl, h1⟩
    · cases hc
  all_goals (repeat' (split at hc)) <;> cases hc
theorem cCode_loop {c : Code} {x : ACode} (hc : cCode P nt c = some (.loop x)) : ∃ a, c = .loop a ∧ cCode P nt a = some x := by
  cases c <;> simp only [cCode] at hc <;> (try (cases hc; done))
  case loop a =>
    split at hc
    · rename_i h1; cases hc; exact ⟨a, rfl, h1⟩
    · cases hc
  all_goals (repeat' (split at hc)) <;> cases hc

end
end Go.Eng
end
noncomputable section
namespace Go.Eng
structure SFn where
  nt : Nat
  res : List ARes
  body : SCode
def SFn.erase (f : SFn) : AFn := ⟨f.nt, f.res, f.body.erase⟩

section
variable {P : Program}
end
end Go.Eng
end
