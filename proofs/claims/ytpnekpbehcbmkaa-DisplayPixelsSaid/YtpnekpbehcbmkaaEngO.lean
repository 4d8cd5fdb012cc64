/- A region that draws its order: the proof. -/
import Derived.Test.YtpnekpbehcbmkaaEngN
set_option linter.unusedSimpArgs false
set_option linter.unusedVariables false
set_option linter.unnecessarySimpa false
namespace Go.Eng

section
variable {P : Program} {nt : Nat} {ds : List Deferred} {ops : Array Oper} {n r0 : Nat} {o : Nat → AOpr} {s : Nat → DStep} {b : Nat → Nat} {Ts : Nat → Tm} {Hs : Nat → AH}

def isEff (s : Nat → DStep) (i : Nat) : Prop := ∃ V C, (s i).k = .eff V C
def isAl (s : Nat → DStep) (i : Nat) : Prop := ∃ r cs, (s i).k = .alloc r cs

theorem DCtx.effs (c : DCtx P nt ops n r0 o s b Ts Hs) {i : Nat} (hi : i < n) {V C : AH} (hk : (s i).k = .eff V C) : V = Hs i ∧ C = Hs (i + 1) := by
  have h1 := c.Hn i hi
  obtain ⟨cl, _, h2⟩ := c.step i hi
  generalize s i = t at *
  cases h2 <;> simp only at hk <;> cases hk
  exact ⟨rfl, by rw [h1]; rfl⟩
theorem DCtx.als (c : DCtx P nt ops n r0 o s b Ts Hs) {i : Nat} (hi : i < n) {r : Nat} {cs : List AV} (hk : (s i).k = .alloc r cs) : r = r0 + i ∧ Hs (i + 1) = ⟨(Hs i).H.put (r0 + i) (.cells cs), (Hs i).nx⟩ := by
  have h1 := c.Hn i hi
  obtain ⟨cl, _, h2⟩ := c.step i hi
  generalize s i = t at *
  cases h2 <;> simp only at hk <;> cases hk
  exact ⟨rfl, by rw [h1]; rfl⟩
theorem DCtx.stays (c : DCtx P nt ops n r0 o s b Ts Hs) {i : Nat} (hi : i < n) (h1 : ¬ isEff s i) (h2 : ¬ isAl s i) : Hs (i + 1) = Hs i := by
  have h3 := c.Hn i hi
  obtain ⟨cl, _, h4⟩ := c.step i hi
  unfold isEff at h1
  unfold isAl at h2
  generalize s i = t at *
  cases h4
  · rw [h3]; rfl
  · exact absurd ⟨_, _, rfl⟩ h2
  · exact absurd ⟨_, _, rfl⟩ h1
  · rw [h3]; rfl
  · rw [h3]; rfl

/-- The state of the slots when the operations of L have been carried out. -/
def TSp (o : Nat → AOpr) (s : Nat → DStep) (T0 : Tm) (n : Nat) (L : Nat → Prop) (t : Nat) (u : AV) : Prop :=
  (∃ i, i < n ∧ L i ∧ (o i).dst = some t ∧ u = (s i).v ∧ ∀ i', i' < n → L i' → (o i').dst = some t → i' ≤ i) ∨ ((∀ i, i < n → L i → (o i).dst ≠ some t) ∧ T0.get t = some u)

theorem DCtx.text (c : DCtx P nt ops n r0 o s b Ts Hs) : ∀ (i : Nat), i ≤ n → ∀ t u, (Ts i).get t = some u → TSp o s (Ts 0) n (· < i) t u := by
  intro i
  induction i with
  | zero => intro _ t u h; exact .inr ⟨fun i _ h => by simp at h, h⟩
  | succ i ih =>
    intro hi t u h
    rw [c.Tn i (by omega)] at h
    cases hd : (o i).dst with
    | none =>
      rw [hd] at h
      simp only [tput] at h
      rcases ih (by omega) t u h with ⟨k, h1, h2, h3, h4, h5⟩ | ⟨h1, h2⟩
      · refine .inl ⟨k, h1, by simp only at h2 ⊢; omega, h3, h4, fun i' a1 a2 a3 => ?_⟩
        by_cases he : i' = i
        · subst he; rw [hd] at a3; cases a3
        · exact h5 i' a1 (by simp only at a2 ⊢; omega) a3
      · refine .inr ⟨fun i' a1 a2 a3 => ?_, h2⟩
        by_cases he : i' = i
        · subst he; rw [hd] at a3; cases a3
        · exact h1 i' a1 (by simp only at a2 ⊢; omega) a3
    | some d =>
      rw [hd] at h
      simp only [tput] at h
      by_cases ht : t = d
      · subst ht
        rw [Tm.get_put_same] at h; cases h
        exact .inl ⟨i, by omega, by simp only; omega, hd, rfl, fun i' a1 a2 a3 => by simp only at a2; omega⟩
      · rw [Tm.get_put_ne _ _ ht] at h
        rcases ih (by omega) t u h with ⟨k, h1, h2, h3, h4, h5⟩ | ⟨h1, h2⟩
        · refine .inl ⟨k, h1, by simp only at h2 ⊢; omega, h3, h4, fun i' a1 a2 a3 => ?_⟩
          by_cases he : i' = i
          · subst he; rw [hd] at a3; cases a3; exact absurd rfl ht
          · exact h5 i' a1 (by simp only at a2 ⊢; omega) a3
        · refine .inr ⟨fun i' a1 a2 a3 => ?_, h2⟩
          by_cases he : i' = i
          · subst he; rw [hd] at a3; cases a3; exact absurd rfl ht
          · exact h1 i' a1 (by simp only at a2 ⊢; omega) a3

structure Inv (own : Nat → Prop) (β0 : Bl) (w0 : World) (nt : Nat) (ds : List Deferred) (n r0 : Nat) (o : Nat → AOpr) (s : Nat → DStep) (b : Nat → Nat) (Ts : Nat → Tm) (Hs : Nat → AH) (L : Nat → Prop) (β : Bl) (G : HF) (m : Nat) (a : Act) (w : World) : Prop where
  sim : SimF own β G (Hs m).nx w
  sz : a.tmps.size = nt
  df : a.defers = ds
  closed : ∀ i, i < n → L i → ∀ j, Nat.testBit (b i) j = true → L j
  mle : m ≤ n
  cut : m = 0 ∨ ∃ e, m = e + 1 ∧ L e ∧ isEff s e
  cutE : ∀ e, e < n → isEff s e → L e → e < m
  g1 : ∀ x, (x < r0 + m ∨ r0 + n ≤ x) → G x = (Hs m).H.get x
  g2 : ∀ j, m ≤ j → j < n → L j → ∀ r cs, (s j).k = .alloc r cs → G (r0 + j) = some (.cells cs)
  g3 : ∀ j, m ≤ j → j < n → (¬ L j ∨ ¬ isAl s j) → G (r0 + j) = none
  m0 : ∀ j, m ≤ j → j < n → (Hs m).H.get (r0 + j) = none
  resv : ∀ j, j < n → (¬ L j ∨ ¬ isAl s j) → β (r0 + j) = none
  low : ∀ id, id < r0 → β id = β0 id
  tm : ∀ t u, TSp o s (Ts 0) n L t u → VR w.heap (LF own β G) β u (a.tmps.getD t Go.undef)
  trans : TransF β0 (fun x => (Hs 0).H.get x) w0 β G w

section
variable {own : Nat → Prop} {β0 : Bl} {w0 : World} {L : Nat → Prop} {β : Bl} {G : HF} {m : Nat} {a : Act} {w : World}

/-- All numbers from those of the region's start on are far ahead. -/
theorem DCtx.nxm (c : DCtx P nt ops n r0 o s b Ts Hs) (hup : ∀ i, i < n → (Hs i).nx ≤ (Hs (i + 1)).nx) : ∀ i, i ≤ n → r0 + n ≤ (Hs i).nx
  | 0, _ => c.nx0
  | i + 1, h => Nat.le_trans (c.nxm hup i (by omega)) (hup i (by omega))

/-- ahead of the cut everything that makes or turns objects has been carried out -/
theorem Inv.ahead (c : DCtx P nt ops n r0 o s b Ts Hs) (v : Inv own β0 w0 nt ds n r0 o s b Ts Hs L β G m a w) {k : Nat} (hk : k < m) (h : isEff s k ∨ isAl s k) : L k := by
  rcases v.cut with rfl | ⟨e, rfl, he, hE⟩
  · omega
  · by_cases hke : k = e
    · subst hke; exact he
    · have hkn : e < n := by have := v.mle; omega
      rcases c.pair k e (by omega) hkn with hb | ⟨_, hr⟩
      · exact v.closed e hkn he k hb
      · obtain ⟨V, C, hV⟩ := hE
        rcases h with ⟨V', C', hV'⟩ | ⟨r, cs, hr'⟩
        · rw [hV, hV'] at hr; simp [recOk] at hr
        · rw [hV, hr'] at hr; simp [recOk] at hr

/-- The object that a reading operation reads is the one of the text's order. -/
theorem Inv.readSame (c : DCtx P nt ops n r0 o s b Ts Hs) (v : Inv own β0 w0 nt ds n r0 o s b Ts Hs L β G m a w) {i x : Nat} (hi : i < n) (hL : ¬ L i) (hP : ∀ j, Nat.testBit (b i) j = true → L j) (hk : (s i).k = .read x) {ob : AObj} (hob : (Hs i).H.get x = some ob) : G x = some ob := by
  have hiE : ¬ isEff s i := by rintro ⟨V, C, h⟩; rw [hk] at h; cases h
  have hiA : ¬ isAl s i := by rintro ⟨V, C, h⟩; rw [hk] at h; cases h
  -- one step that does not make x leaves x alone
  have stepEq : ∀ k, k < n → (k < i → m ≤ k) → (i ≤ k → k < m) → x ≠ r0 + k ∨ ¬ isAl s k → (Hs (k + 1)).H.get x = (Hs k).H.get x := by
    intro k hkn h1 h2 hx
    by_cases hE : isEff s k
    · obtain ⟨V, C, hV⟩ := hE
      obtain ⟨rfl, rfl⟩ := c.effs hkn hV
      rcases Nat.lt_trichotomy k i with hlt | heq | hgt
      · have hnL : ¬ L k := fun h => by have := v.cutE k hkn ⟨_, _, hV⟩ h; have := h1 hlt; omega
        rcases c.pair k i hlt hi with hb | ⟨_, hr⟩
        · exact absurd (hP k hb) hnL
        · rw [hV, hk] at hr; simp only [recOk] at hr; exact (obEq_eq hr).symm
      · subst heq; exact absurd ⟨_, _, hV⟩ hiE
      · rcases c.pair i k hgt hkn with hb | ⟨_, hr⟩
        · exact absurd (v.closed k hkn (v.ahead c (h2 (by omega)) (.inl ⟨_, _, hV⟩)) i hb) hL
        · rw [hV, hk] at hr; simp only [recOk] at hr; exact (obEq_eq hr).symm
    · by_cases hA : isAl s k
      · obtain ⟨r, cs, hr⟩ := hA
        rw [(c.als hkn hr).2, PM.get_put_ne]
        exact hx.resolve_right (fun h => h ⟨r, cs, hr⟩)
      · rw [c.stays hkn hE hA]
  rcases Nat.lt_or_ge i m with him | hmi
  · -- the cut lies behind
    have hall : ∀ k, i ≤ k → k ≤ m → (Hs k).H.get x = some ob := by
      intro k hik
      induction hik with
      | refl => intro _; exact hob
      | @step k hik ih =>
        intro hkm
        have hkm' : k < m := hkm
        rw [stepEq k (by have := v.mle; omega) (fun h => by have : i ≤ k := hik; omega) (fun _ => hkm') ?_]
        · exact ih (by omega)
        · by_cases hA : isAl s k
          · left
            have hik' : i ≤ k := hik
            have hne : i ≠ k := fun h => by subst h; exact hiA hA
            rcases c.pair i k (by omega) (by have := v.mle; omega) with hb | ⟨_, hr⟩
            · exact absurd (v.closed k (by have := v.mle; omega) (v.ahead c hkm' (.inr hA)) i hb) hL
            · obtain ⟨r, cs, hrk⟩ := hA
              rw [hk, hrk] at hr
              simp only [recOk] at hr
              rw [(c.als (by have := v.mle; omega) hrk).1] at hr
              intro he; subst he; simp at hr
          · exact .inr hA
    have hm := hall m (by omega) (Nat.le_refl _)
    rw [v.g1 x ?_, hm]
    by_cases hx : r0 + m ≤ x ∧ x < r0 + n
    · have := v.m0 (x - r0) (by omega) (by omega)
      rw [show r0 + (x - r0) = x by omega, hm] at this
      cases this
    · omega
  · by_cases hx : ∃ k, m ≤ k ∧ k < i ∧ x = r0 + k ∧ isAl s k
    · obtain ⟨k, hk1, hk2, rfl, hA⟩ := hx
      obtain ⟨r, cs, hr⟩ := hA
      have hLk : L k := by
        rcases c.pair k i hk2 hi with hb | ⟨_, hrr⟩
        · exact hP k hb
        · rw [hr, hk] at hrr
          simp only [recOk] at hrr
          rw [(c.als (by omega) hr).1] at hrr
          simp at hrr
      have hall : ∀ q, k + 1 ≤ q → q ≤ i → (Hs q).H.get (r0 + k) = some (.cells cs) := by
        intro q hq
        induction hq with
        | refl => intro _; rw [(c.als (by omega) hr).2, PM.get_put_same]
        | @step q hq ih =>
          intro hqi
          have hq' : k + 1 ≤ q := hq
          have hqi' : q < i := hqi
          rw [stepEq q (by omega) (fun _ => by omega) (fun h => by omega) (.inl (by omega))]
          exact ih (by omega)
      have := hall i (by omega) (Nat.le_refl _)
      rw [hob] at this
      rw [this]
      exact v.g2 k hk1 (by omega) hLk r cs hr
    · have hall : ∀ q, m ≤ q → q ≤ i → (Hs q).H.get x = (Hs m).H.get x := by
        intro q hq
        induction hq with
        | refl => intro _; rfl
        | @step q hq ih =>
          intro hqi
          have hq' : m ≤ q := hq
          have hqi' : q < i := hqi
          rw [stepEq q (by omega) (fun _ => hq') (fun h => by omega) ?_, ih (by omega)]
          by_cases hA : isAl s q
          · left; intro he; exact hx ⟨q, hq', hqi', he, hA⟩
          · exact .inr hA
      have hm := hall i hmi (Nat.le_refl _)
      rw [hob] at hm
      rw [v.g1 x ?_, ← hm]
      by_cases hx2 : r0 + m ≤ x ∧ x < r0 + n
      · have := v.m0 (x - r0) (by omega) (by omega)
        rw [show r0 + (x - r0) = x by omega, ← hm] at this
        cases this
      · omega

/-- At an operation with an effect: what it may meet is there, as it was in the text's order. -/
theorem Inv.effSub (c : DCtx P nt ops n r0 o s b Ts Hs) (v : Inv own β0 w0 nt ds n r0 o s b Ts Hs L β G m a w) {i : Nat} (hi : i < n) (hL : ¬ L i) (hP : ∀ j, Nat.testBit (b i) j = true → L j) (hE : isEff s i) :
    m ≤ i ∧ (Hs i).nx = (Hs m).nx ∧ (∀ x ob, (Hs i).H.get x = some ob → G x = some ob) ∧ (∀ x, (x < r0 + (i + 1) ∨ r0 + n ≤ x) → (Hs i).H.get x = none → G x = none) ∧ (∀ j, i < j → j < n → (Hs i).H.get (r0 + j) = none) := by
  have hmi : m ≤ i := by
    rcases Nat.lt_or_ge i m with h | h
    · exact absurd (v.ahead c h (.inl hE)) hL
    · exact h
  have noE : ∀ k, m ≤ k → k < i → ¬ isEff s k := by
    intro k h1 h2 hk
    rcases c.pair k i h2 hi with hb | ⟨_, hr⟩
    · have := v.cutE k (by omega) hk (hP k hb); omega
    · obtain ⟨V, C, hV⟩ := hE
      obtain ⟨V', C', hV'⟩ := hk
      rw [hV, hV'] at hr; simp [recOk] at hr
  have alL : ∀ k, m ≤ k → k < i → isAl s k → L k := by
    intro k h1 h2 hk
    rcases c.pair k i h2 hi with hb | ⟨_, hr⟩
    · exact hP k hb
    · obtain ⟨V, C, hV⟩ := hE
      obtain ⟨r, cs, hr'⟩ := hk
      rw [hV, hr'] at hr; simp [recOk] at hr
  have hall : ∀ q, m ≤ q → q ≤ i → (Hs q).nx = (Hs m).nx ∧ (∀ x, (∀ k, m ≤ k → k < q → isAl s k → x ≠ r0 + k) → (Hs q).H.get x = (Hs m).H.get x) ∧ (∀ k, m ≤ k → k < q → ∀ r cs, (s k).k = .alloc r cs → (Hs q).H.get (r0 + k) = some (.cells cs)) := by
    intro q hq
    induction hq with
    | refl => intro _; exact ⟨rfl, fun _ _ => rfl, fun k h1 h2 => by omega⟩
    | @step q hq ih =>
      intro hqi
      have hq' : m ≤ q := hq
      have hqi' : q < i := hqi
      obtain ⟨a1, a2, a3⟩ := ih (by omega)
      by_cases hA : isAl s q
      · obtain ⟨r, cs, hr⟩ := hA
        have hH := (c.als (by omega) hr).2
        refine ⟨by rw [hH]; exact a1, fun x hx => ?_, fun k h1 h2 r' cs' hr' => ?_⟩
        · rw [hH, PM.get_put_ne _ _ (hx q hq' (by omega) ⟨r, cs, hr⟩)]
          exact a2 x (fun k h1 h2 => hx k h1 (by omega))
        · by_cases hkq : k = q
          · subst hkq; rw [hr] at hr'; cases hr'; rw [hH, PM.get_put_same]
          · rw [hH, PM.get_put_ne _ _ (by omega)]; exact a3 k h1 (by omega) r' cs' hr'
      · have hH := c.stays (i := q) (by omega) (noE q hq' hqi') hA
        rw [hH]
        refine ⟨a1, fun x hx => a2 x (fun k h1 h2 => hx k h1 (by omega)), fun k h1 h2 r' cs' hr' => ?_⟩
        by_cases hkq : k = q
        · subst hkq; exact absurd ⟨r', cs', hr'⟩ hA
        · exact a3 k h1 (by omega) r' cs' hr'
  obtain ⟨a1, a2, a3⟩ := hall i hmi (Nat.le_refl _)
  have res : ∀ x, (∀ k, m ≤ k → k < i → isAl s k → x ≠ r0 + k) → r0 + m ≤ x → x < r0 + n → (Hs i).H.get x = none := by
    intro x hx h1 h2
    rw [a2 x hx]
    have := v.m0 (x - r0) (by omega) (by omega)
    rwa [show r0 + (x - r0) = x by omega] at this
  refine ⟨hmi, a1, fun x ob hob => ?_, fun x hx hn => ?_, fun j h1 h2 => res _ (fun k _ hk _ => by omega) (by omega) (by omega)⟩
  · by_cases hx : ∃ k, m ≤ k ∧ k < i ∧ isAl s k ∧ x = r0 + k
    · obtain ⟨k, h1, h2, hA, rfl⟩ := hx
      obtain ⟨r, cs, hr⟩ := hA
      rw [a3 k h1 h2 r cs hr] at hob
      rw [v.g2 k h1 (by omega) (alL k h1 h2 ⟨r, cs, hr⟩) r cs hr, hob]
    · have hx' : ∀ k, m ≤ k → k < i → isAl s k → x ≠ r0 + k := fun k h1 h2 h3 he => hx ⟨k, h1, h2, h3, he⟩
      by_cases hr : r0 + m ≤ x ∧ x < r0 + n
      · rw [res x hx' hr.1 hr.2] at hob; cases hob
      · rw [v.g1 x (by omega), ← a2 x hx', hob]
  · by_cases hx2 : ∃ k, m ≤ k ∧ k < i ∧ isAl s k ∧ x = r0 + k
    · obtain ⟨k, h1, h2, hA, rfl⟩ := hx2
      obtain ⟨r, cs, hr⟩ := hA
      rw [a3 k h1 h2 r cs hr] at hn; cases hn
    · have hx' : ∀ k, m ≤ k → k < i → isAl s k → x ≠ r0 + k := fun k h1 h2 h3 he => hx2 ⟨k, h1, h2, h3, he⟩
      by_cases hr : r0 + m ≤ x ∧ x < r0 + n
      · have := v.g3 (x - r0) (by omega) (by omega) (.inr (fun hA => by
          by_cases hxi : x - r0 = i
          · rw [hxi] at hA
            obtain ⟨V, C, hV⟩ := hE
            obtain ⟨r, cs, hr'⟩ := hA
            rw [hV] at hr'; cases hr'
          · exact hx' (x - r0) (by omega) (by omega) hA (by omega)))
        rwa [show r0 + (x - r0) = x by omega] at this
      · rw [v.g1 x (by omega), ← a2 x hx', hn]

/-- The slots that a ready operation looks at. -/
theorem Inv.look (c : DCtx P nt ops n r0 o s b Ts Hs) (v : Inv own β0 w0 nt ds n r0 o s b Ts Hs L β G m a w) {i : Nat} (hi : i < n) (hL : ¬ L i) (hP : ∀ j, Nat.testBit (b i) j = true → L j) {t : Nat} (ht : t ∈ (o i).uses) {u : AV} (hu : (Ts i).get t = some u) : VR w.heap (LF own β G) β u (a.tmps.getD t Go.undef) := by
  refine v.tm t u ?_
  have later : ∀ i', i' < n → L i' → (o i').dst = some t → i' < i := by
    intro i' a1 a2 a3
    rcases Nat.lt_trichotomy i' i with h | h | h
    · exact h
    · subst h; exact absurd a2 hL
    · rcases c.pair i i' h a1 with hb | ⟨ht2, _⟩
      · exact absurd (v.closed i' a1 a2 i hb) hL
      · simp only [tmpOk, apartD, a3, Bool.and_eq_true, Bool.not_eq_true'] at ht2
        have := ht2.1.2
        rw [memN_iff.2 ht] at this; cases this
  rcases c.text i (by omega) t u hu with ⟨k, h1, h2, h3, h4, h5⟩ | ⟨h1, h2⟩
  · have h2 : k < i := h2
    have hLk : L k := by
      rcases c.pair k i h2 hi with hb | ⟨ht2, _⟩
      · exact hP k hb
      · simp only [tmpOk, apartD, h3, Bool.and_eq_true, Bool.not_eq_true'] at ht2
        have := ht2.1.1
        rw [memN_iff.2 ht] at this; cases this
    exact .inl ⟨k, h1, hLk, h3, h4, fun i' a1 a2 a3 => h5 i' a1 (later i' a1 a2 a3) a3⟩
  · exact .inr ⟨fun i' a1 a2 a3 => h1 i' a1 (later i' a1 a2 a3) a3, h2⟩

/-- the slots behind one more operation -/
theorem TSp_more (c : DCtx P nt ops n r0 o s b Ts Hs) (v : Inv own β0 w0 nt ds n r0 o s b Ts Hs L β G m a w) {i : Nat} (hi : i < n) (hL : ¬ L i) {t : Nat} {u : AV} (h : TSp o s (Ts 0) n (fun j => j = i ∨ L j) t u) :
    ((o i).dst = some t ∧ u = (s i).v) ∨ ((o i).dst ≠ some t ∧ TSp o s (Ts 0) n L t u) := by
  by_cases hd : (o i).dst = some t
  · left
    refine ⟨hd, ?_⟩
    rcases h with ⟨k, h1, h2, h3, h4, h5⟩ | ⟨h1, h2⟩
    · have hik := h5 i hi (.inl rfl) hd
      by_cases hki : k = i
      · subst hki; exact h4
      · have hLk := h2.resolve_left hki
        rcases c.pair i k (by omega) h1 with hb | ⟨ht2, _⟩
        · exact absurd (v.closed k h1 hLk i hb) hL
        · simp only [tmpOk, hd, h3, Bool.and_eq_true, Bool.not_eq_true'] at ht2
          have := ht2.2
          simp at this
    · exact absurd hd (h1 i hi (.inl rfl))
  · right
    refine ⟨hd, ?_⟩
    rcases h with ⟨k, h1, h2, h3, h4, h5⟩ | ⟨h1, h2⟩
    · have hki : k ≠ i := fun e => by subst e; exact hd h3
      exact .inl ⟨k, h1, h2.resolve_left hki, h3, h4, fun i' a1 a2 a3 => h5 i' a1 (.inr a2) a3⟩
    · exact .inr ⟨fun i' a1 a2 a3 => h1 i' a1 (.inr a2) a3, h2⟩
end
end
end Go.Eng
