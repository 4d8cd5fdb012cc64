/- A region that draws its order: the objects in parts. -/
import Derived.Test.YtpnekpbehcbmkaaEngL
set_option linter.unusedSimpArgs false
set_option linter.unusedVariables false
set_option linter.unnecessarySimpa false
namespace Go.Eng

abbrev HF := Nat → Option AObj
def liveF (β : Bl) (G : HF) (b : Nat) : Prop := ∃ id o base, G id = some o ∧ β id = some (b, base)
abbrev LF (own : Nat → Prop) (β : Bl) (G : HF) : Nat → Prop := fun b => own b ∨ liveF β G b

structure SimF (own : Nat → Prop) (β : Bl) (G : HF) (nx : Nat) (w : World) : Prop where
  fresh : ∀ id, nx ≤ id → β id = none
  lt : ∀ id b base, β id = some (b, base) → b < w.heap.size
  ownlt : ∀ b, own b → b < w.heap.size
  obj : ∀ id o, G id = some o → ∃ b base, β id = some (b, base) ∧ ¬ own b ∧ OR w.heap (LF own β G) β b base o
  inj : ∀ id id' o o' b x y, G id = some o → G id' = some o' → β id = some (b, x) → β id' = some (b, y) → id = id'

structure TransF (β : Bl) (G : HF) (w : World) (β' : Bl) (G' : HF) (w' : World) : Prop where
  ext : ∀ id x, β id = some x → β' id = some x
  size : w.heap.size ≤ w'.heap.size
  keep : ∀ b, b < w.heap.size → ¬ liveF β G b → w'.heap[b]? = w.heap[b]?
  live : ∀ b, liveF β' G' b → liveF β G b ∨ w.heap.size ≤ b
  shape : ∀ (b : Nat) (cur : Array Value) (e : TypeId) (fz : Nat × Nat), w.heap[b]? = some (.cells cur e fz) → ∃ cur', w'.heap[b]? = some (.cells cur' e fz) ∧ cur'.size = cur.size
  os : w'.os = w.os
  tape : w'.tape = w.tape
  output : w'.output = w.output

theorem TransF.refl (β : Bl) (G : HF) (w : World) : TransF β G w β G w :=
  ⟨fun _ _ h => h, Nat.le_refl _, fun _ _ _ => rfl, fun _ h => .inl h, fun _ cur _ _ h => ⟨cur, h, rfl⟩, rfl, rfl, rfl⟩
theorem TransF.trans {β₁ β₂ β₃ : Bl} {h₁ h₂ h₃ : HF} {w₁ w₂ w₃ : World} (h : TransF β₁ h₁ w₁ β₂ h₂ w₂) (k : TransF β₂ h₂ w₂ β₃ h₃ w₃) : TransF β₁ h₁ w₁ β₃ h₃ w₃ := by
  refine ⟨fun id x hx => k.ext _ _ (h.ext _ _ hx), Nat.le_trans h.size k.size, fun b hb hn => ?_, fun b hb => ?_, fun b cur e fz hc => ?_, k.os.trans h.os, k.tape.trans h.tape, k.output.trans h.output⟩
  · rw [k.keep b (Nat.lt_of_lt_of_le hb h.size) (fun hl => ?_)]
    · exact h.keep b hb hn
    · rcases h.live b hl with h1 | h1
      · exact hn h1
      · omega
  · rcases k.live b hb with h1 | h1
    · exact h.live b h1
    · exact .inr (Nat.le_trans h.size h1)
  · obtain ⟨c1, h1, h2⟩ := h.shape _ _ _ _ hc
    obtain ⟨c2, h3, h4⟩ := k.shape _ _ _ _ h1
    exact ⟨c2, h3, h4.trans h2⟩
theorem TransF.later {own : Nat → Prop} {β β' : Bl} {G G' : HF} {w w' : World} (ht : TransF β G w β' G' w') : Later w.heap (LF own β G) β w'.heap (LF own β' G') β' :=
  ⟨ht.ext, fun b hb hn => ⟨fun hl => hl.elim (fun h1 => hn (.inl h1)) (fun h1 => (ht.live b h1).elim (fun h2 => hn (.inr h2)) (fun h2 => by omega)), ht.keep b hb (fun hl => hn (.inr hl))⟩, ht.shape⟩

/-- blocks of objects that are no part of V -/
def restOwn (own : Nat → Prop) (β : Bl) (G : HF) (V : Hp) : Nat → Prop := fun b => own b ∨ ∃ id o base, G id = some o ∧ V.get id = none ∧ β id = some (b, base)

section
variable {own : Nat → Prop} {β : Bl} {G : HF} {nx : Nat} {w w' : World} {V V' : Hp}

theorem restOwn_iff (hV : ∀ id o, V.get id = some o → G id = some o) (b : Nat) : LL (restOwn own β G V) β V b ↔ LF own β G b := by
  constructor
  · rintro ((h | ⟨id, o, base, h1, _, h3⟩) | ⟨id, o, base, h1, h2⟩)
    · exact .inl h
    · exact .inr ⟨id, o, base, h1, h3⟩
    · exact .inr ⟨id, o, base, hV id o h1, h2⟩
  · rintro (h | ⟨id, o, base, h1, h2⟩)
    · exact .inl (.inl h)
    · cases hv : V.get id with
      | none => exact .inl (.inr ⟨id, o, base, h1, hv, h2⟩)
      | some o' => exact .inr ⟨id, o', base, hv, h2⟩
theorem restOwn_eq (hV : ∀ id o, V.get id = some o → G id = some o) : LL (restOwn own β G V) β V = LF own β G := funext fun b => propext (restOwn_iff hV b)

/-- A part of the objects by itself; all others count as another's. -/
theorem SimF.split (hs : SimF own β G nx w) (hV : ∀ id o, V.get id = some o → G id = some o) : SimH (restOwn own β G V) β V nx w := by
  refine ⟨hs.fresh, hs.lt, ?_, fun id o hg => ?_, fun id id' o o' b x y h1 h2 => hs.inj id id' o o' b x y (hV _ _ h1) (hV _ _ h2)⟩
  · rintro b (h | ⟨id, o, base, h1, _, h3⟩)
    · exact hs.ownlt b h
    · exact hs.lt id b base h3
  · obtain ⟨b, base, h1, h2, h3⟩ := hs.obj id o (hV id o hg)
    refine ⟨b, base, h1, ?_, ?_⟩
    · rintro (h | ⟨id', o', base', k1, k2, k3⟩)
      · exact h2 h
      · have := hs.inj id id' o o' b base base' (hV id o hg) k1 h1 k3
        subst this
        rw [hg] at k2; cases k2
    · have := restOwn_eq (own := own) (β := β) hV
      rw [show (fun b => restOwn own β G V b ∨ live β V b) = LF own β G from this]
      exact h3

/-- the objects after a step of a part of them -/
def glue (G : HF) (V V' : Hp) : HF := fun x => match V'.get x with
  | some o => some o
  | none => match V.get x with
    | none => G x
    | some _ => none

theorem SimF.glue {β' : Bl} {nx' : Nat} {n n' : Nat} (hs : SimF own β G nx w) (hV : ∀ id o, V.get id = some o → G id = some o) (h' : SimH (restOwn own β G V) β' V' nx' w') (ht : Trans (restOwn own β G V) β ⟨V, n⟩ w β' ⟨V', n'⟩ w') :
    SimF own β' (Eng.glue G V V') nx' w' ∧ TransF β G w β' (Eng.glue G V V') w' ∧ LL (restOwn own β G V) β' V' = LF own β' (Eng.glue G V V') ∧ (∀ id o o', G id = some o → V.get id = none → V'.get id = some o' → False) := by
  have hdis : ∀ id o o', G id = some o → V.get id = none → V'.get id = some o' → False := by
    intro id o o' hg hv hv'
    obtain ⟨b, base, hb, _⟩ := hs.obj id o hg
    obtain ⟨b', base', hb', hno, _⟩ := h'.obj id o' hv'
    rw [ht.ext _ _ hb] at hb'
    cases hb'
    exact hno (.inr ⟨id, o, base, hg, hv, hb⟩)
  have hcases : ∀ id o, Eng.glue G V V' id = some o → V'.get id = some o ∨ (V'.get id = none ∧ V.get id = none ∧ G id = some o) := by
    intro id o hg
    unfold Eng.glue at hg
    split at hg
    · rename_i o' ho; cases hg; exact .inl ho
    · rename_i ho
      split at hg
      · rename_i hv; exact .inr ⟨ho, hv, hg⟩
      · cases hg
  have hLeq : LL (restOwn own β G V) β' V' = LF own β' (Eng.glue G V V') := by
    funext b
    apply propext
    constructor
    · rintro ((h | ⟨id, o, base, h1, h2, h3⟩) | ⟨id, o, base, h1, h2⟩)
      · exact .inl h
      · refine .inr ⟨id, o, base, ?_, ht.ext _ _ h3⟩
        unfold Eng.glue
        cases hv' : V'.get id with
        | some o' => exact (hdis id o o' h1 h2 hv').elim
        | none => simp [h2, h1]
      · exact .inr ⟨id, o, base, by unfold Eng.glue; rw [h1], h2⟩
    · rintro (h | ⟨id, o, base, h1, h2⟩)
      · exact .inl (.inl h)
      · rcases hcases id o h1 with h3 | ⟨_, h4, h5⟩
        · exact .inr ⟨id, o, base, h3, h2⟩
        · obtain ⟨b', base', hb', _⟩ := hs.obj id o h5
          have := ht.ext _ _ hb'
          rw [h2] at this
          cases this
          exact .inl (.inr ⟨id, o, base, h5, h4, hb'⟩)
  have hkeepX : ∀ id o b base, G id = some o → V.get id = none → β id = some (b, base) → w'.heap[b]? = w.heap[b]? := by
    intro id o b base hg hv hb
    refine ht.keep b (hs.lt id b base hb) ?_
    rintro ⟨id', o', base', h1, h2⟩
    have := hs.inj id id' o o' b base base' hg (hV _ _ h1) hb h2
    subst this
    rw [hv] at h1; cases h1
  have htF : TransF β G w β' (Eng.glue G V V') w' := by
    refine ⟨ht.ext, ht.size, fun b hb hn => ht.keep b hb (fun ⟨id, o, base, h1, h2⟩ => hn ⟨id, o, base, hV _ _ h1, h2⟩), ?_, ht.shape, ht.os, ht.tape, ht.output⟩
    rintro b ⟨id, o, base, h1, h2⟩
    rcases hcases id o h1 with h3 | ⟨_, h4, h5⟩
    · rcases ht.live b ⟨id, o, base, h3, h2⟩ with ⟨id', o', base', k1, k2⟩ | k
      · exact .inl ⟨id', o', base', hV _ _ k1, k2⟩
      · exact .inr k
    · obtain ⟨b', base', hb', _⟩ := hs.obj id o h5
      have := ht.ext _ _ hb'
      rw [h2] at this
      cases this
      exact .inl ⟨id, o, base, h5, hb'⟩
  refine ⟨⟨h'.fresh, h'.lt, fun b hb => Nat.lt_of_lt_of_le (hs.ownlt b hb) ht.size, fun id o hg => ?_, fun id id' o o' b x y hg hg' hb hb' => ?_⟩, htF, hLeq, hdis⟩
  · rcases hcases id o hg with h3 | ⟨_, h4, h5⟩
    · obtain ⟨b, base, hb, hno, hor⟩ := h'.obj id o h3
      refine ⟨b, base, hb, fun hown => hno (.inl hown), ?_⟩
      rw [show (fun b => restOwn own β G V b ∨ live β' V' b) = LF own β' (Eng.glue G V V') from hLeq] at hor
      exact hor
    · obtain ⟨b, base, hb, hno, hor⟩ := hs.obj id o h5
      exact ⟨b, base, ht.ext _ _ hb, hno, hor.later htF.later (hkeepX id o b base h5 h4 hb)⟩
  · have X : ∀ id1 id2 o1 o2 x1 x2, V'.get id1 = some o1 → V.get id2 = none → G id2 = some o2 → β' id1 = some (b, x1) → β' id2 = some (b, x2) → False := by
      intro id1 id2 o1 o2 x1 x2 k1 k2 k3 k4 k5
      obtain ⟨b1, base1, hb1, hno, _⟩ := h'.obj id1 o1 k1
      rw [k4] at hb1; cases hb1
      obtain ⟨b2, base2, hb2, _⟩ := hs.obj id2 o2 k3
      have := ht.ext _ _ hb2
      rw [k5] at this; cases this
      exact hno (.inr ⟨id2, o2, x2, k3, k2, hb2⟩)
    rcases hcases id o hg with h3 | ⟨_, h4, h5⟩
    · rcases hcases id' o' hg' with k3 | ⟨_, k4, k5⟩
      · exact h'.inj id id' o o' b x y h3 k3 hb hb'
      · exact (X id id' o o' x y h3 k4 k5 hb hb').elim
    · rcases hcases id' o' hg' with k3 | ⟨_, k4, k5⟩
      · exact (X id' id o' o y x k3 h4 h5 hb' hb).elim
      · obtain ⟨b1, base1, hb1, _⟩ := hs.obj id o h5
        obtain ⟨b2, base2, hb2, _⟩ := hs.obj id' o' k5
        have e1 := ht.ext _ _ hb1
        have e2 := ht.ext _ _ hb2
        rw [hb] at e1; rw [hb'] at e2
        cases e1; cases e2
        exact hs.inj id id' o o' b x y h5 k5 hb1 hb2
end

/-! ### what an operation looks at -/
theorem memN_iff {t : Nat} : ∀ {l : List Nat}, memN t l = true ↔ t ∈ l
  | [] => by simp [memN]
  | x :: r => by simp [memN, memN_iff (l := r)]

section
variable {T T' : Tm}
theorem ev_congr {x : Opd} (h : ∀ t ∈ x.use, T'.get t = T.get t) : x.ev T' = x.ev T := by
  cases x with
  | tmp t => simp only [Opd.ev]; rw [h t (by simp [Opd.use])]
  | const v => rfl
theorem evO_congr {x : Option Opd} (h : ∀ t ∈ usesO x, T'.get t = T.get t) : x.map (·.ev T') = x.map (·.ev T) := by
  cases x with
  | none => rfl
  | some x => simp only [Option.map_some]; rw [ev_congr h]
theorem evL_congr : ∀ {xs : List Opd}, (∀ t ∈ usesL xs, T'.get t = T.get t) → xs.map (·.ev T') = xs.map (·.ev T)
  | [], _ => rfl
  | x :: xs, h => by
    simp only [List.map_cons]
    rw [ev_congr (fun t ht => h t (by simp [usesL, ht])), evL_congr (fun t ht => h t (by simp [usesL, ht]))]
theorem afillT_congr : ∀ {ps : List (Nat × Nat × Opd)} {cs : List AV}, (∀ t ∈ usesP ps, T'.get t = T.get t) → afillT T' cs ps = afillT T cs ps
  | [], _, _ => rfl
  | (o, s, x) :: ps, cs, h => by
    unfold afillT
    rw [ev_congr (x := x) (fun t ht => h t (by simp [usesP, ht]))]
    split
    · simp only
      split
      · split
        · exact afillT_congr (fun t ht => h t (by simp [usesP, ht]))
        · rfl
      · rfl
    · rfl
theorem aop_congr {cl : Handler} {h : AH} {ao : AOp} (hT : ∀ t ∈ ao.uses, T'.get t = T.get t) : aop cl T' h ao = aop cl T h ao := by
  cases ao <;> simp only [AOp.uses] at hT <;> simp only [aop, kMov, kPick, kNew, kBox, kBuild, kBuildSl, kLd1, kLdn, kSt, kNilchk, kArith, kEqs, kEqn, kEqf, kUn, kConvI, kFld, kFldA, kIdxA, kIdxArrA, kIdx, kIdxS, kSl, kSlS, kLen, kLenS, kConvS, kLenc, kApp, kCopy, kMnmx, kExt, kMkf, kMksl, kCall, ← afillT_eq]
  all_goals first
    | (rw [ev_congr (fun t ht => hT t ht)]; done)
    | (rw [ev_congr (fun t ht => hT t (by simp [ht])), ev_congr (fun t ht => hT t (by simp [ht]))]; done)
    | (rw [ev_congr (fun t ht => hT t (by simp [ht])), ev_congr (fun t ht => hT t (by simp [ht])), ev_congr (fun t ht => hT t (by simp [ht]))]; done)
    | (rw [afillT_congr (fun t ht => hT t ht)]; done)
    | (rw [evL_congr (fun t ht => hT t ht)]; done)
    | (rw [evL_congr (fun t ht => hT t (by simp [ht])), evL_congr (fun t ht => hT t (by simp [ht]))]; done)
    | (rw [ev_congr (fun t ht => hT t (by simp [ht])), evL_congr (fun t ht => hT t (by simp [ht]))]; done)
    | (rw [ev_congr (fun t ht => hT t (by simp [ht])), evO_congr (fun t ht => hT t (by simp [ht])), evO_congr (fun t ht => hT t (by simp [ht])), evO_congr (fun t ht => hT t (by simp [ht]))]; done)
    | (rw [ev_congr (fun t ht => hT t (by simp [ht])), evO_congr (fun t ht => hT t (by simp [ht])), evO_congr (fun t ht => hT t (by simp [ht]))]; done)
    | skip
theorem aalloc_congr {ao : AOp} (hT : ∀ t ∈ ao.uses, T'.get t = T.get t) : aalloc T' ao = aalloc T ao := by
  cases ao <;> simp only [AOp.uses] at hT <;> simp only [aalloc]
  all_goals first
    | (rw [ev_congr (fun t ht => hT t ht)]; done)
    | (rw [ev_congr (fun t ht => hT t (by simp [ht])), ev_congr (fun t ht => hT t (by simp [ht]))]; done)
    | (rw [afillT_congr (fun t ht => hT t ht)]; done)
    | skip
end

end Go.Eng
