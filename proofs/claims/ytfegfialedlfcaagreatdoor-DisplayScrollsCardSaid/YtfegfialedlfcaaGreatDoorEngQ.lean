/- A region that draws its order: whatever the order, the end is the one of the text's order. A region that draws its order: the proof. A region that draws its order: one operation more, and the whole. -/
import Derived.Test.YtfegfialedlfcaaGreatDoorEngM
set_option linter.unusedSimpArgs false
set_option linter.unusedVariables false
set_option linter.unnecessarySimpa false
noncomputable section
namespace Go.Eng
theorem kX_pure {h h' : AH} {k : XK} {as : List AV} {v : AV} (hA : xA k = false) (hE : xE k = false) (hR : xRd k as = none) (h1 : kX h k as = some (v, h')) : h' = h ∧ ∀ h2, kX h2 k as = some (v, h2) := by
  cases k <;> simp only [xE] at hE <;> (try (cases hE; done)) <;> simp only [xA] at hA <;> (try (cases hA; done))
  case mapget k ok zero =>
    match as, hR, h1 with
    | [], _, h1 => simp [kX] at h1
    | [_], _, h1 => simp [kX] at h1
    | m :: key :: x :: r, _, h1 => simp [kX] at h1
    | [m, key], hR, h1 =>
      cases m <;> simp [kX, amap] at h1
      case nilmap =>
        simp only [kX, amap]
        obtain ⟨q1, q2⟩ := h1
        simp only [q1, if_true]
        simp only [kfind] at q2 ⊢
        cases q2
        exact ⟨rfl, fun _ => rfl⟩
      case mapv id => simp [xRd] at hR
  case b2s =>
    match as, hR, h1 with
    | [], _, h1 => simp [kX] at h1
    | m :: x :: r, _, h1 => simp [kX] at h1
    | [m], hR, h1 =>
      have key : ∀ g : AH, acells g 1 m = acells h 1 m := fun g => by cases m <;> first | rfl | (simp [xRd] at hR)
      simp only [kX] at h1 ⊢
      cases ha : acells h 1 m with
      | none => rw [ha] at h1; cases h1
      | some cs =>
        cases hl : alen m with
        | none => rw [ha, hl] at h1; cases h1
        | some n =>
          rw [ha, hl] at h1
          cases hb : bytesI cs with
          | none => simp only [hb] at h1; cases h1
          | some s => simp only [hb] at h1; cases h1; exact ⟨rfl, fun g => by rw [key g, ha]; simp only [hb]⟩
  case r2s =>
    match as, hR, h1 with
    | [], _, h1 => simp [kX] at h1
    | m :: x :: r, _, h1 => simp [kX] at h1
    | [m], hR, h1 =>
      have key : ∀ g : AH, acells g 1 m = acells h 1 m := fun g => by cases m <;> first | rfl | (simp [xRd] at hR)
      simp only [kX] at h1 ⊢
      cases ha : acells h 1 m with
      | none => rw [ha] at h1; cases h1
      | some cs =>
        cases hl : alen m with
        | none => rw [ha, hl] at h1; cases h1
        | some n =>
          rw [ha, hl] at h1
          cases hb : ascI cs with
          | some s => simp only [hb] at h1; cases h1; exact ⟨rfl, fun g => by rw [key g, ha]; simp only [hb]⟩
          | none =>
            cases hi : i32s cs with
            | none => simp only [hb, hi] at h1; cases h1
            | some ns => simp only [hb, hi] at h1; cases h1; exact ⟨rfl, fun g => by rw [key g, ha]; simp only [hb, hi]⟩
  case i2s =>
    match as, h1 with
    | [], h1 => simp [kX] at h1
    | m :: x :: r, h1 => cases m <;> simp [kX] at h1
    | [m], h1 =>
      cases m <;> simp [kX] at h1
      obtain ⟨rfl, rfl⟩ := h1
      exact ⟨rfl, fun _ => by simp [kX]⟩
  case s2b =>
    match as, h1 with
    | [], h1 => simp [kX] at h1
    | m :: x :: r, h1 => cases m <;> simp [kX] at h1
    | [m], h1 =>
      cases m <;> simp [kX] at h1
      obtain ⟨h0, rfl, rfl⟩ := h1
      exact ⟨rfl, fun _ => by simp [kX, h0]⟩
  case mkif t =>
    match as, h1 with
    | [], h1 => simp [kX] at h1
    | m :: x :: r, h1 => simp [kX] at h1
    | [m], h1 =>
      simp [kX] at h1
      obtain ⟨rfl, rfl⟩ := h1
      exact ⟨rfl, fun _ => by simp [kX]⟩
  case eqif neg =>
    match as, h1 with
    | [], h1 => simp [kX] at h1
    | m :: x :: r, h1 => cases m <;> simp [kX] at h1
    | [m], h1 =>
      cases m <;> simp [kX] at h1
      all_goals (obtain ⟨rfl, rfl⟩ := h1; exact ⟨rfl, fun _ => by simp [kX]⟩)
  case maplen =>
    match as, hR, h1 with
    | [], _, h1 => simp [kX] at h1
    | m :: x :: r, _, h1 => simp [kX] at h1
    | [m], hR, h1 =>
      cases m <;> simp [kX, amap] at h1
      case nilmap =>
        obtain ⟨rfl, rfl⟩ := h1
        exact ⟨rfl, fun _ => by simp [kX, amap]⟩
      case mapv id => simp [xRd] at hR
theorem kX_read {h h' : AH} {k : XK} {as : List AV} {v : AV} {x : Nat} (hR : xRd k as = some x) (h1 : kX h k as = some (v, h')) :
    h' = h ∧ (∃ ob, h.H.get x = some ob) ∧ ∀ h2 : AH, h2.H.get x = h.H.get x → kX h2 k as = some (v, h2) := by
  have hm : ∀ h2 : AH, h2.H.get x = h.H.get x → h2.mapAt x = h.mapAt x := fun h2 he => by unfold AH.mapAt; rw [he]
  have hs : ∀ kvs, h.mapAt x = some kvs → ∃ ob, h.H.get x = some ob := fun kvs hk => by
    unfold AH.mapAt at hk
    split at hk
    · rename_i hg; exact ⟨_, hg⟩
    · cases hk
  unfold xRd at hR
  split at hR
  · rename_i k ok zero id r
    cases hR
    match r, h1 with
    | [], h1 => simp [kX] at h1
    | key :: y :: r, h1 => simp [kX] at h1
    | [key], h1 =>
      simp only [kX, amap] at h1 ⊢
      split at h1
      · rename_i hk
        cases hq : h.mapAt x with
        | none => simp [hq] at h1
        | some kvs =>
          simp only [hq] at h1
          refine ⟨?_, hs _ hq, fun h2 he => ?_⟩
          · split at h1 <;> cases h1 <;> rfl
          · rw [if_pos hk, hm h2 he, hq]
            simp only
            split at h1
            · rename_i hf; cases h1; simp only [hf]
            · rename_i hf; cases h1; simp only [hf]
            · cases h1
      · cases h1
  · rename_i id r
    cases hR
    match r, h1 with
    | y :: r, h1 => simp [kX] at h1
    | [], h1 =>
      simp only [kX, amap] at h1 ⊢
      cases hq : h.mapAt x with
      | none => simp [hq] at h1
      | some kvs =>
        simp only [hq] at h1
        cases h1
        exact ⟨rfl, hs _ hq, fun h2 he => by rw [hm h2 he, hq]⟩
  · rename_i id off len z r
    cases hR
    match r, h1 with
    | y :: r, h1 => simp [kX] at h1
    | [], h1 =>
      have key : ∀ g : AH, g.H.get x = h.H.get x → acells g 1 (.rsl x off len z) = acells h 1 (.rsl x off len z) := fun g he => by
        have : g.cellsAt x = h.cellsAt x := by unfold AH.cellsAt; rw [he]
        simp only [acells, this]
      have hob : ∀ cs, acells h 1 (.rsl x off len z) = some cs → ∃ ob, h.H.get x = some ob := fun cs hc => by
        simp only [acells] at hc
        split at hc
        · split at hc
          · rename_i c2 hc2
            unfold AH.cellsAt at hc2
            split at hc2
            · rename_i hg; exact ⟨_, hg⟩
            all_goals first | (rename_i hg; exact ⟨_, hg⟩) | (cases hc2)
          · cases hc
        · cases hc
      simp only [kX] at h1 ⊢
      cases ha : acells h 1 (.rsl x off len z) with
      | none => rw [ha] at h1; cases h1
      | some cs =>
        rw [ha] at h1
        simp only [alen] at h1 ⊢
        cases hb : bytesI cs with
        | none => simp only [hb] at h1; cases h1
        | some s => simp only [hb] at h1; cases h1; exact ⟨rfl, hob _ ha, fun g he => by rw [key g he, ha]; simp only [hb]⟩
  · rename_i id off len z r
    cases hR
    match r, h1 with
    | y :: r, h1 => simp [kX] at h1
    | [], h1 =>
      have key : ∀ g : AH, g.H.get x = h.H.get x → acells g 1 (.rsl x off len z) = acells h 1 (.rsl x off len z) := fun g he => by
        have : g.cellsAt x = h.cellsAt x := by unfold AH.cellsAt; rw [he]
        simp only [acells, this]
      have hob : ∀ cs, acells h 1 (.rsl x off len z) = some cs → ∃ ob, h.H.get x = some ob := fun cs hc => by
        simp only [acells] at hc
        split at hc
        · split at hc
          · rename_i c2 hc2
            unfold AH.cellsAt at hc2
            split at hc2
            · rename_i hg; exact ⟨_, hg⟩
            all_goals first | (rename_i hg; exact ⟨_, hg⟩) | (cases hc2)
          · cases hc
        · cases hc
      simp only [kX] at h1 ⊢
      cases ha : acells h 1 (.rsl x off len z) with
      | none => rw [ha] at h1; cases h1
      | some cs =>
        rw [ha] at h1
        simp only [alen] at h1 ⊢
        cases hb : ascI cs with
        | some s => simp only [hb] at h1; cases h1; exact ⟨rfl, hob _ ha, fun g he => by rw [key g he, ha]; simp only [hb]⟩
        | none =>
          cases hi : i32s cs with
          | none => simp only [hb, hi] at h1; cases h1
          | some ns => simp only [hb, hi] at h1; cases h1; exact ⟨rfl, hob _ ha, fun g he => by rw [key g he, ha]; simp only [hb, hi]⟩
  · cases hR
theorem aop_pure {cl : Handler} {T : Tm} {h h' : AH} {ao : AOp} {v : AV} (hA : aA ao = false) (hE : aE ao = false) (hR : aRd T ao = none) (h1 : aop cl T h ao = some (v, h')) : h' = h ∧ ∀ h2, aop cl T h2 ao = some (v, h2) := by
  cases ao <;> simp only [aA, aE] at hA hE <;> (try (cases hA; done)) <;> (try (cases hE; done)) <;> simp only [aop, kMov, kPick, kNew, kBox, kBuild, kBuildSl, kLd1, kLdn, kSt, kNilchk, kArith, kEqs, kEqn, kEqf, kUn, kConvI, kFld, kFldA, kIdxA, kIdxArrA, kIdx, kIdxS, kSl, kSlS, kLen, kLenS, kConvS, kLenc, kApp, kCopy, kMnmx, kExt, kMkf, kMksl, kCall, ← afillT_eq] at h1 ⊢
  case xo k as => exact kX_pure hA hE hR h1
  case ld1 x =>
    simp only [aRd] at hR
    cases hx : x.ev T <;> rw [hx] at h1 hR <;> simp only [aload1] at h1 ⊢ <;> (try (cases h1; done)) <;> (try (cases hR; done))
    split at h1
    · rename_i hq; cases h1; exact ⟨rfl, fun h2 => by first | rfl | rw [hq]⟩
    · cases h1
  case ldn n x =>
    simp only [aRd] at hR
    cases hx : x.ev T <;> rw [hx] at h1 hR <;> simp only [aloadn] at h1 ⊢ <;> (try (cases h1; done)) <;> (try (cases hR; done))
    split at h1
    · rename_i hq; cases h1; exact ⟨rfl, fun h2 => by first | rfl | rw [hq]⟩
    · cases h1
  case pick c x y =>
    split at h1
    · rename_i t ht; cases h1; exact ⟨rfl, fun h2 => by first | rfl | simp only [ht]⟩
    · cases h1
  case nilchk x =>
    split at h1 <;> first | (cases h1; done) | (rename_i hx; cases h1; exact ⟨rfl, fun h2 => by first | rfl | simp only [hx]⟩)
  case eqs neg x y =>
    split at h1
    · rename_i hx hy; cases h1; exact ⟨rfl, fun h2 => by first | rfl | simp only [hx, hy]⟩
    · cases h1
  case eqf neg ks x y =>
    split at h1
    · rename_i xs ys hx hy
      cases hq : eqCells ks xs ys with
      | none => simp [hq] at h1
      | some b => simp only [hq] at h1; cases h1; exact ⟨rfl, fun h2 => by first | rfl | simp only [hx, hy, hq]⟩
    · cases h1
  case convI k x =>
    split at h1
    · rename_i hx; cases h1; exact ⟨rfl, fun h2 => by first | rfl | simp only [hx]⟩
    · rename_i hx
      split at h1
      · rename_i hf; cases h1; exact ⟨rfl, fun h2 => by first | rfl | simp only [hx, hf, if_true]⟩
      · cases h1
    · rename_i hx
      split at h1
      · rename_i hf; cases h1; exact ⟨rfl, fun h2 => by first | rfl | simp only [hx, hf, if_true] | simp [hx, hf]⟩
      · cases h1
    · rename_i hx
      split at h1
      · rename_i hf; cases h1; exact ⟨rfl, fun h2 => by first | rfl | simp only [hx, hf, if_true] | simp [hx, hf]⟩
      · cases h1
    · cases h1
  case fld off n x =>
    split at h1
    · rename_i cs hx
      cases hq : apart n cs off with
      | none => simp [hq] at h1
      | some b => simp only [hq] at h1; cases h1; exact ⟨rfl, fun h2 => by first | rfl | simp only [hx, hq]⟩
    · cases h1
  case idxArrA len z x i =>
    split at h1
    · rename_i j hj
      cases hq : afldA (j * z) (x.ev T) with
      | none => simp [hq] at h1
      | some b => simp only [hq] at h1; cases h1; exact ⟨rfl, fun h2 => by first | rfl | simp only [hj, hq]⟩
    · cases h1
  case idx len z n x i =>
    split at h1
    · rename_i j cs hj hx
      cases hq : apart n cs (j * z) with
      | none => simp [hq] at h1
      | some b => simp only [hq] at h1; cases h1; exact ⟨rfl, fun h2 => by first | rfl | simp only [hj, hx, hq]⟩
    · cases h1
  case idxS x i =>
    split at h1
    · rename_i s hx
      cases hj : aix s.length (i.ev T) with
      | none => simp [hj] at h1
      | some j =>
        simp only [hj] at h1
        cases hq : s[j]? with
        | none => simp [hq] at h1
        | some c => simp only [hq] at h1; cases h1; exact ⟨rfl, fun h2 => by first | rfl | simp only [hx, hj, hq]⟩
    · cases h1
  case slS x lo hi =>
    split at h1
    · rename_i s hx
      cases hq : asliceS s (lo.map (·.ev T)) (hi.map (·.ev T)) with
      | none => simp [hq] at h1
      | some b => simp only [hq] at h1; cases h1; exact ⟨rfl, fun h2 => by first | rfl | simp only [hx, hq]⟩
    · cases h1
  case lenS x =>
    split at h1
    · rename_i hx; cases h1; exact ⟨rfl, fun h2 => by first | rfl | simp only [hx]⟩
    · cases h1
  case convS x =>
    split at h1
    · rename_i hx; cases h1; exact ⟨rfl, fun h2 => by first | rfl | simp only [hx]⟩
    · cases h1
  case mnmx mx x y =>
    split at h1
    · rename_i hx hy; cases h1; exact ⟨rfl, fun h2 => by first | rfl | simp only [hx, hy]⟩
    · rename_i hxy
      split at h1
      · rename_i hv; cases h1; exact ⟨rfl, fun h2 => by first | rfl | simp only [hv]⟩
      · cases h1
  case ext x i =>
    split at h1
    · rename_i vs hx
      cases hq : vs[i]? with
      | none => simp [hq] at h1
      | some b => simp only [hq] at h1; cases h1; exact ⟨rfl, fun h2 => by first | rfl | simp only [hx, hq]⟩
    · cases h1
  all_goals first
    | (cases h1; done)
    | (cases h1; exact ⟨rfl, fun _ => rfl⟩)
    | (split at h1
       · rename_i hq; cases h1; exact ⟨rfl, fun h2 => by first | rfl | simp only [hq]⟩
       · cases h1)

theorem aop_read {cl : Handler} {T : Tm} {h h' : AH} {ao : AOp} {v : AV} {x : Nat} (hR : aRd T ao = some x) (h1 : aop cl T h ao = some (v, h')) :
    h' = h ∧ (∃ ob, h.H.get x = some ob) ∧ ∀ h2 : AH, h2.H.get x = h.H.get x → aop cl T h2 ao = some (v, h2) := by
  cases ao <;> simp only [aRd] at hR <;> (try (cases hR; done)) <;> simp only [aop, kMov, kPick, kNew, kBox, kBuild, kBuildSl, kLd1, kLdn, kSt, kNilchk, kArith, kEqs, kEqn, kEqf, kUn, kConvI, kFld, kFldA, kIdxA, kIdxArrA, kIdx, kIdxS, kSl, kSlS, kLen, kLenS, kConvS, kLenc, kApp, kCopy, kMnmx, kExt, kMkf, kMksl, kCall, ← afillT_eq] at h1 ⊢
  case xo k as => exact kX_read hR h1
  case ld1 a =>
    cases ha : a.ev T <;> rw [ha] at h1 hR <;> simp only at hR <;> (try (cases hR; done))
    all_goals (
      rename_i id off
      cases hR
      simp only [aload1, AH.cellsAt, AH.globAt] at h1 ⊢
      cases hg : h.H.get x with
      | none => simp [hg] at h1
      | some ob =>
        refine ⟨?_, ⟨ob, rfl⟩, fun h2 he => ?_⟩
        · split at h1
          · cases h1; rfl
          · cases h1
        · rw [he]
          rw [hg] at h1
          split at h1
          · rename_i hq; cases h1; first | rfl | rw [hq]
          · cases h1)
  case ldn n a =>
    cases ha : a.ev T <;> rw [ha] at h1 hR <;> simp only at hR <;> (try (cases hR; done))
    all_goals (
      rename_i id off
      cases hR
      simp only [aloadn, AH.cellsAt, AH.globAt] at h1 ⊢
      cases hg : h.H.get x with
      | none => simp [hg] at h1
      | some ob =>
        refine ⟨?_, ⟨ob, rfl⟩, fun h2 he => ?_⟩
        · split at h1
          · cases h1; rfl
          · cases h1
        · rw [he]
          rw [hg] at h1
          split at h1
          · rename_i hq; cases h1; first | rfl | rw [hq]
          · cases h1)

/-- The entries of some slots alone. -/
def restr (T : Tm) : List Nat → Tm
  | [] => .leaf
  | t :: l => match T.get t with
    | some v => (restr T l).put t v
    | none => restr T l
theorem restr_get (T : Tm) : ∀ (l : List Nat) (t : Nat), (restr T l).get t = if t ∈ l then T.get t else none
  | [], t => by simp [restr, Tm.get_leaf]
  | x :: l, t => by
    unfold restr
    split
    · rename_i v hv
      rw [Tm.get_put]
      by_cases h : t = x
      · subst h; simp [hv]
      · simp [h, restr_get T l t]
    · rename_i hv
      rw [restr_get T l t]
      by_cases h : t = x
      · subst h; simp [hv]
      · simp [h]

/-- What a step of the run is. -/
inductive DSp (cl : Handler) (o : AOpr) (r : Nat) (T : Tm) (h : AH) : DStep → Prop where
  | skip (hg : gd T o.guard = some false) : DSp cl o r T h ⟨T, h, skipped, .pure⟩
  | alloc (hg : gd T o.guard = some true) (cs : AObj) (mk : Nat → AV) (ha : aalloc T o.op = some (cs, mk)) : DSp cl o r T h ⟨T, h, mk r, .alloc r cs⟩
  | eff (hg : gd T o.guard = some true) (v : AV) (h' : AH) (ha : aop cl T h o.op = some (v, h')) (hup : h.nx ≤ h'.nx) : DSp cl o r T h ⟨T, h, v, .eff h h'⟩
  | read (hg : gd T o.guard = some true) (v : AV) (h' : AH) (x : Nat) (ha : aop cl T h o.op = some (v, h')) (hr : aRd T o.op = some x) : DSp cl o r T h ⟨T, h, v, .read x⟩
  | pure (hg : gd T o.guard = some true) (v : AV) (h' : AH) (ha : aop cl T h o.op = some (v, h')) (hA : aA o.op = false) (hE : aE o.op = false) (hr : aRd T o.op = none) : DSp cl o r T h ⟨T, h, v, .pure⟩
theorem dstep_sp {cl : Handler} {o : AOpr} {r : Nat} {T : Tm} {h : AH} {s : DStep} (hs : dstep cl o r T h = some s) : DSp cl o r T h s := by
  unfold dstep at hs
  split at hs
  · rename_i hg; cases hs; exact .skip hg
  · rename_i hg
    split at hs
    · split at hs
      · rename_i cs mk ha; cases hs; exact .alloc hg cs mk ha
      · cases hs
    · rename_i hA
      split at hs
      · rename_i v h' ha
        split at hs
        · split at hs
          · rename_i hup; cases hs; exact .eff hg v h' ha (Nat.le_of_ble_eq_true hup)
          · cases hs
        · rename_i hE
          split at hs
          · rename_i x hx; cases hs; exact .read hg v h' x ha hx
          · rename_i hx; cases hs; exact .pure hg v h' ha (by simpa using hA) (by simpa using hE) hx
      · cases hs
  · cases hs

/-- All that the proof knows of the run in the text's order. -/
structure DCtx (P : Program) (nt : Nat) (ops : Array Oper) (π : Nat → Nat) (n r0 : Nat) (o : Nat → AOpr) (s : Nat → DStep) (b : Nat → Nat) (Ts : Nat → Tm) (Hs : Nat → AH) : Prop where
  cop : ∀ i, i < n → ∃ oo, ops[π i]? = some oo ∧ cOpr P nt ops oo = some (o i)
  step : ∀ i, i < n → ∃ cl, HOk P cl ∧ DSp cl (o i) (r0 + i) (Ts i) (Hs i) (s i)
  Tn : ∀ i, i < n → Ts (i + 1) = tput (Ts i) (o i).dst (s i).v
  Hn : ∀ i, i < n → Hs (i + 1) = (s i).h'
  pair : ∀ i j, i < j → j < n → Nat.testBit (b j) i = true ∨ (tmpOk (o i) (o j) = true ∧ recOk (s i).k (s j).k = true)
  nx0 : r0 + n ≤ (Hs 0).nx
  dead0 : ∀ id, r0 ≤ id → (Hs 0).H.get id = none

/-- The operations of a region in an order that its edges let: at position i stands operation π i. -/
structure DL (P : Program) (nt : Nat) (ops : Array Oper) (L : List (AOpr × Nat)) (π : Nat → Nat) : Prop where
  len : L.length = ops.size
  lt : ∀ i, i < ops.size → π i < ops.size
  out : ∀ i, ops.size ≤ i → π i = i
  inj : ∀ i j, i < ops.size → j < ops.size → π i = π j → i = j
  sur : ∀ j, j < ops.size → ∃ i, i < ops.size ∧ π i = j
  cop : ∀ i x, L[i]? = some x → ∃ oo, ops[π i]? = some oo ∧ cOpr P nt ops oo = some x.1
  bef : ∀ i x, L[i]? = some x → ∀ oo, ops[π i]? = some oo → ∀ j, Nat.testBit x.2 j = true → ∃ e ∈ oo.after, Region.binds .any e = true ∧ (e.on = π j ∨ ∃ k y, L[k]? = some y ∧ π k = e.on ∧ Nat.testBit y.2 j = true)
  edge : ∀ i oo, ops[π i]? = some oo → ∀ e ∈ oo.after, Region.binds .any e = true → ∃ k, k < i ∧ e.on = π k

mutual
theorem AV.beq_eq : ∀ (a b : AV), AV.beq a b = true → a = b
  | .undef, b, h => by cases b <;> simp [AV.beq] at h <;> rfl
  | .bool a, b, h => by cases b <;> simp [AV.beq] at h; subst h; rfl
  | .int k a, b, h => by cases b <;> simp [AV.beq] at h; obtain ⟨rfl, rfl⟩ := h; rfl
  | .str a, b, h => by cases b <;> simp [AV.beq] at h; subst h; rfl
  | .agg a, b, h => by cases b <;> simp [AV.beq] at h; rw [AV.beqL_eq _ _ h]
  | .tup a, b, h => by cases b <;> simp [AV.beq] at h; rw [AV.beqL_eq _ _ h]
  | .ptr x y, b, h => by cases b <;> simp [AV.beq] at h; obtain ⟨rfl, rfl⟩ := h; rfl
  | .nilptr, b, h => by cases b <;> simp [AV.beq] at h <;> rfl
  | .pptr a, b, h => by cases b <;> simp [AV.beq] at h; rw [AV.beqL_eq _ _ h]
  | .gptr a c, b, h => by cases b <;> simp [AV.beq] at h; rw [h.1, h.2]
  | .nilsl, b, h => by cases b <;> simp [AV.beq] at h <;> rfl
  | .esl, b, h => by cases b <;> simp [AV.beq] at h <;> rfl
  | .psl a, b, h => by cases b <;> simp [AV.beq] at h; rw [AV.beqLL_eq _ _ h]
  | .rsl x y z u, b, h => by cases b <;> simp [AV.beq] at h; obtain ⟨⟨⟨rfl, rfl⟩, rfl⟩, rfl⟩ := h; rfl
  | .mapv x, b, h => by cases b <;> simp [AV.beq] at h; subst h; rfl
  | .nilmap, b, h => by cases b <;> simp [AV.beq] at h <;> rfl
  | .func f x y, b, h => by cases b <;> simp [AV.beq] at h; obtain ⟨⟨rfl, h1⟩, h2⟩ := h; rw [AV.beqL_eq _ _ h1, AV.beqL_eq _ _ h2]
  | .nilfunc, b, h => by cases b <;> simp [AV.beq] at h <;> rfl
  | .nilif, b, h => by cases b <;> simp [AV.beq] at h <;> rfl
  | .iface t a, b, h => by cases b <;> simp [AV.beq] at h; obtain ⟨rfl, h1⟩ := h; rw [AV.beq_eq _ _ h1]
  | .scol k m r i j l lo hi, b, h => by cases b <;> simp [AV.beq] at h; obtain ⟨⟨⟨⟨⟨⟨⟨rfl, rfl⟩, rfl⟩, rfl⟩, rfl⟩, rfl⟩, rfl⟩, rfl⟩ := h; rfl
  | .gsl x y z, b, h => by cases b <;> simp [AV.beq] at h; obtain ⟨⟨rfl, rfl⟩, rfl⟩ := h; rfl
  | .oint k rs, b, h => by cases b <;> simp [AV.beq] at h; obtain ⟨rfl, rfl⟩ := h; rfl
  | .lin k l c lo hi, b, h => by cases b <;> simp [AV.beq] at h; obtain ⟨⟨⟨⟨rfl, h1⟩, rfl⟩, rfl⟩, rfl⟩ := h; rw [linEq_eq h1]
  | .sint k m i c lo hi, b, h => by cases b <;> simp [AV.beq] at h; obtain ⟨⟨⟨⟨⟨rfl, rfl⟩, rfl⟩, rfl⟩, rfl⟩, rfl⟩ := h; rfl
theorem AV.beqL_eq : ∀ (a b : List AV), AV.beqL a b = true → a = b
  | [], b, h => by cases b <;> simp [AV.beqL] at h; rfl
  | x :: a, b, h => by cases b <;> simp [AV.beqL] at h; rw [AV.beq_eq _ _ h.1, AV.beqL_eq _ _ h.2]
theorem AV.beqLL_eq : ∀ (a b : List (List AV)), AV.beqLL a b = true → a = b
  | [], b, h => by cases b <;> simp [AV.beqLL] at h; rfl
  | x :: a, b, h => by cases b <;> simp [AV.beqLL] at h; rw [AV.beqL_eq _ _ h.1, AV.beqLL_eq _ _ h.2]
end
theorem beqKV_eq : ∀ (a b : List (AV × AV)), beqKV a b = true → a = b
  | [], b, h => by cases b <;> simp [beqKV] at h; rfl
  | (x, y) :: a, b, h => by
    cases b with
    | nil => simp [beqKV] at h
    | cons p b =>
      obtain ⟨u, v⟩ := p
      simp [beqKV] at h
      rw [AV.beq_eq _ _ h.1.1, AV.beq_eq _ _ h.1.2, beqKV_eq _ _ h.2]
theorem obEq_eq {a b : Option AObj} (h : obEq a b = true) : a = b := by
  unfold obEq at h
  split at h
  · rfl
  · rw [AV.beqL_eq _ _ h]
  · rw [beqKV_eq _ _ h]
  · rename_i s p t q
    simp at h
    obtain ⟨h1, rfl⟩ := h
    have : s = t := ByteArray.ext h1
    rw [this]
  · simp at h
    obtain ⟨rfl, h2⟩ := h
    rw [AV.beqL_eq _ _ h2]
  · simp at h
    obtain ⟨rfl, h2⟩ := h
    rw [AV.beqL_eq _ _ h2]
  · cases h
end Go.Eng
end
noncomputable section
namespace Go.Eng
section
variable {P : Program} {nt : Nat} {ds : List Deferred} {ops : Array Oper} {π : Nat → Nat} {n r0 : Nat} {o : Nat → AOpr} {s : Nat → DStep} {b : Nat → Nat} {Ts : Nat → Tm} {Hs : Nat → AH}
def isEff (s : Nat → DStep) (i : Nat) : Prop := ∃ V C, (s i).k = .eff V C
def isAl (s : Nat → DStep) (i : Nat) : Prop := ∃ r cs, (s i).k = .alloc r cs

theorem DCtx.effs (c : DCtx P nt ops π n r0 o s b Ts Hs) {i : Nat} (hi : i < n) {V C : AH} (hk : (s i).k = .eff V C) : V = Hs i ∧ C = Hs (i + 1) := by
  have h1 := c.Hn i hi
  obtain ⟨cl, _, h2⟩ := c.step i hi
  generalize s i = t at *
  cases h2 <;> simp only at hk <;> cases hk
  exact ⟨rfl, by rw [h1]; rfl⟩
theorem DCtx.als (c : DCtx P nt ops π n r0 o s b Ts Hs) {i : Nat} (hi : i < n) {r : Nat} {cs : AObj} (hk : (s i).k = .alloc r cs) : r = r0 + i ∧ Hs (i + 1) = ⟨(Hs i).H.put (r0 + i) cs, (Hs i).nx⟩ := by
  have h1 := c.Hn i hi
  obtain ⟨cl, _, h2⟩ := c.step i hi
  generalize s i = t at *
  cases h2 <;> simp only at hk <;> cases hk
  exact ⟨rfl, by rw [h1]; rfl⟩
theorem DCtx.stays (c : DCtx P nt ops π n r0 o s b Ts Hs) {i : Nat} (hi : i < n) (h1 : ¬ isEff s i) (h2 : ¬ isAl s i) : Hs (i + 1) = Hs i := by
  have h3 := c.Hn i hi
  obtain ⟨cl, _, h4⟩ := c.step i hi
  unfold isEff at h1
  unfold isAl at h2
  generalize s i = t at *
  cases h4
  · rw [h3]; rfl
  · exact absurd ⟨_, _, rfl⟩ h2
  · exact absurd ⟨_, _, rfl⟩ h1
  · rw [h3]; rfl
  · rw [h3]; rfl

/-- The state of the slots when the operations of L have been carried out. -/
def TSp (o : Nat → AOpr) (s : Nat → DStep) (T0 : Tm) (n : Nat) (L : Nat → Prop) (t : Nat) (u : AV) : Prop :=
  (∃ i, i < n ∧ L i ∧ (o i).dst = some t ∧ u = (s i).v ∧ ∀ i', i' < n → L i' → (o i').dst = some t → i' ≤ i) ∨ ((∀ i, i < n → L i → (o i).dst ≠ some t) ∧ T0.get t = some u)

theorem DCtx.text (c : DCtx P nt ops π n r0 o s b Ts Hs) : ∀ (i : Nat), i ≤ n → ∀ t u, (Ts i).get t = some u → TSp o s (Ts 0) n (· < i) t u := by
  intro i
  induction i with
  | zero => intro _ t u h; exact .inr ⟨fun i _ h => by simp at h, h⟩
  | succ i ih =>
    intro hi t u h
    rw [c.Tn i (by omega)] at h
    cases hd : (o i).dst with
    | none =>
      rw [hd] at h
      simp only [tput] at h
      rcases ih (by omega) t u h with ⟨k, h1, h2, h3, h4, h5⟩ | ⟨h1, h2⟩
      · refine .inl ⟨k, h1, by simp only at h2 ⊢; omega, h3, h4, fun i' a1 a2 a3 => ?_⟩
        by_cases he : i' = i
        · subst he; rw [hd] at a3; cases a3
        · exact h5 i' a1 (by simp only at a2 ⊢; omega) a3
      · refine .inr ⟨fun i' a1 a2 a3 => ?_, h2⟩
        by_cases he : i' = i
        · subst he; rw [hd] at a3; cases a3
        · exact h1 i' a1 (by simp only at a2 ⊢; omega) a3
    | some d =>
      rw [hd] at h
      simp only [tput] at h
      by_cases ht : t = d
      · subst ht
        rw [Tm.get_put_same] at h; cases h
        exact .inl ⟨i, by omega, by simp only; omega, hd, rfl, fun i' a1 a2 a3 => by simp only at a2; omega⟩
      · rw [Tm.get_put_ne _ _ ht] at h
        rcases ih (by omega) t u h with ⟨k, h1, h2, h3, h4, h5⟩ | ⟨h1, h2⟩
        · refine .inl ⟨k, h1, by simp only at h2 ⊢; omega, h3, h4, fun i' a1 a2 a3 => ?_⟩
          by_cases he : i' = i
          · subst he; rw [hd] at a3; cases a3; exact absurd rfl ht
          · exact h5 i' a1 (by simp only at a2 ⊢; omega) a3
        · refine .inr ⟨fun i' a1 a2 a3 => ?_, h2⟩
          by_cases he : i' = i
          · subst he; rw [hd] at a3; cases a3; exact absurd rfl ht
          · exact h1 i' a1 (by simp only at a2 ⊢; omega) a3

structure Inv (own : Nat → Prop) (β0 : Bl) (w0 : World) (nt : Nat) (ds : List Deferred) (n r0 : Nat) (o : Nat → AOpr) (s : Nat → DStep) (b : Nat → Nat) (Ts : Nat → Tm) (Hs : Nat → AH) (L : Nat → Prop) (β : Bl) (G : HF) (m : Nat) (a : Act) (w : World) : Prop where
  sim : SimF own β G (Hs m).nx w
  sz : a.tmps.size = nt
  df : a.defers = ds
  closed : ∀ i, i < n → L i → ∀ j, Nat.testBit (b i) j = true → L j
  mle : m ≤ n
  cut : m = 0 ∨ ∃ e, m = e + 1 ∧ L e ∧ isEff s e
  cutE : ∀ e, e < n → isEff s e → L e → e < m
  g1 : ∀ x, (x < r0 + m ∨ r0 + n ≤ x) → G x = (Hs m).H.get x
  g2 : ∀ j, m ≤ j → j < n → L j → ∀ r cs, (s j).k = .alloc r cs → G (r0 + j) = some cs
  g3 : ∀ j, m ≤ j → j < n → (¬ L j ∨ ¬ isAl s j) → G (r0 + j) = none
  m0 : ∀ j, m ≤ j → j < n → (Hs m).H.get (r0 + j) = none
  resv : ∀ j, j < n → (¬ L j ∨ ¬ isAl s j) → β (r0 + j) = none
  low : ∀ id, id < r0 → β id = β0 id
  tm : ∀ t u, TSp o s (Ts 0) n L t u → VR w.heap (LF own β G) β u (a.tmps.getD t Go.undef)
  trans : TransF β0 (fun x => (Hs 0).H.get x) w0 β G w

section
variable {own : Nat → Prop} {β0 : Bl} {w0 : World} {L : Nat → Prop} {β : Bl} {G : HF} {m : Nat} {a : Act} {w : World}
/-- All numbers from those of the region's start on are far ahead. -/
theorem DCtx.nxm (c : DCtx P nt ops π n r0 o s b Ts Hs) (hup : ∀ i, i < n → (Hs i).nx ≤ (Hs (i + 1)).nx) : ∀ i, i ≤ n → r0 + n ≤ (Hs i).nx
  | 0, _ => c.nx0
  | i + 1, h => Nat.le_trans (c.nxm hup i (by omega)) (hup i (by omega))

/-- ahead of the cut everything that makes or turns objects has been carried out -/
theorem Inv.ahead (c : DCtx P nt ops π n r0 o s b Ts Hs) (v : Inv own β0 w0 nt ds n r0 o s b Ts Hs L β G m a w) {k : Nat} (hk : k < m) (h : isEff s k ∨ isAl s k) : L k := by
  rcases v.cut with rfl | ⟨e, rfl, he, hE⟩
  · omega
  · by_cases hke : k = e
    · subst hke; exact he
    · have hkn : e < n := by have := v.mle; omega
      rcases c.pair k e (by omega) hkn with hb | ⟨_, hr⟩
      · exact v.closed e hkn he k hb
      · obtain ⟨V, C, hV⟩ := hE
        rcases h with ⟨V', C', hV'⟩ | ⟨r, cs, hr'⟩
        · rw [hV, hV'] at hr; simp [recOk] at hr
        · rw [hV, hr'] at hr; simp [recOk] at hr

/-- The object that a reading operation reads is the one of the text's order. -/
theorem Inv.readSame (c : DCtx P nt ops π n r0 o s b Ts Hs) (v : Inv own β0 w0 nt ds n r0 o s b Ts Hs L β G m a w) {i x : Nat} (hi : i < n) (hL : ¬ L i) (hP : ∀ j, Nat.testBit (b i) j = true → L j) (hk : (s i).k = .read x) {ob : AObj} (hob : (Hs i).H.get x = some ob) : G x = some ob := by
  have hiE : ¬ isEff s i := by rintro ⟨V, C, h⟩; rw [hk] at h; cases h
  have hiA : ¬ isAl s i := by rintro ⟨V, C, h⟩; rw [hk] at h; cases h
  -- one step that does not make x leaves x alone
  have stepEq : ∀ k, k < n → (k < i → m ≤ k) → (i ≤ k → k < m) → x ≠ r0 + k ∨ ¬ isAl s k → (Hs (k + 1)).H.get x = (Hs k).H.get x := by
    intro k hkn h1 h2 hx
    by_cases hE : isEff s k
    · obtain ⟨V, C, hV⟩ := hE
      obtain ⟨rfl, rfl⟩ := c.effs hkn hV
      rcases Nat.lt_trichotomy k i with hlt | heq | hgt
      · have hnL : ¬ L k := fun h => by have := v.cutE k hkn ⟨_, _, hV⟩ h; have := h1 hlt; omega
        rcases c.pair k i hlt hi with hb | ⟨_, hr⟩
        · exact absurd (hP k hb) hnL
        · rw [hV, hk] at hr; simp only [recOk] at hr; exact (obEq_eq hr).symm
      · subst heq; exact absurd ⟨_, _, hV⟩ hiE
      · rcases c.pair i k hgt hkn with hb | ⟨_, hr⟩
        · exact absurd (v.closed k hkn (v.ahead c (h2 (by omega)) (.inl ⟨_, _, hV⟩)) i hb) hL
        · rw [hV, hk] at hr; simp only [recOk] at hr; exact (obEq_eq hr).symm
    · by_cases hA : isAl s k
      · obtain ⟨r, cs, hr⟩ := hA
        rw [(c.als hkn hr).2, PM.get_put_ne]
        exact hx.resolve_right (fun h => h ⟨r, cs, hr⟩)
      · rw [c.stays hkn hE hA]
  rcases Nat.lt_or_ge i m with him | hmi
  · -- the cut lies behind
    have hall : ∀ k, i ≤ k → k ≤ m → (Hs k).H.get x = some ob := by
      intro k hik
      induction hik with
      | refl => intro _; exact hob
      | @step k hik ih =>
        intro hkm
        have hkm' : k < m := hkm
        rw [stepEq k (by have := v.mle; omega) (fun h => by have : i ≤ k := hik; omega) (fun _ => hkm') ?_]
        · exact ih (by omega)
        · by_cases hA : isAl s k
          · left
            have hik' : i ≤ k := hik
            have hne : i ≠ k := fun h => by subst h; exact hiA hA
            rcases c.pair i k (by omega) (by have := v.mle; omega) with hb | ⟨_, hr⟩
            · exact absurd (v.closed k (by have := v.mle; omega) (v.ahead c hkm' (.inr hA)) i hb) hL
            · obtain ⟨r, cs, hrk⟩ := hA
              rw [hk, hrk] at hr
              simp only [recOk] at hr
              rw [(c.als (by have := v.mle; omega) hrk).1] at hr
              intro he; subst he; simp at hr
          · exact .inr hA
    have hm := hall m (by omega) (Nat.le_refl _)
    rw [v.g1 x ?_, hm]
    by_cases hx : r0 + m ≤ x ∧ x < r0 + n
    · have := v.m0 (x - r0) (by omega) (by omega)
      rw [show r0 + (x - r0) = x by omega, hm] at this
      cases this
    · omega
  · by_cases hx : ∃ k, m ≤ k ∧ k < i ∧ x = r0 + k ∧ isAl s k
    · obtain ⟨k, hk1, hk2, rfl, hA⟩ := hx
      obtain ⟨r, cs, hr⟩ := hA
      have hLk : L k := by
        rcases c.pair k i hk2 hi with hb | ⟨_, hrr⟩
        · exact hP k hb
        · rw [hr, hk] at hrr
          simp only [recOk] at hrr
          rw [(c.als (by omega) hr).1] at hrr
          simp at hrr
      have hall : ∀ q, k + 1 ≤ q → q ≤ i → (Hs q).H.get (r0 + k) = some cs := by
        intro q hq
        induction hq with
        | refl => intro _; rw [(c.als (by omega) hr).2, PM.get_put_same]
        | @step q hq ih =>
          intro hqi
          have hq' : k + 1 ≤ q := hq
          have hqi' : q < i := hqi
          rw [stepEq q (by omega) (fun _ => by omega) (fun h => by omega) (.inl (by omega))]
          exact ih (by omega)
      have := hall i (by omega) (Nat.le_refl _)
      rw [hob] at this
      rw [this]
      exact v.g2 k hk1 (by omega) hLk r cs hr
    · have hall : ∀ q, m ≤ q → q ≤ i → (Hs q).H.get x = (Hs m).H.get x := by
        intro q hq
        induction hq with
        | refl => intro _; rfl
        | @step q hq ih =>
          intro hqi
          have hq' : m ≤ q := hq
          have hqi' : q < i := hqi
          rw [stepEq q (by omega) (fun _ => hq') (fun h => by omega) ?_, ih (by omega)]
          by_cases hA : isAl s q
          · left; intro he; exact hx ⟨q, hq', hqi', he, hA⟩
          · exact .inr hA
      have hm := hall i hmi (Nat.le_refl _)
      rw [hob] at hm
      rw [v.g1 x ?_, ← hm]
      by_cases hx2 : r0 + m ≤ x ∧ x < r0 + n
      · have := v.m0 (x - r0) (by omega) (by omega)
        rw [show r0 + (x - r0) = x by omega, ← hm] at this
        cases this
      · omega

/-- At an operation with an effect: what it may meet is there, as it was in the text's order. -/
theorem Inv.effSub (c : DCtx P nt ops π n r0 o s b Ts Hs) (v : Inv own β0 w0 nt ds n r0 o s b Ts Hs L β G m a w) {i : Nat} (hi : i < n) (hL : ¬ L i) (hP : ∀ j, Nat.testBit (b i) j = true → L j) (hE : isEff s i) :
    m ≤ i ∧ (Hs i).nx = (Hs m).nx ∧ (∀ x ob, (Hs i).H.get x = some ob → G x = some ob) ∧ (∀ x, (x < r0 + (i + 1) ∨ r0 + n ≤ x) → (Hs i).H.get x = none → G x = none) ∧ (∀ j, i < j → j < n → (Hs i).H.get (r0 + j) = none) := by
  have hmi : m ≤ i := by
    rcases Nat.lt_or_ge i m with h | h
    · exact absurd (v.ahead c h (.inl hE)) hL
    · exact h
  have noE : ∀ k, m ≤ k → k < i → ¬ isEff s k := by
    intro k h1 h2 hk
    rcases c.pair k i h2 hi with hb | ⟨_, hr⟩
    · have := v.cutE k (by omega) hk (hP k hb); omega
    · obtain ⟨V, C, hV⟩ := hE
      obtain ⟨V', C', hV'⟩ := hk
      rw [hV, hV'] at hr; simp [recOk] at hr
  have alL : ∀ k, m ≤ k → k < i → isAl s k → L k := by
    intro k h1 h2 hk
    rcases c.pair k i h2 hi with hb | ⟨_, hr⟩
    · exact hP k hb
    · obtain ⟨V, C, hV⟩ := hE
      obtain ⟨r, cs, hr'⟩ := hk
      rw [hV, hr'] at hr; simp [recOk] at hr
  have hall : ∀ q, m ≤ q → q ≤ i → (Hs q).nx = (Hs m).nx ∧ (∀ x, (∀ k, m ≤ k → k < q → isAl s k → x ≠ r0 + k) → (Hs q).H.get x = (Hs m).H.get x) ∧ (∀ k, m ≤ k → k < q → ∀ r cs, (s k).k = .alloc r cs → (Hs q).H.get (r0 + k) = some cs) := by
    intro q hq
    induction hq with
    | refl => intro _; exact ⟨rfl, fun _ _ => rfl, fun k h1 h2 => by omega⟩
    | @step q hq ih =>
      intro hqi
      have hq' : m ≤ q := hq
      have hqi' : q < i := hqi
      obtain ⟨a1, a2, a3⟩ := ih (by omega)
      by_cases hA : isAl s q
      · obtain ⟨r, cs, hr⟩ := hA
        have hH := (c.als (by omega) hr).2
        refine ⟨by rw [hH]; exact a1, fun x hx => ?_, fun k h1 h2 r' cs' hr' => ?_⟩
        · rw [hH, PM.get_put_ne _ _ (hx q hq' (by omega) ⟨r, cs, hr⟩)]
          exact a2 x (fun k h1 h2 => hx k h1 (by omega))
        · by_cases hkq : k = q
          · subst hkq; rw [hr] at hr'; cases hr'; rw [hH, PM.get_put_same]
          · rw [hH, PM.get_put_ne _ _ (by omega)]; exact a3 k h1 (by omega) r' cs' hr'
      · have hH := c.stays (i := q) (by omega) (noE q hq' hqi') hA
        rw [hH]
        refine ⟨a1, fun x hx => a2 x (fun k h1 h2 => hx k h1 (by omega)), fun k h1 h2 r' cs' hr' => ?_⟩
        by_cases hkq : k = q
        · subst hkq; exact absurd ⟨r', cs', hr'⟩ hA
        · exact a3 k h1 (by omega) r' cs' hr'
  obtain ⟨a1, a2, a3⟩ := hall i hmi (Nat.le_refl _)
  have res : ∀ x, (∀ k, m ≤ k → k < i → isAl s k → x ≠ r0 + k) → r0 + m ≤ x → x < r0 + n → (Hs i).H.get x = none := by
    intro x hx h1 h2
    rw [a2 x hx]
    have := v.m0 (x - r0) (by omega) (by omega)
    rwa [show r0 + (x - r0) = x by omega] at this
  refine ⟨hmi, a1, fun x ob hob => ?_, fun x hx hn => ?_, fun j h1 h2 => res _ (fun k _ hk _ => by omega) (by omega) (by omega)⟩
  · by_cases hx : ∃ k, m ≤ k ∧ k < i ∧ isAl s k ∧ x = r0 + k
    · obtain ⟨k, h1, h2, hA, rfl⟩ := hx
      obtain ⟨r, cs, hr⟩ := hA
      rw [a3 k h1 h2 r cs hr] at hob
      rw [v.g2 k h1 (by omega) (alL k h1 h2 ⟨r, cs, hr⟩) r cs hr, hob]
    · have hx' : ∀ k, m ≤ k → k < i → isAl s k → x ≠ r0 + k := fun k h1 h2 h3 he => hx ⟨k, h1, h2, h3, he⟩
      by_cases hr : r0 + m ≤ x ∧ x < r0 + n
      · rw [res x hx' hr.1 hr.2] at hob; cases hob
      · rw [v.g1 x (by omega), ← a2 x hx', hob]
  · by_cases hx2 : ∃ k, m ≤ k ∧ k < i ∧ isAl s k ∧ x = r0 + k
    · obtain ⟨k, h1, h2, hA, rfl⟩ := hx2
      obtain ⟨r, cs, hr⟩ := hA
      rw [a3 k h1 h2 r cs hr] at hn; cases hn
    · have hx' : ∀ k, m ≤ k → k < i → isAl s k → x ≠ r0 + k := fun k h1 h2 h3 he => hx2 ⟨k, h1, h2, h3, he⟩
      by_cases hr : r0 + m ≤ x ∧ x < r0 + n
      · have := v.g3 (x - r0) (by omega) (by omega) (.inr (fun hA => by
          by_cases hxi : x - r0 = i
          · rw [hxi] at hA
            obtain ⟨V, C, hV⟩ := hE
            obtain ⟨r, cs, hr'⟩ := hA
            rw [hV] at hr'; cases hr'
          · exact hx' (x - r0) (by omega) (by omega) hA (by omega)))
        rwa [show r0 + (x - r0) = x by omega] at this
      · rw [v.g1 x (by omega), ← a2 x hx', hn]

/-- The slots that a ready operation looks at. -/
theorem Inv.look (c : DCtx P nt ops π n r0 o s b Ts Hs) (v : Inv own β0 w0 nt ds n r0 o s b Ts Hs L β G m a w) {i : Nat} (hi : i < n) (hL : ¬ L i) (hP : ∀ j, Nat.testBit (b i) j = true → L j) {t : Nat} (ht : t ∈ (o i).uses) {u : AV} (hu : (Ts i).get t = some u) : VR w.heap (LF own β G) β u (a.tmps.getD t Go.undef) := by
  refine v.tm t u ?_
  have later : ∀ i', i' < n → L i' → (o i').dst = some t → i' < i := by
    intro i' a1 a2 a3
    rcases Nat.lt_trichotomy i' i with h | h | h
    · exact h
    · subst h; exact absurd a2 hL
    · rcases c.pair i i' h a1 with hb | ⟨ht2, _⟩
      · exact absurd (v.closed i' a1 a2 i hb) hL
      · simp only [tmpOk, apartD, a3, Bool.and_eq_true, Bool.not_eq_true'] at ht2
        have := ht2.1.2
        rw [memN_iff.2 ht] at this; cases this
  rcases c.text i (by omega) t u hu with ⟨k, h1, h2, h3, h4, h5⟩ | ⟨h1, h2⟩
  · have h2 : k < i := h2
    have hLk : L k := by
      rcases c.pair k i h2 hi with hb | ⟨ht2, _⟩
      · exact hP k hb
      · simp only [tmpOk, apartD, h3, Bool.and_eq_true, Bool.not_eq_true'] at ht2
        have := ht2.1.1
        rw [memN_iff.2 ht] at this; cases this
    exact .inl ⟨k, h1, hLk, h3, h4, fun i' a1 a2 a3 => h5 i' a1 (later i' a1 a2 a3) a3⟩
  · exact .inr ⟨fun i' a1 a2 a3 => h1 i' a1 (later i' a1 a2 a3) a3, h2⟩

/-- the slots behind one more operation -/
theorem TSp_more (c : DCtx P nt ops π n r0 o s b Ts Hs) (v : Inv own β0 w0 nt ds n r0 o s b Ts Hs L β G m a w) {i : Nat} (hi : i < n) (hL : ¬ L i) {t : Nat} {u : AV} (h : TSp o s (Ts 0) n (fun j => j = i ∨ L j) t u) :
    ((o i).dst = some t ∧ u = (s i).v) ∨ ((o i).dst ≠ some t ∧ TSp o s (Ts 0) n L t u) := by
  by_cases hd : (o i).dst = some t
  · left
    refine ⟨hd, ?_⟩
    rcases h with ⟨k, h1, h2, h3, h4, h5⟩ | ⟨h1, h2⟩
    · have hik := h5 i hi (.inl rfl) hd
      by_cases hki : k = i
      · subst hki; exact h4
      · have hLk := h2.resolve_left hki
        rcases c.pair i k (by omega) h1 with hb | ⟨ht2, _⟩
        · exact absurd (v.closed k h1 hLk i hb) hL
        · simp only [tmpOk, hd, h3, Bool.and_eq_true, Bool.not_eq_true'] at ht2
          have := ht2.2
          simp at this
    · exact absurd hd (h1 i hi (.inl rfl))
  · right
    refine ⟨hd, ?_⟩
    rcases h with ⟨k, h1, h2, h3, h4, h5⟩ | ⟨h1, h2⟩
    · have hki : k ≠ i := fun e => by subst e; exact hd h3
      exact .inl ⟨k, h1, h2.resolve_left hki, h3, h4, fun i' a1 a2 a3 => h5 i' a1 (.inr a2) a3⟩
    · exact .inr ⟨fun i' a1 a2 a3 => h1 i' a1 (.inr a2) a3, h2⟩
end
end
end Go.Eng
end
noncomputable section
namespace Go.Eng
theorem gd_congr {T T' : Tm} {o : AOpr} (h : ∀ t ∈ o.uses, T'.get t = T.get t) : gd T' o.guard = gd T o.guard := by
  unfold AOpr.uses at h
  cases hg : o.guard with
  | none => rfl
  | some p =>
    obtain ⟨t, b⟩ := p
    rw [hg] at h
    simp only [gd]
    rw [h t (by simp)]
theorem uses_op {o : AOpr} {t : Nat} (h : t ∈ o.op.uses) : t ∈ o.uses := by
  unfold AOpr.uses
  split
  · exact List.mem_cons_of_mem _ h
  · exact h

section
variable {P : Program} {nt : Nat} {ds : List Deferred} {ops : Array Oper} {π : Nat → Nat} {n r0 : Nat} {o : Nat → AOpr} {s : Nat → DStep} {b : Nat → Nat} {Ts : Nat → Tm} {Hs : Nat → AH}
variable {own : Nat → Prop} {β0 : Bl} {w0 : World} {L : Nat → Prop} {β : Bl} {G : HF} {m : Nat} {a : Act} {w : World}
/-- What holds behind one more operation that leaves the cut where it is. -/
theorem Inv.next (c : DCtx P nt ops π n r0 o s b Ts Hs) (v : Inv own β0 w0 nt ds n r0 o s b Ts Hs L β G m a w) {i : Nat} (hi : i < n) (hL : ¬ L i) (hP : ∀ j, Nat.testBit (b i) j = true → L j) (hE : ¬ isEff s i)
    {β' : Bl} {G' : HF} {w' : World} {cv : Value} (hd : cDst nt (o i).dst = true) (hs : SimF own β' G' (Hs m).nx w') (ht : TransF β G w β' G' w') (hv : VR w'.heap (LF own β' G') β' (s i).v cv)
    (hlow : ∀ id, id < (Hs m).nx → id ≠ r0 + i → β' id = β id) (hbi : ¬ isAl s i → β' (r0 + i) = none) (hnx : r0 + n ≤ (Hs m).nx)
    (hG : ∀ x, x ≠ r0 + i → G' x = G x) (hGi : ¬ isAl s i → G' (r0 + i) = G (r0 + i)) (hGa : ∀ r cs, (s i).k = .alloc r cs → m ≤ i ∧ G' (r0 + i) = some cs) :
    Inv own β0 w0 nt ds n r0 o s b Ts Hs (fun j => j = i ∨ L j) β' G' m (a.put (o i).dst cv) w' := by
  have old : ∀ t u, TSp o s (Ts 0) n L t u → VR w'.heap (LF own β' G') β' u (a.tmps.getD t Go.undef) := fun t u hu => (v.tm t u hu).later ht.later
  refine ⟨hs, ?_, ?_, ?_, v.mle, ?_, ?_, ?_, ?_, ?_, v.m0, ?_, ?_, ?_, v.trans.trans ht⟩
  · cases hdd : (o i).dst <;> simp [Act.put, v.sz]
  · cases hdd : (o i).dst <;> simp [Act.put, v.df]
  · intro j hj hLj k hk
    rcases hLj with rfl | hLj
    · exact .inr (hP k hk)
    · exact .inr (v.closed j hj hLj k hk)
  · rcases v.cut with h | ⟨e, h1, h2, h3⟩
    · exact .inl h
    · exact .inr ⟨e, h1, .inr h2, h3⟩
  · intro e he hEe hLe
    rcases hLe with rfl | hLe
    · exact absurd hEe hE
    · exact v.cutE e he hEe hLe
  · intro x hx
    by_cases hxi : x = r0 + i
    · subst hxi
      by_cases hA : isAl s i
      · obtain ⟨r, cs, hr⟩ := hA
        obtain ⟨h1, _⟩ := hGa r cs hr
        omega
      · rw [hGi hA]; exact v.g1 _ hx
    · rw [hG x hxi]; exact v.g1 x hx
  · intro j h1 h2 hLj r cs hr
    by_cases hji : j = i
    · subst hji; exact (hGa r cs hr).2
    · rw [hG _ (by omega)]; exact v.g2 j h1 h2 (hLj.resolve_left hji) r cs hr
  · intro j h1 h2 hj
    by_cases hji : j = i
    · subst hji
      rcases hj with hj | hj
      · exact absurd (.inl rfl) hj
      · rw [hGi hj]; exact v.g3 j h1 h2 (.inr hj)
    · rw [hG _ (by omega)]
      exact v.g3 j h1 h2 (hj.imp (fun h hl => h (.inr hl)) id)
  · intro j h1 hj
    by_cases hji : j = i
    · subst hji
      rcases hj with hj | hj
      · exact absurd (.inl rfl) hj
      · exact hbi hj
    · rw [hlow _ (by omega) (by omega)]
      exact v.resv j h1 (hj.imp (fun h hl => h (.inr hl)) id)
  · intro id hid
    rw [hlow id (by omega) (by omega)]
    exact v.low id hid
  · intro t u hu
    rcases TSp_more c v hi hL hu with ⟨h1, rfl⟩ | ⟨h1, h2⟩
    · have hlt : t < a.tmps.size := by
        rw [v.sz]; rw [h1] at hd; simpa [cDst] using hd
      rw [h1]
      simpa [Act.put, hlt] using hv
    · have := old t u h2
      cases hdd : (o i).dst with
      | none => exact this
      | some d =>
        have hne : d ≠ t := fun e => by subst e; exact h1 hdd
        simpa [Act.put, Array.getElem?_setIfInBounds_ne hne] using this

/-- One more operation. -/
theorem Inv.step (c : DCtx P nt ops π n r0 o s b Ts Hs) (hnx : ∀ i, i ≤ n → r0 + n ≤ (Hs i).nx) (v : Inv own β0 w0 nt ds n r0 o s b Ts Hs L β G m a w) {i : Nat} (hi : i < n) (hL : ¬ L i) (hP : ∀ j, Nat.testBit (b i) j = true → L j)
    {K : Act → World → Prop} {Q : Exit → Act → World → Prop} (hK : ∀ β' G' m' a' w', Inv own β0 w0 nt ds n r0 o s b Ts Hs (fun j => j = i ∨ L j) β' G' m' a' w' → K a' w') : wpOp P ops Q (π i) K a w := by
  obtain ⟨oo, hoo, hco⟩ := c.cop i hi
  obtain ⟨q1, q2, q3⟩ := cOpr_spec hco
  unfold wpOp
  simp only [hoo]
  -- the slots that it looks at
  have hTr : ∀ t ∈ (o i).uses, (restr (Ts i) (o i).uses).get t = (Ts i).get t := fun t ht => by rw [restr_get, if_pos ht]
  have mkSim : ∀ V : Hp, (∀ id ob, V.get id = some ob → G id = some ob) → Sim nt ds (restOwn own β G V) β (restr (Ts i) (o i).uses) ⟨V, (Hs m).nx⟩ a w := by
    intro V hV
    refine ⟨v.sim.split hV, v.sz, fun t u hu => ?_, v.df⟩
    rw [restr_get] at hu
    split at hu
    · rename_i ht
      have := v.look c hi hL hP ht hu
      rw [show LL (restOwn own β G V) β (⟨V, (Hs m).nx⟩ : AH).H = LF own β G from restOwn_eq hV]
      exact this
    · cases hu
  have hleaf : ∀ id ob, (PM.leaf : Hp).get id = some ob → G id = some ob := fun id ob h => by simp [PM.get] at h
  have hgd := gd_congr hTr
  have q2' : cDst nt (o i).dst = true := by rw [q3]; exact q2
  obtain ⟨cl, hcl, hst⟩ := c.step i hi
  -- an operation that turns no object
  have quiet : ∀ (V : Hp), (∀ id ob, V.get id = some ob → G id = some ob) → (¬ isEff s i) → (¬ isAl s i) → ∀ u, (s i).v = u → aop cl (restr (Ts i) (o i).uses) ⟨V, (Hs m).nx⟩ (o i).op = some (u, ⟨V, (Hs m).nx⟩) → oo.wp P a w K Q := by
    intro V hV hE hA u hu ha
    refine op_wp hcl (mkSim V hV) q1 ha fun cv w' β' g1 g2 g3 => ?_
    obtain ⟨k1, k2, k3, _⟩ := v.sim.glue hV g1 g3
    have hGG : Eng.glue G V V = G := by
      funext x
      unfold Eng.glue
      cases hx : V.get x with
      | some ob => exact (hV x ob hx).symm
      | none => rfl
    rw [hGG] at k1 k2 k3
    rw [← q3]
    refine hK β' G m _ w' (v.next c hi hL hP hE q2' k1 k2 ?_ (fun id hid _ => g3.low id hid) (fun h => ?_) (hnx m v.mle) (fun x _ => rfl) (fun _ => rfl) (fun r cs hr => absurd ⟨r, cs, hr⟩ hA))
    · rw [hu]
      rw [show LL (restOwn own β G V) β' (⟨V, (Hs m).nx⟩ : AH).H = LF own β' G from k3] at g2
      exact g2
    · rw [g3.low _ (by have := hnx m v.mle; simp only; omega)]
      exact v.resv i hi (.inr h)
  generalize hsi : s i = si at hst
  cases hst with
  | skip hg =>
    have hw := gd_wanted (mkSim .leaf hleaf) hco (hgd.trans hg)
    rw [hw, if_neg (by simp)]
    have hE : ¬ isEff s i := by rintro ⟨V, C, h⟩; rw [hsi] at h; cases h
    have hA : ¬ isAl s i := by rintro ⟨V, C, h⟩; rw [hsi] at h; cases h
    rw [← q3]
    refine hK β G m _ w (v.next c hi hL hP hE q2' v.sim (.refl _ _ _) ?_ (fun _ _ _ => rfl) (fun h => v.resv i hi (.inr h)) (hnx m v.mle) (fun _ _ => rfl) (fun _ => rfl) (fun r cs hr => absurd ⟨r, cs, hr⟩ hA))
    rw [hsi]
    exact .tup [] #[] rfl (fun i c v hc => by simp at hc)
  | alloc hg cs mk ha =>
    have hw := gd_wanted (mkSim .leaf hleaf) hco (hgd.trans hg)
    rw [hw, if_pos rfl]
    refine .inl ?_
    have hE : ¬ isEff s i := by rintro ⟨V, C, h⟩; rw [hsi] at h; cases h
    have hAl : isAl s i := ⟨_, _, by rw [hsi]⟩
    have hmi : m ≤ i := by
      rcases Nat.lt_or_ge i m with h | h
      · exact absurd (v.ahead c h (.inr hAl)) hL
      · exact h
    have ha' : aalloc (restr (Ts i) (o i).uses) (o i).op = some (cs, mk) := by
      rw [aalloc_congr (fun t ht => hTr t (uses_op ht))]; exact ha
    have hsim := mkSim .leaf hleaf
    obtain ⟨cv, w', hrun, g1, g2, _, g3⟩ := alloc_opX (P := P) (a := a) hsim.hp (fun x y hxy => cOpd_ok hsim hxy) q1 ha' (r0 + i) (v.resv i hi (.inl hL))
    obtain ⟨k1, k2, k3, _⟩ := v.sim.glue hleaf g1 g3
    have hnx' := hnx m v.mle
    have hmax : max (Hs m).nx (r0 + i + 1) = (Hs m).nx := by omega
    rw [hmax] at k1
    unfold Oper.wp
    rw [hrun]
    show K _ _
    rw [← q3]
    have hGx : ∀ x, x ≠ r0 + i → Eng.glue G .leaf ((PM.leaf : Hp).put (r0 + i) cs) x = G x := by
      intro x hx
      unfold Eng.glue
      rw [PM.get_put_ne _ _ hx]
      simp [PM.get]
    have hGi : Eng.glue G .leaf ((PM.leaf : Hp).put (r0 + i) cs) (r0 + i) = some cs := by
      unfold Eng.glue
      rw [PM.get_put_same]
    refine hK _ _ m _ w' (v.next c hi hL hP hE q2' k1 k2 ?_ (fun id _ hne => upd_ne _ _ _ hne) (fun h => absurd hAl h) hnx' hGx (fun h => absurd hAl h) (fun r cs' hr => ?_))
    · rw [hsi]
      rw [k3] at g2
      exact g2
    · rw [hsi] at hr; cases hr; exact ⟨hmi, hGi⟩
  | eff hg u h' ha hup =>
    have hE : isEff s i := ⟨_, _, by rw [hsi]⟩
    obtain ⟨e1, e2, e3, e4, e5⟩ := v.effSub c hi hL hP hE
    have hH1 : Hs (i + 1) = h' := by rw [c.Hn i hi, hsi]; rfl
    have hsim := mkSim (Hs i).H e3
    have hw := gd_wanted hsim hco (hgd.trans hg)
    rw [hw, if_pos rfl]
    refine .inl ?_
    have hHi : (⟨(Hs i).H, (Hs m).nx⟩ : AH) = Hs i := by rw [← e2]
    have ha' : aop cl (restr (Ts i) (o i).uses) ⟨(Hs i).H, (Hs m).nx⟩ (o i).op = some (u, h') := by
      rw [aop_congr (fun t ht => hTr t (uses_op ht)), hHi]; exact ha
    refine op_wp hcl hsim q1 ha' fun cv w' β' g1 g2 g3 => ?_
    obtain ⟨k1, k2, k3, k4⟩ := v.sim.glue e3 g1 g3
    have hnxi := hnx m v.mle
    have hlow : ∀ id, id < (Hs m).nx → β' id = β id := g3.low
    have hC0 : ∀ j, i < j → j < n → h'.H.get (r0 + j) = none := by
      intro j h1 h2
      cases hq : h'.H.get (r0 + j) with
      | none => rfl
      | some ob =>
        exfalso
        by_cases hc : L j ∧ isAl s j
        · obtain ⟨r, cs, hr⟩ := hc.2
          exact k4 (r0 + j) _ ob (v.g2 j (by omega) h2 hc.1 r cs hr) (e5 j h1 h2) hq
        · obtain ⟨b1, base1, hb1, _⟩ := g1.obj _ _ hq
          rw [hlow _ (by omega), v.resv j h2 (by
            by_cases hLj : L j
            · exact .inr (fun hA => hc ⟨hLj, hA⟩)
            · exact .inl hLj)] at hb1
          cases hb1
    have hglue : ∀ x, (x < r0 + (i + 1) ∨ r0 + n ≤ x) → Eng.glue G (Hs i).H h'.H x = h'.H.get x := by
      intro x hx
      unfold Eng.glue
      cases hq : h'.H.get x with
      | some ob => rfl
      | none =>
        cases hq2 : (Hs i).H.get x with
        | none => exact e4 x hx hq2
        | some ob => rfl
    have hglue2 : ∀ j, i < j → j < n → Eng.glue G (Hs i).H h'.H (r0 + j) = G (r0 + j) := by
      intro j h1 h2
      unfold Eng.glue
      rw [hC0 j h1 h2, e5 j h1 h2]
    rw [← q3]
    refine hK β' (Eng.glue G (Hs i).H h'.H) (i + 1) _ w' ?_
    have old : ∀ t u, TSp o s (Ts 0) n L t u → VR w'.heap (LF own β' (Eng.glue G (Hs i).H h'.H)) β' u (a.tmps.getD t Go.undef) := fun t u hu => (v.tm t u hu).later k2.later
    refine ⟨by rw [hH1]; exact k1, ?_, ?_, ?_, hi, .inr ⟨i, rfl, .inl rfl, hE⟩, ?_, ?_, ?_, ?_, ?_, ?_, ?_, ?_, v.trans.trans k2⟩
    · cases hdd : (o i).dst <;> simp [Act.put, v.sz]
    · cases hdd : (o i).dst <;> simp [Act.put, v.df]
    · intro j hj hLj k hk
      rcases hLj with rfl | hLj
      · exact .inr (hP k hk)
      · exact .inr (v.closed j hj hLj k hk)
    · intro e he hEe hLe
      rcases hLe with rfl | hLe
      · omega
      · have := v.cutE e he hEe hLe; omega
    · intro x hx; rw [hH1]; exact hglue x hx
    · intro j h1 h2 hLj r cs hr
      rw [hglue2 j (by omega) h2]
      exact v.g2 j (by omega) h2 (hLj.resolve_left (by omega)) r cs hr
    · intro j h1 h2 hj
      rw [hglue2 j (by omega) h2]
      exact v.g3 j (by omega) h2 (hj.imp (fun h hl => h (.inr hl)) id)
    · intro j h1 h2; rw [hH1]; exact hC0 j (by omega) h2
    · intro j h1 hj
      rw [hlow _ (by omega)]
      by_cases hji : j = i
      · subst hji
        exact v.resv j h1 (.inl hL)
      · exact v.resv j h1 (hj.imp (fun h hl => h (.inr hl)) id)
    · intro id hid; rw [hlow id (by omega)]; exact v.low id hid
    · intro t u' hu
      rcases TSp_more c v hi hL hu with ⟨h1, rfl⟩ | ⟨h1, h2⟩
      · have hlt : t < a.tmps.size := by
          rw [v.sz]; rw [h1] at q2'; simpa [cDst] using q2'
        rw [h1, hsi]
        rw [k3] at g2
        simpa [Act.put, hlt] using g2
      · have := old t u' h2
        cases hdd : (o i).dst with
        | none => exact this
        | some d =>
          have hne : d ≠ t := fun e => by subst e; exact h1 hdd
          simpa [Act.put, Array.getElem?_setIfInBounds_ne hne] using this
  | read hg u h' x ha hr =>
    have hE : ¬ isEff s i := by rintro ⟨V, C, h⟩; rw [hsi] at h; cases h
    have hA : ¬ isAl s i := by rintro ⟨V, C, h⟩; rw [hsi] at h; cases h
    obtain ⟨_, ⟨ob, hob⟩, hany⟩ := aop_read hr ha
    have hGx := v.readSame c hi hL hP (by rw [hsi]) hob
    have hV : ∀ id ob', ((PM.leaf : Hp).put x ob).get id = some ob' → G id = some ob' := by
      intro id ob' h
      rw [PM.get_put] at h
      split at h
      · rename_i he; cases h; rw [he]; exact hGx
      · simp [PM.get] at h
    have hw := gd_wanted (mkSim _ hV) hco (hgd.trans hg)
    rw [hw, if_pos rfl]
    refine .inl (quiet _ hV hE hA u (by rw [hsi]) ?_)
    rw [aop_congr (fun t ht => hTr t (uses_op ht))]
    exact hany _ (by rw [PM.get_put_same, hob])
  | pure hg u h' ha hcA hcE hr =>
    have hE : ¬ isEff s i := by rintro ⟨V, C, h⟩; rw [hsi] at h; cases h
    have hA : ¬ isAl s i := by rintro ⟨V, C, h⟩; rw [hsi] at h; cases h
    obtain ⟨_, hany⟩ := aop_pure hcA hcE hr ha
    have hw := gd_wanted (mkSim .leaf hleaf) hco (hgd.trans hg)
    rw [hw, if_pos rfl]
    refine .inl (quiet .leaf hleaf hE hA u (by rw [hsi]) ?_)
    rw [aop_congr (fun t ht => hTr t (uses_op ht))]
    exact hany _
end
end Go.Eng
end
