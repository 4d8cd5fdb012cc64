/- A region that draws its order: whatever the order, the end is the one of the text's order. -/
import Derived.Test.YtpnekpbehcbmkaaEngM
set_option linter.unusedSimpArgs false
set_option linter.unusedVariables false
set_option linter.unnecessarySimpa false
namespace Go.Eng

theorem aop_pure {cl : Handler} {T : Tm} {h h' : AH} {ao : AOp} {v : AV} (hA : aA ao = false) (hE : aE ao = false) (hR : aRd T ao = none) (h1 : aop cl T h ao = some (v, h')) : h' = h ∧ ∀ h2, aop cl T h2 ao = some (v, h2) := by
  cases ao <;> simp only [aA, aE] at hA hE <;> (try (cases hA; done)) <;> (try (cases hE; done)) <;> simp only [aop, kMov, kPick, kNew, kBox, kBuild, kBuildSl, kLd1, kLdn, kSt, kNilchk, kArith, kEqs, kEqn, kEqf, kUn, kConvI, kFld, kFldA, kIdxA, kIdxArrA, kIdx, kIdxS, kSl, kSlS, kLen, kLenS, kConvS, kLenc, kApp, kCopy, kMnmx, kExt, kMkf, kMksl, kCall, ← afillT_eq] at h1 ⊢
  case ld1 x =>
    simp only [aRd] at hR
    cases hx : x.ev T <;> rw [hx] at h1 hR <;> simp only [aload1] at h1 ⊢ <;> (try (cases h1; done)) <;> (try (cases hR; done))
    split at h1
    · rename_i hq; cases h1; exact ⟨rfl, fun h2 => by first | rfl | rw [hq]⟩
    · cases h1
  case ldn n x =>
    simp only [aRd] at hR
    cases hx : x.ev T <;> rw [hx] at h1 hR <;> simp only [aloadn] at h1 ⊢ <;> (try (cases h1; done)) <;> (try (cases hR; done))
    split at h1
    · rename_i hq; cases h1; exact ⟨rfl, fun h2 => by first | rfl | rw [hq]⟩
    · cases h1
  case pick c x y =>
    split at h1
    · rename_i t ht; cases h1; exact ⟨rfl, fun h2 => by first | rfl | simp only [ht]⟩
    · cases h1
  case nilchk x =>
    split at h1 <;> first | (cases h1; done) | (rename_i hx; cases h1; exact ⟨rfl, fun h2 => by first | rfl | simp only [hx]⟩)
  case eqs neg x y =>
    split at h1
    · rename_i hx hy; cases h1; exact ⟨rfl, fun h2 => by first | rfl | simp only [hx, hy]⟩
    · cases h1
  case eqf neg ks x y =>
    split at h1
    · rename_i xs ys hx hy
      cases hq : eqCells ks xs ys with
      | none => simp [hq] at h1
      | some b => simp only [hq] at h1; cases h1; exact ⟨rfl, fun h2 => by first | rfl | simp only [hx, hy, hq]⟩
    · cases h1
  case convI k x =>
    split at h1
    · rename_i hx; cases h1; exact ⟨rfl, fun h2 => by first | rfl | simp only [hx]⟩
    · cases h1
  case fld off n x =>
    split at h1
    · rename_i cs hx
      cases hq : apart n cs off with
      | none => simp [hq] at h1
      | some b => simp only [hq] at h1; cases h1; exact ⟨rfl, fun h2 => by first | rfl | simp only [hx, hq]⟩
    · cases h1
  case idxArrA len z x i =>
    split at h1
    · rename_i j hj
      cases hq : afldA (j * z) (x.ev T) with
      | none => simp [hq] at h1
      | some b => simp only [hq] at h1; cases h1; exact ⟨rfl, fun h2 => by first | rfl | simp only [hj, hq]⟩
    · cases h1
  case idx len z n x i =>
    split at h1
    · rename_i j cs hj hx
      cases hq : apart n cs (j * z) with
      | none => simp [hq] at h1
      | some b => simp only [hq] at h1; cases h1; exact ⟨rfl, fun h2 => by first | rfl | simp only [hj, hx, hq]⟩
    · cases h1
  case idxS x i =>
    split at h1
    · rename_i s hx
      cases hj : aix s.length (i.ev T) with
      | none => simp [hj] at h1
      | some j =>
        simp only [hj] at h1
        cases hq : s[j]? with
        | none => simp [hq] at h1
        | some c => simp only [hq] at h1; cases h1; exact ⟨rfl, fun h2 => by first | rfl | simp only [hx, hj, hq]⟩
    · cases h1
  case slS x lo hi =>
    split at h1
    · rename_i s hx
      cases hq : asliceS s (lo.map (·.ev T)) (hi.map (·.ev T)) with
      | none => simp [hq] at h1
      | some b => simp only [hq] at h1; cases h1; exact ⟨rfl, fun h2 => by first | rfl | simp only [hx, hq]⟩
    · cases h1
  case lenS x =>
    split at h1
    · rename_i hx; cases h1; exact ⟨rfl, fun h2 => by first | rfl | simp only [hx]⟩
    · cases h1
  case convS x =>
    split at h1
    · rename_i hx; cases h1; exact ⟨rfl, fun h2 => by first | rfl | simp only [hx]⟩
    · cases h1
  case mnmx mx x y =>
    split at h1
    · rename_i hx hy; cases h1; exact ⟨rfl, fun h2 => by first | rfl | simp only [hx, hy]⟩
    · cases h1
  case ext x i =>
    split at h1
    · rename_i vs hx
      cases hq : vs[i]? with
      | none => simp [hq] at h1
      | some b => simp only [hq] at h1; cases h1; exact ⟨rfl, fun h2 => by first | rfl | simp only [hx, hq]⟩
    · cases h1
  all_goals first
    | (cases h1; done)
    | (cases h1; exact ⟨rfl, fun _ => rfl⟩)
    | (split at h1
       · rename_i hq; cases h1; exact ⟨rfl, fun h2 => by first | rfl | simp only [hq]⟩
       · cases h1)

theorem aop_read {cl : Handler} {T : Tm} {h h' : AH} {ao : AOp} {v : AV} {x : Nat} (hR : aRd T ao = some x) (h1 : aop cl T h ao = some (v, h')) :
    h' = h ∧ (∃ ob, h.H.get x = some ob) ∧ ∀ h2 : AH, h2.H.get x = h.H.get x → aop cl T h2 ao = some (v, h2) := by
  cases ao <;> simp only [aRd] at hR <;> (try (cases hR; done)) <;> simp only [aop, kMov, kPick, kNew, kBox, kBuild, kBuildSl, kLd1, kLdn, kSt, kNilchk, kArith, kEqs, kEqn, kEqf, kUn, kConvI, kFld, kFldA, kIdxA, kIdxArrA, kIdx, kIdxS, kSl, kSlS, kLen, kLenS, kConvS, kLenc, kApp, kCopy, kMnmx, kExt, kMkf, kMksl, kCall, ← afillT_eq] at h1 ⊢
  case ld1 a =>
    cases ha : a.ev T <;> rw [ha] at h1 hR <;> simp only at hR <;> (try (cases hR; done))
    all_goals (
      rename_i id off
      cases hR
      simp only [aload1, AH.cellsAt, AH.globAt] at h1 ⊢
      cases hg : h.H.get x with
      | none => simp [hg] at h1
      | some ob =>
        refine ⟨?_, ⟨ob, rfl⟩, fun h2 he => ?_⟩
        · split at h1
          · cases h1; rfl
          · cases h1
        · rw [he]
          rw [hg] at h1
          split at h1
          · rename_i hq; cases h1; first | rfl | rw [hq]
          · cases h1)
  case ldn n a =>
    cases ha : a.ev T <;> rw [ha] at h1 hR <;> simp only at hR <;> (try (cases hR; done))
    all_goals (
      rename_i id off
      cases hR
      simp only [aloadn, AH.cellsAt, AH.globAt] at h1 ⊢
      cases hg : h.H.get x with
      | none => simp [hg] at h1
      | some ob =>
        refine ⟨?_, ⟨ob, rfl⟩, fun h2 he => ?_⟩
        · split at h1
          · cases h1; rfl
          · cases h1
        · rw [he]
          rw [hg] at h1
          split at h1
          · rename_i hq; cases h1; first | rfl | rw [hq]
          · cases h1)

theorem aalloc_aA {T : Tm} {ao : AOp} {r : List AV × (Nat → AV)} (h : aalloc T ao = some r) : aA ao = true := by
  cases ao <;> simp only [aalloc] at h <;> first | (cases h; done) | rfl

/-- The entries of some slots alone. -/
def restr (T : Tm) : List Nat → Tm
  | [] => .leaf
  | t :: l => match T.get t with
    | some v => (restr T l).put t v
    | none => restr T l
theorem restr_get (T : Tm) : ∀ (l : List Nat) (t : Nat), (restr T l).get t = if t ∈ l then T.get t else none
  | [], t => by simp [restr, Tm.get_leaf]
  | x :: l, t => by
    unfold restr
    split
    · rename_i v hv
      rw [Tm.get_put]
      by_cases h : t = x
      · subst h; simp [hv]
      · simp [h, restr_get T l t]
    · rename_i hv
      rw [restr_get T l t]
      by_cases h : t = x
      · subst h; simp [hv]
      · simp [h]

/-- What a step of the run is. -/
inductive DSp (cl : Handler) (o : AOpr) (r : Nat) (T : Tm) (h : AH) : DStep → Prop where
  | skip (hg : gd T o.guard = some false) : DSp cl o r T h ⟨T, h, skipped, .pure⟩
  | alloc (hg : gd T o.guard = some true) (cs : List AV) (mk : Nat → AV) (ha : aalloc T o.op = some (cs, mk)) : DSp cl o r T h ⟨T, h, mk r, .alloc r cs⟩
  | eff (hg : gd T o.guard = some true) (v : AV) (h' : AH) (ha : aop cl T h o.op = some (v, h')) (hup : h.nx ≤ h'.nx) : DSp cl o r T h ⟨T, h, v, .eff h h'⟩
  | read (hg : gd T o.guard = some true) (v : AV) (h' : AH) (x : Nat) (ha : aop cl T h o.op = some (v, h')) (hr : aRd T o.op = some x) : DSp cl o r T h ⟨T, h, v, .read x⟩
  | pure (hg : gd T o.guard = some true) (v : AV) (h' : AH) (ha : aop cl T h o.op = some (v, h')) (hA : aA o.op = false) (hE : aE o.op = false) (hr : aRd T o.op = none) : DSp cl o r T h ⟨T, h, v, .pure⟩
theorem dstep_sp {cl : Handler} {o : AOpr} {r : Nat} {T : Tm} {h : AH} {s : DStep} (hs : dstep cl o r T h = some s) : DSp cl o r T h s := by
  unfold dstep at hs
  split at hs
  · rename_i hg; cases hs; exact .skip hg
  · rename_i hg
    split at hs
    · split at hs
      · rename_i cs mk ha; cases hs; exact .alloc hg cs mk ha
      · cases hs
    · rename_i hA
      split at hs
      · rename_i v h' ha
        split at hs
        · split at hs
          · rename_i hup; cases hs; exact .eff hg v h' ha (Nat.le_of_ble_eq_true hup)
          · cases hs
        · rename_i hE
          split at hs
          · rename_i x hx; cases hs; exact .read hg v h' x ha hx
          · rename_i hx; cases hs; exact .pure hg v h' ha (by simpa using hA) (by simpa using hE) hx
      · cases hs
  · cases hs

/-- All that the proof knows of the run in the text's order. -/
structure DCtx (P : Program) (nt : Nat) (ops : Array Oper) (n r0 : Nat) (o : Nat → AOpr) (s : Nat → DStep) (b : Nat → Nat) (Ts : Nat → Tm) (Hs : Nat → AH) : Prop where
  size : ops.size = n
  cop : ∀ i, i < n → ∃ oo, ops[i]? = some oo ∧ cOpr P nt ops oo = some (o i)
  step : ∀ i, i < n → ∃ cl, HOk P cl ∧ DSp cl (o i) (r0 + i) (Ts i) (Hs i) (s i)
  Tn : ∀ i, i < n → Ts (i + 1) = tput (Ts i) (o i).dst (s i).v
  Hn : ∀ i, i < n → Hs (i + 1) = (s i).h'
  pair : ∀ i j, i < j → j < n → Nat.testBit (b j) i = true ∨ (tmpOk (o i) (o j) = true ∧ recOk (s i).k (s j).k = true)
  bef : ∀ i oo, ops[i]? = some oo → ∀ j, Nat.testBit (b i) j = true → ∃ e ∈ oo.after, Region.binds .any e = true ∧ (e.on = j ∨ Nat.testBit (b e.on) j = true)
  edge : ∀ i oo, ops[i]? = some oo → ∀ e ∈ oo.after, Region.binds .any e = true → e.on < i
  nx0 : r0 + n ≤ (Hs 0).nx
  dead0 : ∀ id, r0 ≤ id → (Hs 0).H.get id = none

mutual
theorem AV.beq_eq : ∀ (a b : AV), AV.beq a b = true → a = b
  | .undef, b, h => by cases b <;> simp [AV.beq] at h <;> rfl
  | .bool a, b, h => by cases b <;> simp [AV.beq] at h; subst h; rfl
  | .int k a, b, h => by cases b <;> simp [AV.beq] at h; obtain ⟨rfl, rfl⟩ := h; rfl
  | .str a, b, h => by cases b <;> simp [AV.beq] at h; subst h; rfl
  | .agg a, b, h => by cases b <;> simp [AV.beq] at h; rw [AV.beqL_eq _ _ h]
  | .tup a, b, h => by cases b <;> simp [AV.beq] at h; rw [AV.beqL_eq _ _ h]
  | .ptr x y, b, h => by cases b <;> simp [AV.beq] at h; obtain ⟨rfl, rfl⟩ := h; rfl
  | .nilptr, b, h => by cases b <;> simp [AV.beq] at h <;> rfl
  | .pptr a, b, h => by cases b <;> simp [AV.beq] at h; rw [AV.beqL_eq _ _ h]
  | .gptr a c, b, h => by cases b <;> simp [AV.beq] at h; rw [h.1, h.2]
  | .nilsl, b, h => by cases b <;> simp [AV.beq] at h <;> rfl
  | .esl, b, h => by cases b <;> simp [AV.beq] at h <;> rfl
  | .psl a, b, h => by cases b <;> simp [AV.beq] at h; rw [AV.beqLL_eq _ _ h]
  | .rsl x y z u, b, h => by cases b <;> simp [AV.beq] at h; obtain ⟨⟨⟨rfl, rfl⟩, rfl⟩, rfl⟩ := h; rfl
  | .mapv x, b, h => by cases b <;> simp [AV.beq] at h; subst h; rfl
  | .nilmap, b, h => by cases b <;> simp [AV.beq] at h <;> rfl
  | .func f x y, b, h => by cases b <;> simp [AV.beq] at h; obtain ⟨⟨rfl, h1⟩, h2⟩ := h; rw [AV.beqL_eq _ _ h1, AV.beqL_eq _ _ h2]
  | .nilfunc, b, h => by cases b <;> simp [AV.beq] at h <;> rfl
  | .nilif, b, h => by cases b <;> simp [AV.beq] at h <;> rfl
  | .iface t a, b, h => by cases b <;> simp [AV.beq] at h; obtain ⟨rfl, h1⟩ := h; rw [AV.beq_eq _ _ h1]
theorem AV.beqL_eq : ∀ (a b : List AV), AV.beqL a b = true → a = b
  | [], b, h => by cases b <;> simp [AV.beqL] at h; rfl
  | x :: a, b, h => by cases b <;> simp [AV.beqL] at h; rw [AV.beq_eq _ _ h.1, AV.beqL_eq _ _ h.2]
theorem AV.beqLL_eq : ∀ (a b : List (List AV)), AV.beqLL a b = true → a = b
  | [], b, h => by cases b <;> simp [AV.beqLL] at h; rfl
  | x :: a, b, h => by cases b <;> simp [AV.beqLL] at h; rw [AV.beqL_eq _ _ h.1, AV.beqLL_eq _ _ h.2]
end
theorem beqKV_eq : ∀ (a b : List (AV × AV)), beqKV a b = true → a = b
  | [], b, h => by cases b <;> simp [beqKV] at h; rfl
  | (x, y) :: a, b, h => by
    cases b with
    | nil => simp [beqKV] at h
    | cons p b =>
      obtain ⟨u, v⟩ := p
      simp [beqKV] at h
      rw [AV.beq_eq _ _ h.1.1, AV.beq_eq _ _ h.1.2, beqKV_eq _ _ h.2]
theorem obEq_eq {a b : Option AObj} (h : obEq a b = true) : a = b := by
  unfold obEq at h
  split at h
  · rfl
  · rw [AV.beqL_eq _ _ h]
  · rw [beqKV_eq _ _ h]
  · rename_i s p t q
    simp at h
    obtain ⟨h1, rfl⟩ := h
    have : s = t := ByteArray.ext h1
    rw [this]
  · simp at h
    obtain ⟨rfl, h2⟩ := h
    rw [AV.beqL_eq _ _ h2]
  · cases h
end Go.Eng
