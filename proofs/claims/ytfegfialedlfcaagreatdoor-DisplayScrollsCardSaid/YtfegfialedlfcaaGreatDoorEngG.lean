/- Each abstract operation stands for the model's operation: arithmetic, comparisons, parts, indices, slices. Each abstract operation stands for the model's operation: parts, indices, slices, append, copy, make. -/
import Derived.Test.YtfegfialedlfcaaGreatDoorEngE
set_option linter.unusedSimpArgs false
set_option linter.unusedVariables false
set_option linter.unnecessarySimpa false
noncomputable section
namespace Go.Eng
theorem bytes_toList (l : List UInt8) : (⟨l.toArray⟩ : ByteArray).toList = l := by rw [ByteArray.toList_eq]
theorem bytes_size (l : List UInt8) : (⟨l.toArray⟩ : ByteArray).size = l.length := by simp [← ByteArray.size_data]
theorem bytes_append (a b : List UInt8) : (⟨a.toArray⟩ : ByteArray) ++ ⟨b.toArray⟩ = ⟨(a ++ b).toArray⟩ := by
  apply ByteArray.ext; rw [ByteArray.data_append]; simp
theorem bytes_extract (l : List UInt8) (a b : Nat) : (⟨l.toArray⟩ : ByteArray).extract a b = ⟨((l.drop a).take (b - a)).toArray⟩ := by
  apply ByteArray.ext; rw [ByteArray.data_extract]; simp [List.extract_eq_take_drop]

section
variable {P : Program} {hp : Array Obj} {L : Nat → Prop} {β : Bl} {w : World}
/-- what eqGuard lets by -/
theorem run_eqGuard_plain (op : BinOp) (t : TypeId) (x y : Operand) (a b : Value) (ha : ∀ cs, a ≠ .agg cs) (hn : a ≠ .nilIface) : (eqGuard op t x y a b).run P w = .ok () w := by
  unfold eqGuard
  cases op <;> cases a <;> first | (exact absurd rfl hn) | (exact absurd rfl (ha _)) | simp

theorem fitsK_wrap {k : IntKind} {lo hi n : Int} (hf : fitsK k lo hi = true) (h1 : lo ≤ n) (h2 : n ≤ hi) : k.wrap n = n := by
  cases k <;> simp [fitsK] at hf
  · simp only [IntKind.wrap, IntKind.bits, IntKind.signed]; simp; omega
  · simp only [IntKind.wrap, IntKind.bits, IntKind.signed]; simp; omega
  · simp only [IntKind.wrap, IntKind.bits, IntKind.signed]; simp; omega
  · simp only [IntKind.wrap, IntKind.bits, IntKind.signed]; simp; omega
theorem rngI_ok {x : AV} {cx : Value} {k : IntKind} {l h : Int} (hx : VR hp L β x cx) (hr : rngI x = some (k, l, h)) : ∃ n, cx = .int k n ∧ l ≤ n ∧ n ≤ h := by
  cases hx <;> simp [rngI] at hr
  · obtain ⟨rfl, rfl, rfl⟩ := hr; exact ⟨_, rfl, Int.le_refl _, Int.le_refl _⟩
  · rename_i h1 h2
    obtain ⟨rfl, rfl, rfl⟩ := hr; exact ⟨_, rfl, h1, h2⟩
  · rename_i m r i j l lo hi b1 n1 b2 n2 b3 q1 q2 h1 h2 h3 q3 q4
    obtain ⟨rfl, rfl, rfl⟩ := hr
    refine ⟨_, rfl, by omega, ?_⟩
    have hn : (if r = 0 then n1 else n2) ≤ 4294967295 := by split <;> assumption
    unfold hiC
    by_cases hm : m = 0
    · subst hm
      rw [if_pos rfl, Nat.mod_zero]
      omega
    · rw [if_neg hm]
      have := Nat.mod_lt (if r = 0 then n1 else n2) (Nat.pos_of_ne_zero hm)
      omega
  · rename_i h1 h2
    obtain ⟨rfl, rfl, rfl⟩ := hr; exact ⟨_, rfl, h1, h2⟩
theorem cmpR_ok {op : BinOp} {k : IntKind} {a b l1 h1 l2 h2 : Int} {r : Bool} (h : cmpR op l1 h1 l2 h2 = some r) (ha1 : l1 ≤ a) (ha2 : a ≤ h1) (hb1 : l2 ≤ b) (hb2 : b ≤ h2) : aarith op (.int k a) (.int k b) = some (.bool r) := by
  cases op <;> simp only [cmpR] at h <;> (try (cases h; done)) <;> simp only [aarith, isShift, iarith, if_true, Bool.false_eq_true, if_false]
  all_goals
    (repeat' (split at h)) <;> first | (cases h; done) | skip
  all_goals cases h
  all_goals simp
  all_goals omega
def numB (β : Bl) (i : Nat) : Nat := match β i with | some x => x.2 | none => 0
theorem lin_can {β : Bl} {f : Nat → Nat} {l : List (Int × Nat)} (h : ∀ p ∈ l, ∃ b, β p.2 = some (b, f p.2)) : linE f l = linE (numB β) l := linE_congr fun p hp => by
  obtain ⟨b, hb⟩ := h p hp
  simp [numB, hb]
theorem lin_num {β : Bl} {f : Nat → Nat} {l : List (Int × Nat)} (h : ∀ p ∈ l, ∃ b, β p.2 = some (b, f p.2)) : ∀ p ∈ l, ∃ b, β p.2 = some (b, numB β p.2) := fun p hp => by
  obtain ⟨b, hb⟩ := h p hp
  exact ⟨b, by simp [numB, hb]⟩
theorem aar_eql (k : IntKind) (a : Int) : aarith .eql (.int k a) (.int k a) = some (.bool true) := by simp [aarith, isShift, iarith]
theorem aar_add (k : IntKind) (a b : Int) : aarith .add (.int k a) (.int k b) = some (.int k (k.wrap (a + b))) := by simp [aarith, isShift, iarith]
theorem aar_sub (k : IntKind) (a b : Int) : aarith .sub (.int k a) (.int k b) = some (.int k (k.wrap (a - b))) := by simp [aarith, isShift, iarith]
theorem aar_rem (k : IntKind) (a b : Int) (hb : b ≠ 0) : aarith .rem (.int k a) (.int k b) = some (.int k (a.tmod b)) := by simp [aarith, isShift, iarith, hb]
theorem and24 (n : Nat) (hn : n ≤ 4294967295) : aarith .and (.int .u32 (n : Int)) (.int .u32 16777215) = some (.int .u32 ((n % 16777216 : Nat) : Int)) := by
  have h1 : (BitVec.ofInt 32 (n : Int) &&& BitVec.ofInt 32 16777215).toNat = n % 16777216 := by
    rw [BitVec.toNat_and, BitVec.toNat_ofInt, BitVec.toNat_ofInt]
    have e1 : ((n : Int) % ((2 ^ 32 : Nat) : Int)).toNat = n := by omega
    have e2 : ((16777215 : Int) % ((2 ^ 32 : Nat) : Int)).toNat = 2 ^ 24 - 1 := by decide
    rw [e1, e2, Nat.and_two_pow_sub_one_eq_mod]
  have h2 : IntKind.u32.wrap ((n % 16777216 : Nat) : Int) = ((n % 16777216 : Nat) : Int) := by
    have : n % 16777216 < 16777216 := Nat.mod_lt _ (by decide)
    simp only [IntKind.wrap, IntKind.bits, IntKind.signed]; simp; omega
  have h3 : aarith .and (.int .u32 (n : Int)) (.int .u32 16777215) = some (.int .u32 (IntKind.u32.wrap ((BitVec.ofInt 32 (n : Int) &&& BitVec.ofInt 32 16777215).toNat : Nat))) := by rfl
  rw [h3, h1, h2]
theorem sarI_ok {op : BinOp} {x y v : AV} {cx cy : Value} (h : sarI op x y = some v) (hx : VR hp L β x cx) (hy : VR hp L β y cy) :
    ∃ k a b v', cx = .int k a ∧ cy = .int k b ∧ aarith op (.int k a) (.int k b) = some v' ∧ ∀ cv, VR hp L β v' cv → VR hp L β v cv := by
  unfold sarI at h
  split at h
  case h_2 => cases h
  rename_i k l1 h1 k' l2 h2 e1 e2
  split at h
  case isFalse => cases h
  rename_i hk
  subst hk
  obtain ⟨a, rfl, ha1, ha2⟩ := rngI_ok hx e1
  obtain ⟨b, rfl, hb1, hb2⟩ := rngI_ok hy e2
  split at h
  · rename_i r hr
    cases h
    exact ⟨k, a, b, _, rfl, rfl, cmpR_ok hr ha1 ha2 hb1 hb2, fun cv hv => hv⟩
  · split at h
    · -- sint + int
      rename_i k1 m i c lo hi k2 b' _
      unfold shiftI at h
      split at h
      · rename_i hf
        cases h
        cases hx
        rename_i bb base hb q1 q2
        cases hy
        refine ⟨_, _, _, _, rfl, rfl, aar_add _ _ _, fun cv hv => ?_⟩
        cases hv
        have hw := fitsK_wrap hf (n := ((base % m : Nat) : Int) + c + b) (by omega) (by omega)
        rw [hw]
        have := VR.sint (hp := hp) (L := L) k m i (c + b) (lo + b) (hi + b) bb base hb (by omega) (by omega)
        rwa [← Int.add_assoc] at this
      · cases h
    · -- int + sint
      rename_i k2 b' k1 m i c lo hi _
      unfold shiftI at h
      split at h
      · rename_i hf
        cases h
        cases hy
        rename_i bb base hb q1 q2
        cases hx
        refine ⟨_, _, _, _, rfl, rfl, aar_add _ _ _, fun cv hv => ?_⟩
        cases hv
        have hw := fitsK_wrap hf (n := a + (((base % m : Nat) : Int) + c)) (by omega) (by omega)
        rw [hw]
        have := VR.sint (hp := hp) (L := L) k m i (c + a) (lo + a) (hi + a) bb base hb (by omega) (by omega)
        rwa [show ((base % m : Nat) : Int) + (c + a) = a + (((base % m : Nat) : Int) + c) by omega] at this
      · cases h
    · -- sint - int
      rename_i k1 m i c lo hi k2 b' _
      unfold shiftI at h
      split at h
      · rename_i hf
        cases h
        cases hx
        rename_i bb base hb q1 q2
        cases hy
        refine ⟨_, _, _, _, rfl, rfl, aar_sub _ _ _, fun cv hv => ?_⟩
        cases hv
        have hw := fitsK_wrap hf (n := ((base % m : Nat) : Int) + c - b) (by omega) (by omega)
        rw [hw]
        have := VR.sint (hp := hp) (L := L) k m i (c - b) (lo - b) (hi - b) bb base hb (by omega) (by omega)
        rwa [show ((base % m : Nat) : Int) + (c - b) = ((base % m : Nat) : Int) + c - b by omega] at this
      · cases h
    · -- sint % int
      rename_i k1 m i c lo hi k2 b' _
      split at h
      · rename_i hc
        obtain ⟨rfl, rfl, hb0, hlo⟩ := hc
        cases h
        cases hx
        rename_i bb base hb q1 q2
        cases hy
        refine ⟨_, _, _, _, rfl, rfl, aar_rem _ _ _ (by omega), fun cv hv => ?_⟩
        cases hv
        have e : (((base % 0 : Nat) : Int) + 0).tmod b = ((base % b.toNat : Nat) : Int) + 0 := by
          rw [Nat.mod_zero, Int.add_zero, Int.add_zero, Int.natCast_emod, Int.toNat_of_nonneg (by omega), Int.tmod_eq_emod_of_nonneg (by omega)]
        rw [e]
        have hlt : base % b.toNat < b.toNat := Nat.mod_lt _ (by omega)
        exact VR.sint (hp := hp) (L := L) k b.toNat i 0 0 (b - 1) bb base hb (by omega) (by omega)
      · cases h
    · -- sint and mask
      rename_i k1 m i c lo hi k2 b' _
      split at h
      · rename_i hc
        obtain ⟨rfl, rfl, hlo, hhi, rfl, rfl⟩ := hc
        cases h
        cases hx
        rename_i bb base hb q1 q2
        cases hy
        rw [Nat.mod_zero] at q1 q2 ⊢
        rw [Int.add_zero] at q1 q2 ⊢
        refine ⟨_, _, _, _, rfl, rfl, and24 base (by omega), fun cv hv => ?_⟩
        cases hv
        have hlt : base % 16777216 < 16777216 := Nat.mod_lt _ (by decide)
        have := VR.sint (hp := hp) (L := L) .u32 16777216 i 0 0 16777215 bb base hb (by omega) (by omega)
        rwa [Int.add_zero] at this
      · cases h
    · -- color and mask
      rename_i k1 m r i j l lo hi k2 b' _
      split at h
      · rename_i hc
        obtain ⟨rfl, rfl, rfl⟩ := hc
        cases h
        cases hx
        rename_i b1 n1 b2 n2 b3 q1 q2 e1' e2' e3' q3 q4
        cases hy
        rw [Nat.mod_zero]
        have hn : (if r = 0 then n1 else n2) ≤ 4294967295 := by split <;> assumption
        refine ⟨_, _, _, _, rfl, rfl, and24 _ hn, fun cv hv => ?_⟩
        cases hv
        exact .scol .u32 16777216 r i j l lo hi b1 n1 b2 n2 b3 e1' e2' e3' q1 q2 q3 q4
      · cases h
    · -- lin + int
      rename_i k1 l c lo hi k2 d _
      unfold shiftL at h
      split at h
      · rename_i hf
        cases h
        cases hx
        rename_i f g0 q1 q2
        cases hy
        refine ⟨_, _, _, _, rfl, rfl, aar_add _ _ _, fun cv hv => ?_⟩
        cases hv
        rw [fitsK_wrap hf (n := linE f l + c + b) (by omega) (by omega)]
        have := VR.lin (hp := hp) (L := L) k l (c + b) (lo + b) (hi + b) f g0 (by omega) (by omega)
        rwa [← Int.add_assoc] at this
      · cases h
    · -- int + lin
      rename_i k2 d k1 l c lo hi _
      unfold shiftL at h
      split at h
      · rename_i hf
        cases h
        cases hy
        rename_i f g0 q1 q2
        cases hx
        refine ⟨_, _, _, _, rfl, rfl, aar_add _ _ _, fun cv hv => ?_⟩
        cases hv
        rw [fitsK_wrap hf (n := a + (linE f l + c)) (by omega) (by omega)]
        have := VR.lin (hp := hp) (L := L) k l (c + a) (lo + a) (hi + a) f g0 (by omega) (by omega)
        rwa [show linE f l + (c + a) = a + (linE f l + c) by omega] at this
      · cases h
    · -- lin - int
      rename_i k1 l c lo hi k2 d _
      unfold shiftL at h
      split at h
      · rename_i hf
        cases h
        cases hx
        rename_i f g0 q1 q2
        cases hy
        refine ⟨_, _, _, _, rfl, rfl, aar_sub _ _ _, fun cv hv => ?_⟩
        cases hv
        rw [fitsK_wrap hf (n := linE f l + c - b) (by omega) (by omega)]
        have := VR.lin (hp := hp) (L := L) k l (c - b) (lo - b) (hi - b) f g0 (by omega) (by omega)
        rwa [show linE f l + (c - b) = linE f l + c - b by omega] at this
      · cases h
    · -- lin + lin
      rename_i k1 l c lo hi k2 l' c' lo' hi' _
      unfold shiftL at h
      split at h
      · rename_i hf
        cases h
        cases hx
        rename_i f g0 q1 q2
        cases hy
        rename_i f' g0' q1' q2'
        refine ⟨_, _, _, _, rfl, rfl, aar_add _ _ _, fun cv hv => ?_⟩
        cases hv
        rw [fitsK_wrap hf (n := linE f l + c + (linE f' l' + c')) (by omega) (by omega)]
        have e : linE (numB β) (l ++ l') + (c + c') = linE f l + c + (linE f' l' + c') := by rw [linE_app, lin_can g0, lin_can g0']; omega
        have := VR.lin (hp := hp) (L := L) k (l ++ l') (c + c') (lo + lo') (hi + hi') (numB β) (fun p hp => (List.mem_append.1 hp).elim (lin_num g0 p) (lin_num g0' p)) (by omega) (by omega)
        rwa [e] at this
      · cases h
    · -- lin - lin
      rename_i k1 l c lo hi k2 l' c' lo' hi' _
      unfold shiftL at h
      split at h
      · rename_i hf
        cases h
        cases hx
        rename_i f g0 q1 q2
        cases hy
        rename_i f' g0' q1' q2'
        refine ⟨_, _, _, _, rfl, rfl, aar_sub _ _ _, fun cv hv => ?_⟩
        cases hv
        rw [fitsK_wrap hf (n := linE f l + c - (linE f' l' + c')) (by omega) (by omega)]
        have e : linE (numB β) (l ++ linN l') + (c - c') = linE f l + c - (linE f' l' + c') := by rw [linE_app, linE_neg, lin_can g0, lin_can g0']; omega
        have := VR.lin (hp := hp) (L := L) k (l ++ linN l') (c - c') (lo - hi') (hi - lo') (numB β) (fun p hp => (List.mem_append.1 hp).elim (lin_num g0 p) (fun h1 => (by
          obtain ⟨q, h2, h3⟩ := linN_mem h1
          rw [← h3]
          exact lin_num g0' q h2))) (by omega) (by omega)
        rwa [e] at this
      · cases h
    · -- lin == lin
      rename_i k1 l c lo hi k2 l' c' lo' hi' _
      split at h
      · rename_i hc
        obtain ⟨hc1, rfl⟩ := hc
        obtain rfl := linEq_eq hc1
        cases h
        cases hx
        rename_i f g0 q1 q2
        cases hy
        rename_i f' g0' q1' q2'
        refine ⟨_, _, _, _, rfl, rfl, ?_, fun cv hv => hv⟩
        rw [lin_can g0, lin_can g0']
        exact aar_eql _ _
      · cases h
    · cases h
theorem smm_ok {mx : Bool} {x y v : AV} {cx cy : Value} (h : smm mx x y = some v) (hx : VR hp L β x cx) (hy : VR hp L β y cy) :
    ∃ k a b, cx = .int k a ∧ cy = .int k b ∧ VR hp L β v (.int k (if mx then (if a < b then b else a) else (if b < a then b else a))) := by
  unfold smm at h
  split at h
  case h_2 => cases h
  rename_i k l1 h1 k' l2 h2 e1 e2
  split at h
  case isFalse => cases h
  rename_i hk
  subst hk
  obtain ⟨a, rfl, ha1, ha2⟩ := rngI_ok hx e1
  obtain ⟨b, rfl, hb1, hb2⟩ := rngI_ok hy e2
  refine ⟨k, a, b, rfl, rfl, ?_⟩
  cases mx
  · simp only [Bool.false_eq_true, if_false] at h ⊢
    split at h
    · cases h; rw [if_neg (by omega)]; exact hx
    · split at h
      · cases h
        have : (if b < a then b else a) = b := by split <;> omega
        rw [this]; exact hy
      · cases h
  · simp only [if_true] at h ⊢
    split at h
    · cases h; rw [if_neg (by omega)]; exact hx
    · split at h
      · cases h
        have : (if a < b then b else a) = b := by split <;> omega
        rw [this]; exact hy
      · cases h
theorem arith_int {op : BinOp} {t : TypeId} {ox oy : Operand} {k k' : IntKind} {a b : Int} {v : AV} (h : aarith op (.int k a) (.int k' b) = some v) :
    ∃ cv, (do eqGuard op t ox oy (.int k a) (.int k' b); binOp op t (.int k a) (.int k' b) : Sem Value).run P w = .ok cv w ∧ VR hp L β v cv := by
  simp only [Sem.run_bind, run_eqGuard_plain op t ox oy (.int k a) (.int k' b) (fun _ h => by cases h) (fun h => by cases h), Result.andThen_ok]
  by_cases hk : k = k'
  · subst hk
    cases op <;> simp only [aarith, isShift, ishift, iarith, if_true, Bool.false_eq_true, if_false] at h
    case quo =>
      split at h
      · cases h
      · cases h; exact ⟨_, by simp [binOp, Op.intDiv, *], .int _ _⟩
    case rem =>
      split at h
      · cases h
      · cases h; exact ⟨_, by simp [binOp, Op.intDiv, *], .int _ _⟩
    case shl =>
      split at h
      · cases h
      · cases h; exact ⟨_, by simp [binOp, Op.shift, *], .int _ _⟩
    case shr =>
      split at h
      · cases h
      · cases h; exact ⟨_, by simp [binOp, Op.shift, *], .int _ _⟩
    all_goals cases h
    all_goals first
      | (refine ⟨_, ?_, .int _ _⟩; simp only [binOp, ne_eq, not_true_eq_false, if_false]; rfl)
      | (refine ⟨_, ?_, .bool _⟩; simp only [binOp, ne_eq, not_true_eq_false, if_false]; rfl)
  · cases op <;> simp only [aarith, isShift, ishift, hk, if_true, Bool.false_eq_true, if_false] at h
    case shl =>
      split at h
      · cases h
      · cases h; exact ⟨_, by simp [binOp, Op.shift, *], .int _ _⟩
    case shr =>
      split at h
      · cases h
      · cases h; exact ⟨_, by simp [binOp, Op.shift, *], .int _ _⟩
    all_goals cases h
theorem arith_str {op : BinOp} {t : TypeId} {ox oy : Operand} {a b : List UInt8} {v : AV} (h : aarith op (.str a) (.str b) = some v) :
    ∃ cv, (do eqGuard op t ox oy (.string ⟨a.toArray⟩) (.string ⟨b.toArray⟩); binOp op t (.string ⟨a.toArray⟩) (.string ⟨b.toArray⟩) : Sem Value).run P w = .ok cv w ∧ VR hp L β v cv := by
  simp only [Sem.run_bind, run_eqGuard_plain op t ox oy (.string ⟨a.toArray⟩) (.string ⟨b.toArray⟩) (fun _ h => by cases h) (fun h => by cases h), Result.andThen_ok]
  cases op <;> simp only [aarith, sarith] at h
  case add =>
    split at h
    · rename_i hl
      cases h
      refine ⟨.string ⟨(a ++ b).toArray⟩, ?_, .str _⟩
      have hlt : ¬ ((((⟨a.toArray⟩ : ByteArray).size + (⟨b.toArray⟩ : ByteArray).size : Nat) : Int) > IntKind.i64.max) := by
        rw [bytes_size, bytes_size]
        have : IntKind.i64.max = 9223372036854775807 := by decide
        omega
      simp only [binOp, Op.stringOp, if_neg hlt, bytes_append, Sem.run_pure]
    · cases h
  all_goals cases h
  all_goals exact ⟨_, by simp only [binOp, Op.stringOp, bytes_toList, Sem.run_pure], .bool _⟩
theorem arith_ok {op : BinOp} {t : TypeId} {ox oy : Operand} {x y v : AV} {cx cy : Value} (h : aarith op x y = some v) (hx : VR hp L β x cx) (hy : VR hp L β y cy) :
    ∃ cv, (do eqGuard op t ox oy cx cy; binOp op t cx cy : Sem Value).run P w = .ok cv w ∧ VR hp L β v cv := by
  have h0 := h
  unfold aarith at h
  split at h
  · cases hx; cases hy; exact arith_int h0
  · cases hx; cases hy; exact arith_str h0
  · rename_i k rs k' b
    split at h
    · cases h
    · rename_i hsh
      split at h
      · rename_i hk
        subst hk
        cases hx with
        | oint _ _ n hn =>
        cases hy
        obtain ⟨r, h1, rfl⟩ := olook_some h
        refine arith_int ?_
        simp only [aarith, hsh, if_true, Bool.false_eq_true, if_false]
        exact hn _ _ _ h1
      · cases h
  · obtain ⟨k, a, b, v', rfl, rfl, h1, h2⟩ := sarI_ok h hx hy
    obtain ⟨cv, r1, r2⟩ := arith_int (P := P) (w := w) (hp := hp) (L := L) (β := β) (t := t) (ox := ox) (oy := oy) h1
    exact ⟨cv, r1, h2 cv r2⟩

theorem eqs_ok {neg : Bool} {t : TypeId} {ox oy : Operand} {a b : Bool} (hu : P.underlying t = some .bool) :
    (do eqGuard (if neg then .neq else .eql) t ox oy (.bool a) (.bool b); binOp (if neg then .neq else .eql) t (.bool a) (.bool b) : Sem Value).run P w = .ok (.bool (if neg then !(a == b) else a == b)) w := by
  simp only [Sem.run_bind, run_eqGuard_plain _ t ox oy (.bool a) (.bool b) (fun _ h => by cases h) (fun h => by cases h), Result.andThen_ok]
  cases neg <;> simp [binOp, run_equal_bool w t a b hu]

def NK.fits (k : NK) (d : TypeDesc) : Prop :=
  match k, d with
  | .ptr, .pointer _ | .sl, .slice _ | .mp, .map _ _ | .fn, .func _ _ _ => True
  | _, _ => False

theorem eqn_equal {k : NK} {t : TypeId} {d : TypeDesc} (hu : P.underlying t = some d) (hf : k.fits d) {x y : AV} {r : Bool} {cx cy : Value} (h : aeqn k x y = some r) (hx : VR hp L β x cx) (hy : VR hp L β y cy) (n : Nat) :
    (Op.equalIn (n + 1) t cx cy).run P w = .ok r w ∧ (∀ cs, cx ≠ .agg cs) ∧ cx ≠ .nilIface ∧ (binOp .eql t cx cy = do pure (.bool (← Op.equal t cx cy))) ∧ (binOp .neq t cx cy = do pure (.bool (!(← Op.equal t cx cy)))) := by
  unfold aeqn at h
  split at h <;> cases h <;> cases hx <;> cases hy <;> cases d <;> simp only [NK.fits] at hf
  all_goals refine ⟨by simp [Op.equalIn, run_underlying hu], by simp, by simp, ?_, ?_⟩
  all_goals simp only [binOp]

theorem eqn_ok {k : NK} {neg : Bool} {t : TypeId} {d : TypeDesc} {ox oy : Operand} (hu : P.underlying t = some d) (hf : k.fits d) {x y : AV} {r : Bool} {cx cy : Value} (h : aeqn k x y = some r) (hx : VR hp L β x cx) (hy : VR hp L β y cy) :
    (do eqGuard (if neg then .neq else .eql) t ox oy cx cy; binOp (if neg then .neq else .eql) t cx cy : Sem Value).run P w = .ok (.bool (if neg then !r else r)) w := by
  obtain ⟨h1, h2, h3, h4, h5⟩ := eqn_equal (w := w) hu hf h hx hy 9999
  have h6 : (Op.equal t cx cy).run P w = .ok r w := h1
  simp only [Sem.run_bind, run_eqGuard_plain _ t ox oy cx cy h2 h3, Result.andThen_ok]
  cases neg
  · simp only [if_false, Bool.false_eq_true, h4]; simp [h6]
  · simp only [if_true, h5]; simp [h6]

/-! ### equal cells -/
theorem eqCell_ok {k : SK} {x y : AV} {r : Bool} {cx cy : Value} {t : TypeId} (hu : P.underlying t = some (match k with | .bool => .bool | .int k => .int k | .str => .string)) (h : eqCell k x y = some r) (hx : VR hp L β x cx) (hy : VR hp L β y cy) (n : Nat) :
    (Op.equalIn (n + 1) t cx cy).run P w = .ok r w := by
  cases k with
  | bool =>
    cases hx <;> try (simp [eqCell] at h; done)
    cases hy <;> try (simp [eqCell] at h; done)
    simp [eqCell] at h; subst h
    exact run_equalIn_bool w n t _ _ hu
  | int k =>
    unfold eqCell at h
    split at h <;> (try (cases ‹SK.int k = _›; done)) <;> (try (cases h; done))
    · rename_i k0 k1 a k2 b hk0
      cases hk0
      cases hx; cases hy
      split at h
      · rename_i hk
        obtain ⟨rfl, rfl⟩ := hk
        cases h
        exact run_equalIn_int w n t _ _ _ _ hu
      · cases h
    · rename_i k0 k1 m i c lo hi y' hk0
      cases hk0
      split at h
      · rename_i hk
        subst hk
        split at h
        · rename_i b hs
          cases h
          obtain ⟨k', a, b', v', rfl, rfl, h1, h2⟩ := sarI_ok hs hx hy
          cases hx
          simp [aarith, isShift, iarith] at h1
          subst h1
          have := h2 (.bool _) (.bool _)
          cases this
          exact run_equalIn_int w n t _ _ _ _ hu
        · cases h
      · cases h
    · rename_i k0 k1 l c lo hi y' hk0
      cases hk0
      split at h
      · rename_i hk
        subst hk
        split at h
        · rename_i b hs
          cases h
          obtain ⟨k', a, b', v', rfl, rfl, h1, h2⟩ := sarI_ok hs hx hy
          cases hx
          simp [aarith, isShift, iarith] at h1
          subst h1
          have := h2 (.bool _) (.bool _)
          cases this
          exact run_equalIn_int w n t _ _ _ _ hu
        · cases h
      · cases h
  | str =>
    cases hx <;> try (simp [eqCell] at h; done)
    cases hy <;> try (simp [eqCell] at h; done)
    simp [eqCell] at h; subst h
    rw [run_equalIn_string w n t _ _ hu, bytes_toList, bytes_toList]

theorem eqCells_append : ∀ {k1 k2 : List SK} {xs ys : List AV} {r : Bool}, eqCells (k1 ++ k2) xs ys = some r →
    ∃ r1 r2, eqCells k1 (xs.take k1.length) (ys.take k1.length) = some r1 ∧ eqCells k2 (xs.drop k1.length) (ys.drop k1.length) = some r2 ∧ r = (r1 && r2)
  | [], k2, xs, ys, r, h => ⟨true, r, by simp [eqCells], by simpa using h, by simp⟩
  | k :: k1, k2, xs, ys, r, h => by
    cases xs with
    | nil => simp [eqCells] at h
    | cons x xs =>
      cases ys with
      | nil => simp [eqCells] at h
      | cons y ys =>
        simp only [List.cons_append, eqCells] at h
        split at h
        · rename_i a b h1 h2
          cases h
          obtain ⟨r1, r2, h3, h4, rfl⟩ := eqCells_append h2
          exact ⟨a && r1, r2, by simp [eqCells, h1, h3], by simpa using h4, by simp [Bool.and_assoc]⟩
        · cases h
theorem eqCells_length : ∀ {ks : List SK} {xs ys : List AV} {r : Bool}, eqCells ks xs ys = some r → xs.length = ks.length ∧ ys.length = ks.length
  | [], [], [], r, h => by simp
  | [], _ :: _, _, r, h => by simp [eqCells] at h
  | [], [], _ :: _, r, h => by simp [eqCells] at h
  | k :: ks, [], _, r, h => by simp [eqCells] at h
  | k :: ks, _ :: _, [], r, h => by simp [eqCells] at h
  | k :: ks, x :: xs, y :: ys, r, h => by
    simp only [eqCells] at h
    split at h
    · rename_i a b h1 h2
      have := eqCells_length h2
      simp [this.1, this.2]
    · cases h

/-- A part of an aggregate. -/
theorem part_agg {t : TypeId} {n off : Nat} {vs : Array Value} {as : List AV} (hq : aggOf P t = some (some n)) (hR : RL hp L β as vs.toList) : ∃ us : Array Value, (part t vs off).run P w = .ok (.agg us) w ∧ RL hp L β ((as.drop off).take n) us.toList := by
  obtain ⟨q1, q2⟩ := aggOf_some (w := w) hq
  refine ⟨vs.extract off (off + n), ?_, ?_⟩
  · simp only [part, Sem.run_bind, q1, Result.andThen_ok, if_true, q2, Sem.run_pure]
  · have := (hR.drop off).take n
    simpa [List.extract_eq_take_drop] using this
theorem part_one {t : TypeId} {off : Nat} {vs : Array Value} {as : List AV} {c : AV} (hq : aggOf P t = some none) (hR : RL hp L β as vs.toList) (hc : as[off]? = some c) : ∃ v, (part t vs off).run P w = .ok v w ∧ VR hp L β c v := by
  obtain ⟨v, h1, h2⟩ := hR.get hc
  refine ⟨v, ?_, h2⟩
  have h3 : vs[off]? = some v := by simpa using h1
  simp [part, Sem.run_bind, aggOf_none hq, h3]

/-- '==' of flat structs: cell by cell. -/
theorem eqf_ok : ∀ (d : Nat) (t : TypeId) (ks : List SK), flatK P d t = some ks → ∀ (n : Nat) (xs ys : List AV) (r : Bool), d ≤ n → eqCells ks xs ys = some r →
    (∀ k x y cx cy, ks = [k] → xs = [x] → ys = [y] → VR hp L β x cx → VR hp L β y cy → aggOf P t = some none → (Op.equalIn n t cx cy).run P w = .ok r w) ∧
    (∀ (vx vy : Array Value), (∃ m, aggOf P t = some m ∧ m.isSome) → RL hp L β xs vx.toList → RL hp L β ys vy.toList → (Op.equalIn n t (.agg vx) (.agg vy)).run P w = .ok r w) := by
  intro d
  induction d with
  | zero => intro t ks h; simp [flatK] at h
  | succ d ih =>
    intro t ks hk n xs ys r hn he
    obtain ⟨n, rfl⟩ : ∃ m, n = m + 1 := ⟨n - 1, by omega⟩
    unfold flatK at hk
    split at hk
    case h_1 hu =>
      cases hk
      refine ⟨fun k x y cx cy h1 h2 h3 hx hy _ => ?_, fun vx vy ⟨m, hm, hs⟩ => by simp [aggOf, hu] at hm; subst hm; cases hs⟩
      cases h1; subst h2; subst h3
      simp only [eqCells] at he
      split at he
      · rename_i a b h4 h5; cases h5; cases he; rw [Bool.and_true]; exact eqCell_ok (k := .bool) hu h4 hx hy n
      · cases he
    case h_2 k0 hu =>
      cases hk
      refine ⟨fun k x y cx cy h1 h2 h3 hx hy _ => ?_, fun vx vy ⟨m, hm, hs⟩ => by simp [aggOf, hu] at hm; subst hm; cases hs⟩
      cases h1; subst h2; subst h3
      simp only [eqCells] at he
      split at he
      · rename_i a b h4 h5; cases h5; cases he; rw [Bool.and_true]; exact eqCell_ok (k := .int k0) hu h4 hx hy n
      · cases he
    case h_3 hu =>
      cases hk
      refine ⟨fun k x y cx cy h1 h2 h3 hx hy _ => ?_, fun vx vy ⟨m, hm, hs⟩ => by simp [aggOf, hu] at hm; subst hm; cases hs⟩
      cases h1; subst h2; subst h3
      simp only [eqCells] at he
      split at he
      · rename_i a b h4 h5; cases h5; cases he; rw [Bool.and_true]; exact eqCell_ok (k := .str) hu h4 hx hy n
      · cases he
    case h_4 fs hu =>
      split at hk
      · cases hk
      · rename_i hsi
        refine ⟨fun k x y cx cy h1 h2 h3 hx hy ha => ?_, fun vx vy _ hx hy => ?_⟩
        · simp [aggOf, hu] at ha
        · have hfo : P.fieldsOf t = fs := by simp [Program.fieldsOf, hu]
          rw [run_equalIn_struct w n t vx vy (by rw [hfo]; exact hu) (by simpa using hsi), hfo]
          -- along the fields
          have key : ∀ (l : List Field) (off : Nat) (ks : List SK) (r : Bool), flatFs P (flatK P d) off l = some ks → eqCells ks (xs.drop off) (ys.drop off) = some r → (Op.eqFields n vx vy l).run P w = .ok r w := by
            intro l
            induction l with
            | nil =>
              intro off ks r h1 h2
              simp [flatFs] at h1; subst h1
              have hl := eqCells_length h2
              cases hxs : xs.drop off with
              | cons a b => rw [hxs] at hl; simp at hl
              | nil =>
                cases hys : ys.drop off with
                | cons a b => rw [hys] at hl; simp at hl
                | nil => rw [hxs, hys] at h2; simp [eqCells] at h2; subst h2; simp [Op.eqFields]
            | cons f l ihl =>
              intro off ks r h1 h2
              simp only [flatFs] at h1
              split at h1
              · cases h1
              · rename_i hnm
                cases hf : flatK P d f.type with
                | none => simp [hf] at h1
                | some k1 =>
                  simp only [hf] at h1
                  split at h1
                  · rename_i hsz
                    cases hrest : flatFs P (flatK P d) (off + k1.length) l with
                    | none => simp [hrest] at h1
                    | some k2 =>
                      simp only [hrest] at h1
                      cases h1
                      obtain ⟨r1, r2, h3, h4, rfl⟩ := eqCells_append h2
                      rw [List.drop_drop, List.drop_drop] at h4
                      have h5 := ihl _ _ _ hrest h4
                      have hoff : f.offset = off := by
                        by_cases h6 : f.offset = off
                        · exact h6
                        · exact absurd (Or.inr h6) hnm
                      have hname : f.name ≠ "_" := fun h6 => hnm (Or.inl h6)
                      obtain ⟨h6, h7⟩ := ih f.type k1 hf n ((xs.drop off).take k1.length) ((ys.drop off).take k1.length) r1 (by omega) h3
                      have hstep : ∃ a b, (part f.type vx f.offset).run P w = .ok a w ∧ (part f.type vy f.offset).run P w = .ok b w ∧ (Op.equalIn n f.type a b).run P w = .ok r1 w := by
                        cases ha : aggOf P f.type with
                        | none =>
                          exfalso
                          cases d with
                          | zero => simp [flatK] at hf
                          | succ d =>
                            unfold flatK at hf
                            unfold aggOf at ha
                            cases hu2 : P.underlying f.type with
                            | none => simp [hu2] at hf
                            | some dd => cases dd <;> simp [hu2] at hf ha <;> rw [hsz] at ha <;> cases ha
                        | some m =>
                          cases m with
                          | none =>
                            have hlen1 : ∃ k, k1 = [k] := by
                              cases d with
                              | zero => simp [flatK] at hf
                              | succ d =>
                                unfold flatK at hf
                                unfold aggOf at ha
                                cases hu2 : P.underlying f.type with
                                | none => simp [hu2] at hf
                                | some dd =>
                                  cases dd <;> simp [hu2] at hf ha
                                  · exact ⟨_, hf.symm⟩
                                  · exact ⟨_, hf.symm⟩
                                  · exact ⟨_, hf.symm⟩
                            obtain ⟨k, rfl⟩ := hlen1
                            have hl3 := eqCells_length h3
                            match hxa : (xs.drop off).take [k].length, hya : (ys.drop off).take [k].length, hl3 with
                            | [a], [b], _ =>
                              have hga : xs[off]? = some a := by
                                have : ((xs.drop off).take [k].length)[0]? = some a := by rw [hxa]; rfl
                                simpa [List.getElem?_take, List.getElem?_drop] using this
                              have hgb : ys[off]? = some b := by
                                have : ((ys.drop off).take [k].length)[0]? = some b := by rw [hya]; rfl
                                simpa [List.getElem?_take, List.getElem?_drop] using this
                              obtain ⟨va, p1, q1⟩ := part_one (P := P) (w := w) ha hx hga
                              obtain ⟨vb, p2, q2⟩ := part_one (P := P) (w := w) ha hy hgb
                              rw [hoff]
                              exact ⟨va, vb, p1, p2, h6 k a b va vb rfl hxa hya q1 q2 ha⟩
                          | some m =>
                            have hm : m = k1.length := by
                              unfold aggOf at ha
                              cases hu2 : P.underlying f.type with
                              | none => simp [hu2] at ha
                              | some dd =>
                                cases dd <;> simp [hu2] at ha
                                all_goals (rw [hsz] at ha; cases ha; rfl)
                            subst hm
                            obtain ⟨ua, p1, q1⟩ := part_agg (P := P) (w := w) (off := off) ha hx
                            obtain ⟨ub, p2, q2⟩ := part_agg (P := P) (w := w) (off := off) ha hy
                            rw [hoff]
                            exact ⟨_, _, p1, p2, h7 ua ub ⟨_, ha, rfl⟩ q1 q2⟩
                      obtain ⟨a, b, p1, p2, p3⟩ := hstep
                      simp only [Op.eqFields, hname, ne_eq, not_false_eq_true, if_true, Sem.run_bind, p1, p2, p3, Result.andThen_ok]
                      cases r1
                      · simp
                      · simpa using h5
                  · cases h1
          exact key fs.toList 0 ks r hk (by simpa using he)
    case h_5 => cases hk
end
end Go.Eng
end
noncomputable section
namespace Go.Eng
section
variable {P : Program} {hp : Array Obj} {L : Nat → Prop} {β : Bl} {w : World}
theorem apart_ok {t : TypeId} {n : Option Nat} {off : Nat} {as : List AV} {vs : Array Value} {v : AV} (hq : aggOf P t = some n) (h : apart n as off = some v) (hR : RL hp L β as vs.toList) : ∃ cv, (part t vs off).run P w = .ok cv w ∧ VR hp L β v cv := by
  cases n with
  | none => exact part_one hq hR h
  | some n =>
    simp only [apart] at h
    cases hc : cut as off n with
    | none => simp [hc] at h
    | some bs =>
      simp [hc] at h; subst h
      obtain ⟨_, rfl⟩ := cut_some hc
      obtain ⟨us, h1, h2⟩ := part_agg (P := P) (w := w) (off := off) hq hR
      exact ⟨_, h1, RL.agg h2⟩
theorem VR.agg_inv {as : List AV} {cv : Value} (h : VR hp L β (.agg as) cv) : ∃ vs : Array Value, cv = .agg vs ∧ RL hp L β as vs.toList := by
  cases h
  rename_i vs hl h
  exact ⟨vs, rfl, by simpa using hl, fun i c v hc hv => h i c v hc (by simpa using hv)⟩
theorem VR.tup_inv {as : List AV} {cv : Value} (h : VR hp L β (.tup as) cv) : ∃ vs : Array Value, cv = .tuple vs ∧ RL hp L β as vs.toList := by
  cases h
  rename_i vs hl h
  exact ⟨vs, rfl, by simpa using hl, fun i c v hc hv => h i c v hc (by simpa using hv)⟩

theorem aix_some {n j : Nat} {v : AV} (h : aix n v = some j) : ∃ k i, v = .int k i ∧ 0 ≤ i ∧ i < n ∧ j = i.toNat := by
  unfold aix at h
  cases v <;> simp only [aidx] at h <;> try cases h
  rename_i k i
  split at h
  · rename_i hi; cases h; exact ⟨k, i, rfl, hi.1, hi.2, rfl⟩
  · cases h

/-- an address moved on within a variable -/
theorem afldA_ok {off : Nat} {x v : AV} {cx : Value} (hx : VR hp L β x cx) (h : afldA off x = some v) : ∃ b o, cx = .pointer (some ⟨b, o, none⟩) ∧ VR hp L β v (.pointer (some ⟨b, o + off, none⟩)) := by
  cases hx <;> simp only [afldA] at h <;> try cases h
  case gptr.refl g o => exact ⟨g, o, rfl, .gptr g (o + off)⟩
  case ptr id o b base hb => exact ⟨b, base + o, rfl, by rw [Nat.add_assoc]; exact .ptr _ _ _ _ hb⟩
  case pptr cs b o cur e fz hb hL hs hr =>
    split at h
    · cases h
      exact ⟨b, o, rfl, .pptr _ b (o + off) cur e fz hb hL (by simp; omega) fun i c v hc hv => hr (off + i) c v (by rwa [List.getElem?_drop] at hc) (by rw [← hv]; congr 1; omega)⟩
    · cases h

theorem fieldA_ok {s : TypeId} {fs : Array Field} {f n : Nat} {g : Field} {x v : AV} {cx : Value} (hu : P.underlying s = some (.struct fs)) (hg : fs[f]? = some g) (hsz : szOf P g.type = some n) (hn : n ≠ 0) (hx : VR hp L β x cx) (h : afldA g.offset x = some v) :
    ∃ cv, (Instr.fieldAt s cx f).run P w = .ok cv w ∧ VR hp L β v cv := by
  obtain ⟨b, o, rfl, hv⟩ := afldA_ok hx h
  refine ⟨_, ?_, hv⟩
  simp [Instr.fieldAt, Sem.run_bind, run_underlying hu, hg, Instr.sureAddr, fieldPlace, szOf_some hsz, hn, add_lit']

theorem idxArrA_ok {t e : TypeId} {n z j : Nat} {x i v : AV} {cx ci : Value} (hu : P.underlying t = some (.array n e)) (hsz : szOf P e = some z) (hx : VR hp L β x cx) (hi : VR hp L β i ci) (hj : aix n i = some j) (h : afldA (j * z) x = some v) :
    ∃ cv, (Instr.indexAt t cx ci).run P w = .ok cv w ∧ VR hp L β v cv := by
  obtain ⟨k, m, rfl, h1, h2, rfl⟩ := aix_some hj
  cases hi
  obtain ⟨b, o, rfl, hv⟩ := afldA_ok hx h
  refine ⟨_, ?_, hv⟩
  simp [Instr.indexAt, asIntOf, Instr.sureAddr, Sem.run_bind, run_underlying hu, szOf_some hsz, add_lit', h1, h2]

theorem idxA_ok {t e : TypeId} {z : Nat} {x i v : AV} {cx ci : Value} (hu : P.underlying t = some (.slice e)) (hsz : szOf P e = some z) (hx : VR hp L β x cx) (hi : VR hp L β i ci) (h : aidxA z x i = some v) :
    ∃ cv, (Instr.indexAt t cx ci).run P w = .ok cv w ∧ VR hp L β v cv := by
  cases hx <;> simp only [aidxA] at h <;> try cases h
  case psl0 a cap =>
    split at h
    · rename_i hq; obtain ⟨_, _, _, h1, h2, _⟩ := aix_some hq; simp at h2; omega
    · cases h
  case psl xs z' b o cap cur e' fz hb hL hs hz hc hr =>
    cases hj : aix xs.length i with
    | none => simp [hj] at h
    | some j =>
      obtain ⟨k, n, rfl, h1, h2, rfl⟩ := aix_some hj
      simp only [hj] at h
      cases hi
      cases hq : xs[n.toNat]? with
      | none => simp [hq] at h
      | some c =>
        simp only [hq] at h
        split at h
        · rename_i hcl
          cases h
          have hz' : z' = z := by rw [← hz _ _ hq]; exact hcl
          subst hz'
          have hlt : n.toNat < xs.length := (List.getElem?_eq_some_iff.1 hq).1
          refine ⟨.pointer (some ⟨b, o + n.toNat * z', none⟩), ?_, ?_⟩
          · simp [Instr.indexAt, asIntOf, Sem.run_bind, run_underlying hu, szOf_some hsz, add_lit', h1, h2]
          · have hmul : (n.toNat + 1) * z' ≤ xs.length * z' := Nat.mul_le_mul_right _ hlt
            rw [Nat.add_mul, Nat.one_mul] at hmul
            exact .pptr c b _ cur e' fz hb hL (by omega) fun j c' v hc' hv => hr n.toNat c j c' v hq hc' hv
        · cases h
  case rsl id off len z' b base cap cur e' fz hβ hb hc hm hs =>
    split at h
    · rename_i hz; subst hz
      cases hj : aix len i with
      | none => simp [hj] at h
      | some j =>
        obtain ⟨k, n, rfl, h1, h2, rfl⟩ := aix_some hj
        simp only [hj] at h
        cases h
        cases hi
        refine ⟨.pointer (some ⟨b, base + (off + n.toNat * z'), none⟩), ?_, .ptr _ _ _ _ hβ⟩
        simp [Instr.indexAt, asIntOf, Sem.run_bind, run_underlying hu, szOf_some hsz, add_lit', h1, h2, Nat.add_assoc]
    · cases h
  case gsl g off len cap hc =>
    cases hj : aix len i with
    | none => simp [hj] at h
    | some j =>
      obtain ⟨k, n, rfl, h1, h2, rfl⟩ := aix_some hj
      simp only [hj] at h
      cases h
      cases hi
      refine ⟨.pointer (some ⟨g, off + n.toNat * z, none⟩), ?_, .gptr _ _⟩
      simp [Instr.indexAt, asIntOf, Sem.run_bind, run_underlying hu, szOf_some hsz, add_lit', h1, h2]
  case rsl0 id off z' b base o hβ =>
    split at h
    · split at h
      · rename_i hq; obtain ⟨_, _, _, h1, h2, _⟩ := aix_some hq; omega
      · cases h
    · cases h

theorem idx_ok {t e : TypeId} {len z j : Nat} {n : Option Nat} {as : List AV} {i v : AV} {cx ci : Value} (hu : P.underlying t = some (.array len e)) (hsz : szOf P e = some z) (hq : aggOf P e = some n) (hx : VR hp L β (.agg as) cx) (hi : VR hp L β i ci)
    (hj : aix len i = some j) (h : apart n as (j * z) = some v) : ∃ cv, (Instr.index t cx ci).run P w = .ok cv w ∧ VR hp L β v cv := by
  obtain ⟨k, m, rfl, h1, h2, rfl⟩ := aix_some hj
  cases hi
  obtain ⟨vs, rfl, hR⟩ := VR.agg_inv hx
  obtain ⟨cv, h3, h4⟩ := apart_ok (P := P) (w := w) hq h hR
  refine ⟨cv, ?_, h4⟩
  simp [Instr.index, asIntOf, Sem.run_bind, run_underlying hu, szOf_some hsz, h1, h2, h3]

theorem idxS_ok {t : TypeId} {s : List UInt8} {j : Nat} {c : UInt8} {i : AV} {ci : Value} (hu : P.underlying t = some .string) (hi : VR hp L β i ci) (hj : aix s.length i = some j) (hc : s[j]? = some c) :
    (Instr.index t (.string ⟨s.toArray⟩) ci).run P w = .ok (.int .u8 c.toNat) w := by
  obtain ⟨k, m, rfl, h1, h2, rfl⟩ := aix_some hj
  cases hi
  have h3 : (⟨s.toArray⟩ : ByteArray)[m.toNat]? = some c := by
    obtain ⟨hlt, hv⟩ := List.getElem?_eq_some_iff.1 hc
    rw [getElem?_pos (⟨s.toArray⟩ : ByteArray) m.toNat (by rw [bytes_size]; exact hlt)]
    congr 1
  simp [Instr.index, asIntOf, Sem.run_bind, run_underlying hu, h1, h3]

theorem abd_some {n d r : Nat} {v : Option AV} (h : abd n v d = some r) : (v = none ∧ r = d) ∨ ∃ k i, v = some (.int k i) ∧ 0 ≤ i ∧ i ≤ n ∧ r = i.toNat := by
  cases v with
  | none => simp [abd] at h; exact .inl ⟨rfl, h.symm⟩
  | some v =>
    right
    cases v <;> simp only [abd, aidx] at h <;> try cases h
    rename_i k i
    split at h
    · rename_i hi; cases h; exact ⟨k, i, rfl, hi.1, hi.2, rfl⟩
    · cases h

/-- optional values -/
def VRO (hp : Array Obj) (L : Nat → Prop) (β : Bl) : Option AV → Option Value → Prop
  | none, none => True
  | some a, some v => VR hp L β a v
  | _, _ => False

/-- The bounds of a slice expression. -/
theorem bounds_ok {isS : Bool} {n cap m hb l : Nat} {lo hi mx : Option AV} {clo chi cmx : Option Value} (hcap : n ≤ cap) (hlo : VRO hp L β lo clo) (hhi : VRO hp L β hi chi) (hmx : VRO hp L β mx cmx)
    (h1 : abd n mx n = some m) (h2 : abd m hi n = some hb) (h3 : abd hb lo 0 = some l) (h4 : (mx.isSome && hi.isNone) = false) :
    ∃ m', (Instr.sliceBounds isS n cap clo chi cmx).run P w = .ok (l, hb, m') w ∧ l ≤ hb ∧ hb ≤ m' ∧ hb ≤ n ∧ m' ≤ cap ∧ (mx.isSome = true → m' = m) ∧ (mx = none → m' = cap) := by
  have hsb : ∀ (k : IntKind) (i : Int) (y : Nat) (code : BoundsCode), 0 ≤ i → i ≤ y → (Instr.sliceBound (.int k i) y code).run P w = .ok i.toNat w := by
    intro k i y code h5 h6
    simp [Instr.sliceBound, asIntOf, h5, h6]
  rcases abd_some h1 with ⟨rfl, rfl⟩ | ⟨k1, i1, rfl, a1, a2, rfl⟩
  · cases cmx <;> simp only [VRO] at hmx
    rcases abd_some h2 with ⟨rfl, rfl⟩ | ⟨k2, i2, rfl, b1, b2, rfl⟩
    · cases chi <;> simp only [VRO] at hhi
      rcases abd_some h3 with ⟨rfl, rfl⟩ | ⟨k3, i3, rfl, c1, c2, rfl⟩
      · cases clo <;> simp only [VRO] at hlo
        exact ⟨cap, by simp [Instr.sliceBounds], by omega, by omega, by omega, by omega, by simp, by simp⟩
      · cases clo <;> simp only [VRO] at hlo
        cases hlo
        exact ⟨cap, by simp [Instr.sliceBounds, hsb _ _ _ _ c1 c2], by omega, by omega, by omega, by omega, by simp, by simp⟩
    · cases chi <;> simp only [VRO] at hhi
      cases hhi
      have b3 : i2 ≤ (cap : Int) := by omega
      rcases abd_some h3 with ⟨rfl, rfl⟩ | ⟨k3, i3, rfl, c1, c2, rfl⟩
      · cases clo <;> simp only [VRO] at hlo
        exact ⟨cap, by simp [Instr.sliceBounds, hsb _ _ _ _ b1 b3], by omega, by omega, by omega, by omega, by simp, by simp⟩
      · cases clo <;> simp only [VRO] at hlo
        cases hlo
        exact ⟨cap, by simp [Instr.sliceBounds, hsb _ _ _ _ b1 b3, hsb _ _ _ _ c1 c2], by omega, by omega, by omega, by omega, by simp, by simp⟩
  · cases cmx <;> simp only [VRO] at hmx
    cases hmx
    have a3 : i1 ≤ (cap : Int) := by omega
    rcases abd_some h2 with ⟨rfl, rfl⟩ | ⟨k2, i2, rfl, b1, b2, rfl⟩
    · simp at h4
    · cases chi <;> simp only [VRO] at hhi
      cases hhi
      rcases abd_some h3 with ⟨rfl, rfl⟩ | ⟨k3, i3, rfl, c1, c2, rfl⟩
      · cases clo <;> simp only [VRO] at hlo
        exact ⟨i1.toNat, by simp [Instr.sliceBounds, hsb _ _ _ _ a1 a3, hsb _ _ _ _ b1 b2], by omega, by omega, by omega, by omega, by simp, by simp⟩
      · cases clo <;> simp only [VRO] at hlo
        cases hlo
        exact ⟨i1.toNat, by simp [Instr.sliceBounds, hsb _ _ _ _ a1 a3, hsb _ _ _ _ b1 b2, hsb _ _ _ _ c1 c2], by omega, by omega, by omega, by omega, by simp, by simp⟩

/-- What a slice's value is in the model. -/
theorem alen_slice {x : AV} {n : Nat} {cx : Value} (hx : VR hp L β x cx) (h : alen x = some n) : ∃ a cap, cx = .slice a n cap ∧ n ≤ cap := by
  cases hx <;> simp only [alen] at h <;> try cases h
  case nilsl => exact ⟨_, _, rfl, Nat.le_refl _⟩
  case esl a => exact ⟨_, _, rfl, Nat.le_refl _⟩
  case psl0 a cap => exact ⟨_, _, rfl, Nat.zero_le _⟩
  case psl => exact ⟨_, _, rfl, by assumption⟩
  case rsl => exact ⟨_, _, rfl, by assumption⟩
  case rsl0 => exact ⟨_, _, rfl, Nat.le_refl _⟩
  case gsl => exact ⟨_, _, rfl, by assumption⟩

theorem slice_ok {t e : TypeId} {z : Nat} {x v : AV} {cx : Value} {lo hi mx : Option AV} {clo chi cmx : Option Value} (hu : P.underlying t = some (.slice e)) (hsz : szOf P e = some z) (hx : VR hp L β x cx) (hlo : VRO hp L β lo clo) (hhi : VRO hp L β hi chi) (hmx : VRO hp L β mx cmx)
    (h : aslice z x lo hi mx = some v) : ∃ cv, (Instr.sliceAt t cx clo chi cmx).run P w = .ok cv w ∧ VR hp L β v cv := by
  unfold aslice at h
  split at h
  case h_2 => cases h
  rename_i n hn
  split at h
  case h_2 => cases h
  rename_i m hm
  split at h
  case h_2 => cases h
  rename_i hb hh
  split at h
  case h_2 => cases h
  rename_i l hl
  split at h
  · cases h
  · rename_i h4
    obtain ⟨a, cap, rfl, hcap⟩ := alen_slice hx hn
    obtain ⟨m', hrun, b1, b2, b3, b4, b5, b6⟩ := bounds_ok (P := P) (w := w) (isS := true) hcap hlo hhi hmx hm hh hl (by simpa only [Bool.not_eq_true] using h4)
    refine ⟨.slice (if m' = l then a else a.map (·.add (l * z))) (hb - l) (m' - l), ?_, ?_⟩
    · simp only [Instr.sliceAt, Instr.slice, Sem.run_bind, run_underlying hu, Result.andThen_ok, hrun, szOf_some hsz, Sem.run_pure]
    · cases hx <;> simp only [asl] at h <;> try (cases h; done)
      case nilsl =>
        split at h
        · rename_i h0; cases h
          simp only [alen] at hn; cases hn
          have hm0 : m' = 0 := by omega
          have hl0 : l = 0 := by omega
          subst hm0; subst hl0; subst h0
          exact .nilsl
        · cases h
      case esl =>
        split at h
        · rename_i h0; cases h
          have hm0 : m' = 0 := by omega
          have hl0 : l = 0 := by omega
          subst hm0; subst hl0; subst h0
          exact .esl _
        · cases h
      case psl0 =>
        simp only [alen, List.length_nil] at hn; cases hn
        have hb0 : hb = 0 := by omega
        have hl0 : l = 0 := by omega
        subst hb0; subst hl0
        simp only [List.all_nil, if_true] at h
        cases h
        split
        · rename_i h5
          simp only [Bool.and_eq_true, beq_iff_eq] at h5
          have := b5 h5.1
          rw [show m' = 0 by omega]
          exact .esl _
        · simp only [List.drop_nil, List.take_nil]; exact .psl0 _ _
      case psl xs z' b o cur e' fz hbk hL hs hz hr hc =>
        simp only [alen] at hn
        split at h
        · rename_i hall
          cases h
          split
          · rename_i h5
            simp only [Bool.and_eq_true, beq_iff_eq] at h5
            have := b5 h5.1
            rw [show m' - l = 0 by omega, show hb - l = 0 by omega]
            exact .esl _
          · by_cases h0 : hb - l = 0
            · rw [h0, List.take_zero]; exact .psl0 _ _
            · have hne : ¬ (m' = l) := by omega
              rw [if_neg hne]
              have hzz : z' = z := by
                have h6 : 0 < xs.length := by omega
                have h7 := hz 0 xs[0] (by simp [h6])
                have h8 := List.all_eq_true.1 hall xs[0] (List.getElem_mem h6)
                rw [← h7]; simpa using h8
              subst hzz
              have hlen : ((xs.drop l).take (hb - l)).length = hb - l := by simp; omega
              simp only [Option.map_some, add_lit']
              have key := VR.psl (hp := hp) (L := L) (β := β) ((xs.drop l).take (hb - l)) z' b (o + l * z') (m' - l) cur e' fz hbk hL (by
                  rw [hlen]
                  have h9 : l * z' + (hb - l) * z' ≤ xs.length * z' := by rw [← Nat.add_mul]; exact Nat.mul_le_mul_right _ (by omega)
                  omega) (fun i y hy => by
                  rw [List.getElem?_take] at hy
                  split at hy
                  · rw [List.getElem?_drop] at hy; exact hz _ _ hy
                  · cases hy) (by omega) (fun i y j c v hy hcj hv => by
                  rw [List.getElem?_take] at hy
                  split at hy
                  · rw [List.getElem?_drop] at hy
                    refine hr (l + i) y j c v hy hcj ?_
                    rw [← hv]; congr 1; rw [Nat.add_mul]; omega
                  · cases hy)
              rw [hlen] at key
              exact key
        · cases h
      case rsl id off z' b base cur e' fz hβ hbk hc hm' hs =>
        split at h
        · rename_i hz; subst hz
          cases h
          split
          · rename_i h5
            simp only [Bool.and_eq_true, beq_iff_eq] at h5
            have := b5 h5.1
            rw [show m' - l = 0 by omega, show hb - l = 0 by omega]
            exact .esl _
          · by_cases hne : m' = l
            · rw [if_pos hne, show hb - l = 0 by omega, show m' - l = 0 by omega]
              exact .rsl0 _ _ _ _ _ _ hβ
            · rw [if_neg hne]
              simp only [Option.map_some, add_lit']
              have h9 : l * z' + (m' - l) * z' ≤ cap * z' := by rw [← Nat.add_mul]; exact Nat.mul_le_mul_right _ (by omega)
              have key := VR.rsl (hp := hp) (L := L) (β := β) id (off + l * z') (hb - l) z' b base (m' - l) cur e' _ hβ hbk (by omega) (by omega) (by omega)
              rw [← Nat.add_assoc] at key
              exact key
        · cases h
      case rsl0 id off z' b base o hβ =>
        simp only [alen] at hn; cases hn
        have hm0 : m' = 0 := by omega
        have hl0 : l = 0 := by omega
        have hb0 : hb = 0 := by omega
        subst hm0; subst hl0; subst hb0
        split at h
        · rename_i hz; subst hz
          cases h
          split
          · exact .esl _
          · exact .rsl0 _ _ _ _ _ _ hβ
        · cases h

theorem sliceS_ok {t : TypeId} {s r : List UInt8} {lo hi : Option AV} {clo chi : Option Value} (hu : P.underlying t = some .string) (hlo : VRO hp L β lo clo) (hhi : VRO hp L β hi chi) (h : asliceS s lo hi = some r) :
    (Instr.sliceAt t (.string ⟨s.toArray⟩) clo chi none).run P w = .ok (.string ⟨r.toArray⟩) w := by
  unfold asliceS at h
  split at h
  case h_2 => cases h
  rename_i hb hh
  split at h
  case h_2 => cases h
  rename_i l hl
  cases h
  obtain ⟨m', hrun, b1, b2, b3, b4, b5, b6⟩ := bounds_ok (P := P) (w := w) (hp := hp) (L := L) (β := β) (isS := false) (n := s.length) (cap := s.length) (Nat.le_refl _) hlo hhi (mx := none) (cmx := none) trivial rfl hh hl rfl
  have hsz := bytes_size s
  simp only [Instr.sliceAt, Instr.slice, Sem.run_bind, run_underlying hu, Result.andThen_ok, hsz, hrun, Sem.run_pure]
  simp [bytes_extract, hrun]
end
end Go.Eng
end
