/- Every abstract operation stands for the model's operation. -/
import Derived.Test.YtfegfialedlfcaaGreatDoorEngH
import Derived.Laws.MakeOwn
set_option linter.unusedSimpArgs false
set_option linter.unusedVariables false
set_option linter.unnecessarySimpa false
noncomputable section
namespace Go.Eng
theorem wrap64_of {n : Int} (h0 : 0 ≤ n) (h1 : n ≤ 9223372036854775807) : IntKind.i64.wrap n = n := by
  have e : n % (2 ^ IntKind.i64.bits : Int) = n := by
    show n % (2 ^ 64 : Int) = n
    omega
  unfold IntKind.wrap
  simp only [e]
  rw [if_neg]
  simp only [Bool.and_eq_true, decide_eq_true_eq, not_and]
  intro _
  show ¬ (n ≥ 2 ^ 63)
  omega

section
variable {P : Program} {own : Nat → Prop} {β : Bl} {h : AH} {w : World}
theorem OpOk.val {s : Sem Value} {v : AV} {cv : Value} (hs : SimH own β h.H h.nx w) (hr : s.run P w = .ok cv w) (hv : VR w.heap (LL own β h.H) β v cv) : OpOk P own β h w (do pure (.value (← s))) v h :=
  .still hs (by simp only [Sem.run_bind, hr, Result.andThen_ok, Sem.run_pure]) hv

theorem copy_ok (hs : SimH own β h.H h.nx w) {t ty e : TypeId} {z : Nat} {d s v : AV} {cd cs : Value} {h' : AH} (ht : P.underlying t = some (.slice e)) (hsz : szOf P e = some z)
    (hvd : VR w.heap (LL own β h.H) β d cd) (hvs : VR w.heap (LL own β h.H) β s cs) (ha : acopy h z d s = some (v, h')) :
    OpOk P own β h w (do pure (.value (← Builtin.copy_ #[t, t] ty #[cd, cs]))) v h' := by
  unfold acopy at ha
  split at ha
  case h_2 => cases ha
  rename_i src m n hsrc hm hn
  simp only at ha
  obtain ⟨sa, sc, nv, rfl, hsc, hnR, hnl, hfirst⟩ := src_ok (P := P) hs hsrc hm hvs
  split at ha
  · rename_i hk0
    cases ha
    have hdl : ∃ a cap, cd = .slice a n cap := by
      obtain ⟨a, cap, h1, _⟩ := alen_slice hvd hn
      exact ⟨a, cap, h1⟩
    obtain ⟨a, cap, rfl⟩ := hdl
    have h0 := hfirst 0 (Nat.zero_le _) w rfl
    refine .val hs (cv := .int .i64 0) ?_ (.int _ _)
    have hmin : Nat.min m n = 0 := hk0
    have hst : ∀ ad : Addr, (storeCells ad []).run P w = .ok () w := fun ad => rfl
    cases a <;> simp [Builtin.copy_, run_underlying ht, szOf_some hsz, Builtin.lenOf, hmin, goInt] <;> simp at h0 <;> simp [h0, hst]
  · rename_i hk0
    split at ha
    · cases ha
    · rename_i hones
      have hones' : ones (src.take (min m n * z)) = true := by simpa using hones
      split at ha
      case h_2 => cases ha
      rename_i id off len z'
      split at ha
      case isFalse => cases ha
      rename_i hz
      subst hz
      cases hcs : h.cellsAt id with
      | none => simp [hcs] at ha
      | some cells =>
        simp only [hcs] at ha
        cases hsp : splice cells off (src.take (min m n * z')) with
        | none => simp [hsp] at ha
        | some cells' =>
          simp only [hsp] at ha
          cases ha
          simp only [alen, Option.some.injEq] at hn
          subst hn
          cases hvd with
          | rsl _ _ _ _ b base cap cur e0 fz0 hβ hb hc hmax hs2 =>
            obtain ⟨w', h1, h2, h3⟩ := storeRow_ok (P := P) hs hcs hβ hsp (hnR.take _) hones'
            have hf := hfirst (min m len) (Nat.min_le_left _ _) w rfl
            refine ⟨.int .i64 (min m len : Nat), w', β, .inl ?_, h2, .int _ _, h3⟩
            have hmin : Nat.min m len = min m len := rfl
            simp [Builtin.copy_, run_underlying ht, szOf_some hsz, Builtin.lenOf, hmin, hf, h1, goInt]
          | rsl0 => simp at hk0

theorem makeSlice_at {H : Hp} {nx : Nat} (hs : SimH own β H nx w) (r : Nat) (hr : β r = none) {t e : TypeId} {z bytes : Nat} {zero : List AV} {n m : Int} (ht : P.underlying t = some (.slice e)) (hz : zeroOf P e = some zero) (hsz : szOf P e = some z) (hzl : zero.length = z) (hz0 : z ≠ 0) (hby : byOf P e = some bytes)
    (h1 : 0 ≤ n) (h2 : n ≤ m) (h3 : m ≤ 9223372036854775807) (h4 : m.toNat * bytes ≤ 140737488355328) :
    OpAt P own β H nx w (do pure (.value (← Instr.makeSlice t (.int .i64 n) (.int .i64 m)))) (.rsl r 0 n.toNat z) (.cells (repl m.toNat zero)) r := by
  obtain ⟨zv, hzv, hzR⟩ := zeroOf_some (P := P) (w := w) hz (hp := w.heap) (L := LL own β H) (β := β)
  obtain ⟨i, zv', hi, hiz, hzc⟩ := zeroOf_info hz
  have hzz : zv' = zv := by simp [zeroValue, typeInfo, hi, hiz] at hzv; exact hzv
  subst hzz
  have hisz : i.size = z := by simp [szOf, hi] at hsz; exact hsz
  have hiby : i.bytes = bytes := by simp [byOf, hi] at hby; exact hby
  have hR := repl_RL hzR (by omega) m.toNat
  rw [hzl] at hR
  have hbi : (i.bytes : Int) * m ≤ 281474976710656 := by
    have : ((m.toNat * bytes : Nat) : Int) ≤ 140737488355328 := by omega
    rw [Int.natCast_mul, Int.toNat_of_nonneg (by omega)] at this
    rw [hiby, Int.mul_comm]; omega
  have hrun := run_make (P := P) w t e i zv' ht hi hiz .i64 .i64 n m h1 h2 hbi h3
  rw [hisz] at hrun
  obtain ⟨w', g1, g2, g3, g4, g5⟩ := new_ok (P := P) hs r hr e (cs := repl m.toNat zero) (cur := madeCells zv'.cells (m.toNat * z)) hR
  have hw' : w' = w.alloc (.cells (madeCells zv'.cells (m.toNat * z)) e) := by
    have : (newRow e (madeCells zv'.cells (m.toNat * z))).run P w = .ok ⟨w.heap.size, 0, none⟩ (w.alloc (.cells (madeCells zv'.cells (m.toNat * z)) e)) := rfl
    rw [this] at g1; cases g1; rfl
  refine ⟨.slice (some ⟨w.heap.size, 0, none⟩) n.toNat m.toNat, w', ?_, g2, VR.rsl r 0 n.toNat z w.heap.size 0 m.toNat _ e _ g3 g5 (by omega) (by simp only [maxLen]; omega) (by rw [size_madeCells]; omega), g4⟩
  simp only [Sem.run_bind, hrun, Result.andThen_ok, Sem.run_pure, hw']
end
section
variable {P : Program} {nt : Nat} {ds : List Deferred} {own : Nat → Prop} {β : Bl} {T : Tm} {h : AH} {a : Act} {w : World}
theorem cOpdO_ok (hs : Sim nt ds own β T h a w) {x : Option Operand} {y : Option Opd} (hx : cOpdO x = some y) : VRO w.heap (LL own β h.H) β (y.map (·.ev T)) (x.map a.eval) := by
  cases x with
  | none => simp [cOpdO] at hx; subst hx; trivial
  | some x =>
    simp [cOpdO] at hx
    obtain ⟨z, hz, rfl⟩ := hx
    exact cOpd_ok hs hz

def xal : XK → List AV → Option (AObj × (Nat → AV))
  | .mkmap, [] => some (.map [], fun r => .mapv r)
  | .newT t z, [] => some (.typ (2 * t + 1) z, fun r => .ptr r 0)
  | .mkmap, [.int _ _] => some (.map [], fun r => .mapv r)
  | _, _ => none
/-- What an operation that makes an object puts there, and its value by the object's number. -/
def aalloc (T : Tm) : AOp → Option (AObj × (Nat → AV))
  | .new zero => some (.cells zero, fun r => .ptr r 0)
  | .box x => if stow (x.ev T) then some (.cells (x.ev T).cells, fun r => .ptr r 0) else none
  | .buildSl z len zero parts => match afillT T zero parts with
    | some cs => some (.cells cs, fun r => .rsl r 0 len z)
    | none => none
  | .mksl z bytes zero l c => match l.ev T, c.ev T with
    | .int .i64 n, .int .i64 m =>
      if 0 ≤ n ∧ n ≤ m ∧ m ≤ 9223372036854775807 then
        if m.toNat * bytes ≤ 140737488355328 then some (.cells (repl m.toNat zero), fun r => .rsl r 0 n.toNat z) else none
      else none
    | _, _ => none
  | .xo k as => xal k (as.map (·.ev T))
  | _ => none

def xA : XK → Bool
  | .mkmap => true
  | .newT _ _ => true
  | _ => false
def aA : AOp → Bool
  | .new _ | .box _ | .buildSl _ _ _ _ | .mksl _ _ _ _ _ => true
  | .xo k _ => xA k
  | _ => false
def oA : Op → Bool
  | .alloc _ | .box _ _ | .buildSlice _ _ _ | .makeSlice _ _ _ => true
  | _ => false
theorem cEq_class {neg : Bool} {t : TypeId} {x y : Opd} {ao : AOp} (hc : cEq P neg t x y = some ao) : aA ao = false := by
  unfold cEq at hc
  split at hc
  case h_8 =>
    split at hc
    · cases hc
    · simp only [Option.map_eq_some_iff] at hc
      obtain ⟨_, _, rfl⟩ := hc
      rfl
  case h_9 => cases hc
  all_goals (cases hc; try rfl)
  all_goals (cases neg <;> rfl)
theorem cOp_class {op : Op} {ao : AOp} (hc : cOp P op = some ao) : aA ao = oA op := by
  cases op <;> simp only [cOp] at hc <;> try (cases hc; done)
  case call c =>
    split at hc
    · simp only [bind, Option.bind_eq_some_iff, pure, Option.some.injEq] at hc
      obtain ⟨_, _, _, _, rfl⟩ := hc
      rfl
    · (repeat' (split at hc)) <;> simp [bind, Option.bind_eq_some_iff] at hc
      · subst hc; rfl
      · obtain ⟨_, _, rfl⟩ := hc; rfl
      · obtain ⟨_, _, rfl⟩ := hc; rfl
    · (repeat' (split at hc)) <;> simp [bind, Option.bind_eq_some_iff] at hc
      obtain ⟨_, _, _, _, _, _, _, _, _, _, _, rfl⟩ := hc; rfl
    · (repeat' (split at hc)) <;> simp [bind, Option.bind_eq_some_iff] at hc
      obtain ⟨_, _, _, _, _, _, _, rfl⟩ := hc; rfl
    · (repeat' (split at hc)) <;> simp [bind, Option.bind_eq_some_iff] at hc
      obtain ⟨_, _, _, _, rfl⟩ := hc; rfl
    · (repeat' (split at hc)) <;> simp [bind, Option.bind_eq_some_iff] at hc
      obtain ⟨_, _, _, _, rfl⟩ := hc; rfl
    · cases hc
  case binOp op t x y ty =>
    simp only [bind, Option.bind_eq_some_iff] at hc
    obtain ⟨_, _, _, _, hc⟩ := hc
    cases op <;> simp at hc
    case eql => exact cEq_class hc
    case neq => exact cEq_class hc
    all_goals (subst hc; rfl)
  case load t x =>
    simp only [bind, Option.bind_eq_some_iff] at hc
    obtain ⟨n, _, hc⟩ := hc
    cases n <;> simp [Option.bind_eq_some_iff] at hc <;> obtain ⟨_, _, rfl⟩ := hc <;> rfl
  case buildSlice t len ps =>
    split at hc
    · simp only [bind, Option.bind_eq_some_iff] at hc
      obtain ⟨_, _, hc⟩ := hc
      split at hc
      · cases hc
      · simp only [Option.bind_eq_some_iff] at hc
        obtain ⟨_, _, hc⟩ := hc
        split at hc
        · cases hc
        · simp only [Option.bind_eq_some_iff, pure, Option.some.injEq] at hc
          obtain ⟨_, _, rfl⟩ := hc
          rfl
    · cases hc
  case makeSlice t l c =>
    split at hc
    · simp only [bind, Option.bind_eq_some_iff] at hc
      obtain ⟨_, _, _, _, hc⟩ := hc
      split at hc
      · cases hc
      · simp only [Option.bind_eq_some_iff, pure, Option.some.injEq] at hc
        obtain ⟨_, _, _, _, _, _, rfl⟩ := hc
        rfl
    · cases hc
  case fieldAddr s x f =>
    split at hc
    · simp only [bind, Option.bind_eq_some_iff] at hc
      obtain ⟨_, _, _, _, hc⟩ := hc
      split at hc
      · cases hc
      · simp only [Option.bind_eq_some_iff, pure, Option.some.injEq] at hc
        obtain ⟨_, _, rfl⟩ := hc
        rfl
    · cases hc
  case slice t x lo hi mx =>
    split at hc
    · simp only [bind, Option.bind_eq_some_iff] at hc
      obtain ⟨_, _, hc⟩ := hc
      split at hc
      · cases hc
      · simp only [Option.bind_eq_some_iff, pure, Option.some.injEq] at hc
        obtain ⟨_, _, _, _, _, _, _, _, rfl⟩ := hc
        rfl
    · split at hc
      · cases hc
      · simp only [bind, Option.bind_eq_some_iff, pure, Option.some.injEq] at hc
        obtain ⟨_, _, _, _, _, _, rfl⟩ := hc
        rfl
    · cases hc
  case build t ps =>
    split at hc
    · split at hc
      · simp only [bind, Option.bind_eq_some_iff, pure, Option.some.injEq] at hc
        obtain ⟨_, _, _, _, rfl⟩ := hc
        rfl
      · cases hc
    · simp only [bind, Option.bind_eq_some_iff, pure, Option.some.injEq] at hc
      obtain ⟨_, _, _, _, _, _, rfl⟩ := hc
      rfl
    · cases hc
  case pick => simp [bind, Option.bind_eq_some_iff] at hc; obtain ⟨_, _, _, _, _, _, rfl⟩ := hc; rfl
  case store => simp [bind, Option.bind_eq_some_iff] at hc; obtain ⟨_, _, _, _, _, _, rfl⟩ := hc; rfl
  case convert => (repeat' (split at hc)) <;> simp [bind, Option.bind_eq_some_iff] at hc <;> obtain ⟨_, _, rfl⟩ := hc <;> rfl
  case field =>
    split at hc
    · simp only [bind, Option.bind_eq_some_iff, pure, Option.some.injEq] at hc
      obtain ⟨_, _, _, _, _, _, rfl⟩ := hc; rfl
    · cases hc
  case indexAddr =>
    split at hc
    · simp only [bind, Option.bind_eq_some_iff, pure, Option.some.injEq] at hc
      obtain ⟨_, _, _, _, _, _, rfl⟩ := hc; rfl
    · simp only [bind, Option.bind_eq_some_iff, pure, Option.some.injEq] at hc
      obtain ⟨_, _, _, _, _, _, rfl⟩ := hc; rfl
    · cases hc
  case index =>
    split at hc
    · simp only [bind, Option.bind_eq_some_iff, pure, Option.some.injEq] at hc
      obtain ⟨_, _, _, _, _, _, _, _, rfl⟩ := hc; rfl
    · simp only [bind, Option.bind_eq_some_iff, pure, Option.some.injEq] at hc
      obtain ⟨_, _, _, _, rfl⟩ := hc; rfl
    · cases hc
  case extract => simp [bind, Option.bind_eq_some_iff] at hc; obtain ⟨_, _, rfl⟩ := hc; rfl
  case alloc => (split at hc; · cases hc); simp only [Option.map_eq_some_iff] at hc; obtain ⟨_, _, rfl⟩ := hc; rfl
  case makeFunc => simp [bind, Option.bind_eq_some_iff] at hc; obtain ⟨_, _, _, _, rfl⟩ := hc; rfl
  all_goals (simp only [Option.map_eq_some_iff] at hc; obtain ⟨_, _, rfl⟩ := hc; rfl)

theorem aalloc_aA {T : Tm} {ao : AOp} {r : AObj × (Nat → AV)} (h : aalloc T ao = some r) : aA ao = true := by
  cases ao <;> simp only [aalloc] at h <;> first | (cases h; done) | rfl | skip
  rename_i k as
  cases k <;> first | (simp [xal] at h; done) | rfl
theorem alloc_op {H : Hp} {nx : Nat} (hs : SimH own β H nx w) (hρ : ∀ x y, cOpd x = some y → VR w.heap (LL own β H) β (y.ev T) (a.eval x)) {o : Oper} {ao : AOp} {ob : AObj} {mk : Nat → AV} (hc : cOp P o.op = some ao) (ha : aalloc T ao = some (ob, mk)) (r : Nat) (hr : β r = none) :
    OpAt P own β H nx w (execOp a.eval o) (mk r) ob r := by
  have hcl := cOp_class hc
  have hA : aA ao = true := aalloc_aA ha
  rw [hA] at hcl
  cases hop : o.op <;> rw [hop] at hcl <;> simp only [oA] at hcl <;> (try (cases hcl; done)) <;> rw [hop] at hc <;> simp only [cOp] at hc
  case alloc e =>
    split at hc
    · cases hc
    simp only [Option.map_eq_some_iff] at hc; obtain ⟨z, hz, rfl⟩ := hc
    simp only [aalloc] at ha; cases ha
    simp only [execOp, hop]
    exact alloc_at hs r hr hz
  case box e x =>
    simp only [Option.map_eq_some_iff] at hc; obtain ⟨y, hy, rfl⟩ := hc
    simp only [aalloc] at ha
    split at ha
    · rename_i hst; cases ha
      simp only [execOp, hop]
      exact box_at hs r hr e hst (hρ _ _ hy)
    · cases ha
  case buildSlice t len ps =>
    split at hc
    · rename_i e hu
      simp only [bind, Option.bind_eq_some_iff] at hc
      obtain ⟨s, hsz, hc⟩ := hc
      split at hc
      · cases hc
      · rename_i hlim
        simp only [Option.bind_eq_some_iff] at hc
        obtain ⟨z, hz, hc⟩ := hc
        split at hc
        · cases hc
        · rename_i hzl
          simp only [Option.bind_eq_some_iff, pure, Option.some.injEq] at hc
          obtain ⟨aps, hps, rfl⟩ := hc
          simp only [aalloc] at ha
          cases hf : afillT T (repl len z) aps with
          | none => simp [hf] at ha
          | some cs' =>
            simp only [hf] at ha; cases ha
            simp only [Bool.or_eq_true, decide_eq_true_eq, beq_iff_eq, not_or] at hlim
            simp only [ne_eq, Decidable.not_not] at hzl
            simp only [execOp, hop]
            exact buildSlice_at hs r hr hρ hu hsz hlim.1 hlim.2 hz hzl hps hf
    · cases hc
  case makeSlice t l c =>
    split at hc
    · rename_i e hu
      simp only [bind, Option.bind_eq_some_iff] at hc
      obtain ⟨s, hsz, z, hz, hc⟩ := hc
      split at hc
      · cases hc
      · rename_i hzl
        simp only [Option.bind_eq_some_iff, pure, Option.some.injEq] at hc
        obtain ⟨by_, hby, l', hl', c', hc', rfl⟩ := hc
        simp only [Bool.or_eq_true, decide_eq_true_eq, beq_iff_eq, not_or, ne_eq, Decidable.not_not] at hzl
        simp only [aalloc] at ha
        have h1 := hρ _ _ hl'
        have h2 := hρ _ _ hc'
        split at ha
        · rename_i n m hn hm
          rw [hn] at h1
          rw [hm] at h2
          split at ha
          · rename_i hb
            split at ha
            · rename_i hb2
              cases ha
              generalize hle : a.eval l = cl0 at h1
              generalize hce : a.eval c = cc0 at h2
              cases h1; cases h2
              simp only [execOp, hop, hle, hce]
              exact makeSlice_at hs r hr hu hz hsz hzl.1 hzl.2 hby hb.1 hb.2.1 hb.2.2 hb2
            · cases ha
          · cases ha
        · cases ha
    · cases hc

theorem aop_alloc {cl : Handler} {ao : AOp} {v : AV} {h' : AH} (hA : aA ao = true) (ha : aop cl T h ao = some (v, h')) : ∃ ob mk, aalloc T ao = some (ob, mk) ∧ v = mk h.nx ∧ h' = h.add ob := by
  cases ao <;> simp only [aA] at hA <;> (try (cases hA; done)) <;> simp only [aop, kMov, kPick, kNew, kBox, kBuild, kBuildSl, kLd1, kLdn, kSt, kNilchk, kArith, kEqs, kEqn, kEqf, kUn, kConvI, kFld, kFldA, kIdxA, kIdxArrA, kIdx, kIdxS, kSl, kSlS, kLen, kLenS, kConvS, kLenc, kApp, kCopy, kMnmx, kExt, kMkf, kMksl, kCall, ← afillT_eq] at ha <;> simp only [aalloc]
  · cases ha; exact ⟨_, _, rfl, rfl, rfl⟩
  · split at ha
    · rename_i hst; cases ha; exact ⟨_, _, by rw [if_pos hst], rfl, rfl⟩
    · cases ha
  · split at ha
    · rename_i cs hf; cases ha; exact ⟨_, _, by rw [hf], rfl, rfl⟩
    · cases ha
  · split at ha
    · rename_i n m hn hm
      split at ha
      · rename_i hb
        split at ha
        · rename_i hb2; cases ha; exact ⟨.cells (repl m.toNat _), fun r => .rsl r 0 n.toNat _, by rw [hn, hm]; simp only [if_pos hb, if_pos hb2], rfl, rfl⟩
        · cases ha
      · cases ha
    · cases ha
  · rename_i k as
    cases k <;> simp only [xA] at hA <;> (try (cases hA; done))
    case mkmap =>
      generalize as.map (·.ev T) = vs at ha ⊢
      unfold kX at ha
      split at ha <;> (try (cases ha; done))
      all_goals (rename_i heq; cases heq)
      · cases ha; exact ⟨_, _, rfl, rfl, rfl⟩
      · cases ha; exact ⟨_, _, rfl, rfl, rfl⟩
    case newT t z =>
      generalize as.map (·.ev T) = vs at ha ⊢
      cases vs with
      | nil => simp only [kX] at ha; cases ha; exact ⟨_, _, rfl, rfl, rfl⟩
      | cons x l => simp [kX] at ha

theorem op_ok (cl : Handler) (hs : Sim nt ds own β T h a w) {o : Oper} {ao : AOp} {v : AV} {h' : AH} (hc : cOp P o.op = some ao) (ha : aop cl T h ao = some (v, h')) (hnc : ∀ f args, ao ≠ .call f args) :
    OpOk P own β h w (execOp a.eval o) v h' := by
  have hp := hs.hp
  by_cases hA : aA ao = true
  · obtain ⟨cs, mk, h1, rfl, rfl⟩ := aop_alloc hA ha
    exact (alloc_op hp (fun x y hxy => cOpd_ok hs hxy) hc h1 h.nx (hp.fresh _ (Nat.le_refl _))).ok
  have hcls := cOp_class hc
  have hAf : aA ao = false := by simpa using hA
  rw [hAf] at hcls
  cases hop : o.op <;> rw [hop] at hc <;> simp only [cOp] at hc <;> try (cases hc; done)
  case alloc => rw [hop] at hcls; cases hcls
  case box => rw [hop] at hcls; cases hcls
  case buildSlice => rw [hop] at hcls; cases hcls
  case makeSlice => rw [hop] at hcls; cases hcls
  case move x =>
    simp only [Option.map_eq_some_iff] at hc; obtain ⟨y, hy, rfl⟩ := hc
    simp only [aop, kMov, kPick, kNew, kBox, kBuild, kBuildSl, kLd1, kLdn, kSt, kNilchk, kArith, kEqs, kEqn, kEqf, kUn, kConvI, kFld, kFldA, kIdxA, kIdxArrA, kIdx, kIdxS, kSl, kSlS, kLen, kLenS, kConvS, kLenc, kApp, kCopy, kMnmx, kExt, kMkf, kMksl, kCall, ← afillT_eq] at ha; cases ha
    simp only [execOp, hop]
    exact .still hp (by simp) (cOpd_ok hs hy)
  case assign x =>
    simp only [Option.map_eq_some_iff] at hc; obtain ⟨y, hy, rfl⟩ := hc
    simp only [aop, kMov, kPick, kNew, kBox, kBuild, kBuildSl, kLd1, kLdn, kSt, kNilchk, kArith, kEqs, kEqn, kEqf, kUn, kConvI, kFld, kFldA, kIdxA, kIdxArrA, kIdx, kIdxS, kSl, kSlS, kLen, kLenS, kConvS, kLenc, kApp, kCopy, kMnmx, kExt, kMkf, kMksl, kCall, ← afillT_eq] at ha; cases ha
    simp only [execOp, hop]
    exact .still hp (by simp) (cOpd_ok hs hy)
  case pick c x y =>
    simp only [bind, Option.bind_eq_some_iff, pure, Option.some.injEq] at hc
    obtain ⟨c', hc', x', hx', y', hy', rfl⟩ := hc
    simp only [aop, kMov, kPick, kNew, kBox, kBuild, kBuildSl, kLd1, kLdn, kSt, kNilchk, kArith, kEqs, kEqn, kEqf, kUn, kConvI, kFld, kFldA, kIdxA, kIdxArrA, kIdx, kIdxS, kSl, kSlS, kLen, kLenS, kConvS, kLenc, kApp, kCopy, kMnmx, kExt, kMkf, kMksl, kCall, ← afillT_eq] at ha
    have h1 := cOpd_ok hs hc'
    cases hcv : c'.ev T <;> rw [hcv] at ha h1 <;> (try simp only at ha) <;> try (cases ha; done)
    rename_i b
    generalize hce : a.eval c = cv at h1
    cases h1
    cases ha
    simp only [execOp, hop]
    refine .still hp (cv := if b then a.eval x else a.eval y) (by simp [hce, asBool]) ?_
    cases b
    · exact cOpd_ok hs hy'
    · exact cOpd_ok hs hx'
  case build t ps =>
    split at hc
    · rename_i fs hu
      split at hc
      · rename_i hfs
        simp only [bind, Option.bind_eq_some_iff, pure, Option.some.injEq] at hc
        obtain ⟨z, hz, aps, hps, rfl⟩ := hc
        simp only [aop, kMov, kPick, kNew, kBox, kBuild, kBuildSl, kLd1, kLdn, kSt, kNilchk, kArith, kEqs, kEqn, kEqf, kUn, kConvI, kFld, kFldA, kIdxA, kIdxArrA, kIdx, kIdxS, kSl, kSlS, kLen, kLenS, kConvS, kLenc, kApp, kCopy, kMnmx, kExt, kMkf, kMksl, kCall, ← afillT_eq] at ha
        cases hf : afillT T z aps with
        | none => simp [hf] at ha
        | some cs =>
          simp only [hf] at ha; cases ha
          obtain ⟨cv, h1, h2⟩ := build_struct_ok (P := P) (h := h) (own := own) (β := β) (w := w) (fun x y hxy => cOpd_ok hs hxy) hu hfs hz hps hf
          simp only [execOp, hop]
          exact .val hp h1 h2
      · cases hc
    · rename_i n e hu
      simp only [bind, Option.bind_eq_some_iff, pure, Option.some.injEq] at hc
      obtain ⟨s, hsz, z, hz, aps, hps, rfl⟩ := hc
      simp only [aop, kMov, kPick, kNew, kBox, kBuild, kBuildSl, kLd1, kLdn, kSt, kNilchk, kArith, kEqs, kEqn, kEqf, kUn, kConvI, kFld, kFldA, kIdxA, kIdxArrA, kIdx, kIdxS, kSl, kSlS, kLen, kLenS, kConvS, kLenc, kApp, kCopy, kMnmx, kExt, kMkf, kMksl, kCall, ← afillT_eq] at ha
      cases hf : afillT T z aps with
      | none => simp [hf] at ha
      | some cs =>
        simp only [hf] at ha; cases ha
        obtain ⟨cv, h1, h2⟩ := build_array_ok (P := P) (h := h) (own := own) (β := β) (w := w) (fun x y hxy => cOpd_ok hs hxy) hu hsz hz hps hf
        simp only [execOp, hop]
        exact .val hp h1 h2
    · cases hc
  case load t x =>
    simp only [bind, Option.bind_eq_some_iff] at hc
    obtain ⟨n, hn, hc⟩ := hc
    cases n with
    | none =>
      simp only [Option.bind_eq_some_iff, pure, Option.some.injEq] at hc
      obtain ⟨y, hy, rfl⟩ := hc
      simp only [aop, kMov, kPick, kNew, kBox, kBuild, kBuildSl, kLd1, kLdn, kSt, kNilchk, kArith, kEqs, kEqn, kEqf, kUn, kConvI, kFld, kFldA, kIdxA, kIdxArrA, kIdx, kIdxS, kSl, kSlS, kLen, kLenS, kConvS, kLenc, kApp, kCopy, kMnmx, kExt, kMkf, kMksl, kCall, ← afillT_eq] at ha
      cases hl : aload1 h (y.ev T) with
      | none => simp [hl] at ha
      | some u =>
        simp only [hl] at ha; cases ha
        obtain ⟨cv, h1, h2⟩ := load1_ok (P := P) hp hn hl (cOpd_ok hs hy)
        simp only [execOp, hop]
        exact .val hp h1 h2
    | some n =>
      simp only [Option.bind_eq_some_iff, pure, Option.some.injEq] at hc
      obtain ⟨y, hy, rfl⟩ := hc
      simp only [aop, kMov, kPick, kNew, kBox, kBuild, kBuildSl, kLd1, kLdn, kSt, kNilchk, kArith, kEqs, kEqn, kEqf, kUn, kConvI, kFld, kFldA, kIdxA, kIdxArrA, kIdx, kIdxS, kSl, kSlS, kLen, kLenS, kConvS, kLenc, kApp, kCopy, kMnmx, kExt, kMkf, kMksl, kCall, ← afillT_eq] at ha
      cases hl : aloadn h n (y.ev T) with
      | none => simp [hl] at ha
      | some u =>
        simp only [hl] at ha; cases ha
        obtain ⟨cv, h1, h2⟩ := loadn_ok (P := P) hp hn hl (cOpd_ok hs hy)
        simp only [execOp, hop]
        exact .val hp h1 h2
  case store t x y =>
    simp only [bind, Option.bind_eq_some_iff, pure, Option.some.injEq] at hc
    obtain ⟨n, hn, x', hx', y', hy', rfl⟩ := hc
    simp only [aop, kMov, kPick, kNew, kBox, kBuild, kBuildSl, kLd1, kLdn, kSt, kNilchk, kArith, kEqs, kEqn, kEqf, kUn, kConvI, kFld, kFldA, kIdxA, kIdxArrA, kIdx, kIdxS, kSl, kSlS, kLen, kLenS, kConvS, kLenc, kApp, kCopy, kMnmx, kExt, kMkf, kMksl, kCall, ← afillT_eq] at ha
    split at ha
    · rename_i hst
      split at ha
      · rename_i hlen
        simp only [Bool.and_eq_true, decide_eq_true_eq] at hlen
        have h1 := cOpd_ok hs hx'
        cases hxv : x'.ev T <;> rw [hxv] at ha h1 <;> (try simp only at ha) <;> try (cases ha; done)
        rename_i id off
        cases hcs : h.cellsAt id with
        | none => simp [hcs] at ha
        | some cs =>
          simp only [hcs] at ha
          cases hsp : splice cs off (y'.ev T).cells with
          | none => simp [hsp] at ha
          | some cs' =>
            simp only [hsp] at ha; cases ha
            obtain ⟨w', h2, h3, h4⟩ := store_ok (P := P) hp hn hst hlen.1 hlen.2 hcs hsp h1 (cOpd_ok hs hy')
            simp only [execOp, hop]
            exact ⟨Go.undef, w', β, .inr ⟨by simp only [Sem.run_bind, h2, Result.andThen_ok, Sem.run_pure], rfl⟩, h3, .undef _, h4⟩
      · cases ha
    · cases ha
  case nilCheck x =>
    simp only [Option.map_eq_some_iff] at hc; obtain ⟨y, hy, rfl⟩ := hc
    simp only [aop, kMov, kPick, kNew, kBox, kBuild, kBuildSl, kLd1, kLdn, kSt, kNilchk, kArith, kEqs, kEqn, kEqf, kUn, kConvI, kFld, kFldA, kIdxA, kIdxArrA, kIdx, kIdxS, kSl, kSlS, kLen, kLenS, kConvS, kLenc, kApp, kCopy, kMnmx, kExt, kMkf, kMksl, kCall, ← afillT_eq] at ha
    have h1 := cOpd_ok hs hy
    generalize hce : a.eval x = cv at h1
    simp only [execOp, hop, hce]
    cases hyv : y.ev T <;> rw [hyv] at ha h1 <;> (try simp only at ha) <;> try (cases ha; done)
    · cases ha
      have h1' := h1
      cases h1; exact .still hp (by simp) h1'
    · cases ha
      have h1' := h1
      cases h1; exact .still hp (by simp) h1'
    · cases ha
      have h1' := h1
      cases h1; exact .still hp (by simp) h1'
    · rename_i fn f1 c1
      cases fn <;> (try simp only at ha) <;> try (cases ha; done)
      cases ha
      have h1' := h1
      cases h1; exact .still hp (by simp) h1'
  case binOp op t x y ty =>
    simp only [bind, Option.bind_eq_some_iff] at hc
    obtain ⟨x', hx', y', hy', hc⟩ := hc
    have hx := cOpd_ok hs hx'
    have hy := cOpd_ok hs hy'
    have plain : ∀ op', ao = .arith op' x' y' → op' = op → OpOk P own β h w (execOp a.eval o) v h' := by
      intro op' he ho
      subst he; subst ho
      simp only [aop, kMov, kPick, kNew, kBox, kBuild, kBuildSl, kLd1, kLdn, kSt, kNilchk, kArith, kEqs, kEqn, kEqf, kUn, kConvI, kFld, kFldA, kIdxA, kIdxArrA, kIdx, kIdxS, kSl, kSlS, kLen, kLenS, kConvS, kLenc, kApp, kCopy, kMnmx, kExt, kMkf, kMksl, kCall, ← afillT_eq] at ha
      cases hq : aarith op' (x'.ev T) (y'.ev T) with
      | none => simp [hq] at ha
      | some u =>
        simp only [hq] at ha; cases ha
        obtain ⟨cv, h1, h2⟩ := arith_ok (P := P) (w := w) (t := t) (ox := x) (oy := y) hq hx hy
        simp only [execOp, hop]
        exact .val hp h1 h2
    have eqs : ∀ neg, (op = if neg then .neq else .eql) → cEq P neg t x' y' = some ao → OpOk P own β h w (execOp a.eval o) v h' := by
      intro neg ho hq
      unfold cEq at hq
      have nn : ∀ (k : NK) (d : TypeDesc), P.underlying t = some d → k.fits d → ao = .eqn k neg x' y' → OpOk P own β h w (execOp a.eval o) v h' := by
        intro k d hu hf he
        subst he
        simp only [aop, kMov, kPick, kNew, kBox, kBuild, kBuildSl, kLd1, kLdn, kSt, kNilchk, kArith, kEqs, kEqn, kEqf, kUn, kConvI, kFld, kFldA, kIdxA, kIdxArrA, kIdx, kIdxS, kSl, kSlS, kLen, kLenS, kConvS, kLenc, kApp, kCopy, kMnmx, kExt, kMkf, kMksl, kCall, ← afillT_eq] at ha
        cases hq2 : aeqn k (x'.ev T) (y'.ev T) with
        | none => simp [hq2] at ha
        | some r =>
          simp only [hq2] at ha; cases ha
          simp only [execOp, hop, ho]
          exact .val hp (eqn_ok hu hf hq2 hx hy) (.bool _)
      split at hq
      · rename_i hu
        cases hq
        simp only [aop, kMov, kPick, kNew, kBox, kBuild, kBuildSl, kLd1, kLdn, kSt, kNilchk, kArith, kEqs, kEqn, kEqf, kUn, kConvI, kFld, kFldA, kIdxA, kIdxArrA, kIdx, kIdxS, kSl, kSlS, kLen, kLenS, kConvS, kLenc, kApp, kCopy, kMnmx, kExt, kMkf, kMksl, kCall, ← afillT_eq] at ha
        cases hxv : x'.ev T <;> rw [hxv] at ha hx <;> (try simp only at ha) <;> try (cases ha; done)
        cases hyv : y'.ev T <;> rw [hyv] at ha hy <;> (try simp only at ha) <;> try (cases ha; done)
        cases ha
        simp only [execOp, hop, ho]
        generalize a.eval x = cx at hx
        generalize a.eval y = cy at hy
        cases hx; cases hy
        exact .val hp (eqs_ok hu) (.bool _)
      · exact plain _ (by cases hq; rfl) (by rw [ho])
      · exact plain _ (by cases hq; rfl) (by rw [ho])
      · rename_i e hu; exact nn .ptr _ hu trivial (by cases hq; rfl)
      · rename_i e hu; exact nn .sl _ hu trivial (by cases hq; rfl)
      · rename_i k e hu; exact nn .mp _ hu trivial (by cases hq; rfl)
      · rename_i q1 q2 q3 hu; exact nn .fn _ hu trivial (by cases hq; rfl)
      · rename_i fs hu
        split at hq
        · cases hq
        · rename_i hgt
          simp only [Option.map_eq_some_iff] at hq
          obtain ⟨ks, hks, rfl⟩ := hq
          simp only [aop, kMov, kPick, kNew, kBox, kBuild, kBuildSl, kLd1, kLdn, kSt, kNilchk, kArith, kEqs, kEqn, kEqf, kUn, kConvI, kFld, kFldA, kIdxA, kIdxArrA, kIdx, kIdxS, kSl, kSlS, kLen, kLenS, kConvS, kLenc, kApp, kCopy, kMnmx, kExt, kMkf, kMksl, kCall, ← afillT_eq] at ha
          cases hxv : x'.ev T <;> rw [hxv] at ha hx <;> (try simp only at ha) <;> try (cases ha; done)
          cases hyv : y'.ev T <;> rw [hyv] at ha hy <;> (try simp only at ha) <;> try (cases ha; done)
          rename_i xs ys
          cases hq2 : eqCells ks xs ys with
          | none => simp [hq2] at ha
          | some r =>
            simp only [hq2] at ha; cases ha
            obtain ⟨vx, hvx, hRx⟩ := VR.agg_inv hx
            obtain ⟨vy, hvy, hRy⟩ := VR.agg_inv hy
            simp only [execOp, hop, ho, hvx, hvy]
            have hsome : ∃ m, aggOf P t = some m ∧ m.isSome := by
              have : (P.info? t).isSome := by
                unfold Program.underlying at hu
                cases hi : P.info? t with
                | none => simp [hi] at hu
                | some i => rfl
              cases hi : P.info? t with
              | none => simp [hi] at this
              | some i => exact ⟨some i.size, by simp [aggOf, hu, szOf, hi], rfl⟩
            have heq := (eqf_ok (P := P) (w := w) (hp := w.heap) (L := LL own β h.H) (β := β) 50 t ks hks 10000 xs ys r (by omega) hq2).2 vx vy hsome hRx hRy
            have hgd := run_eqGuard_agg (P := P) w (if neg then .neq else .eql) t x y vx vy (by simpa using hgt)
            refine .val hp (cv := .bool (if neg then !r else r)) ?_ (.bool _)
            simp only [Sem.run_bind, hgd, Result.andThen_ok]
            cases neg
            · simp only [Bool.false_eq_true, if_false, run_eql_struct, heq, Result.andThen_ok]
            · simp only [if_true, run_neq_struct, heq, Result.andThen_ok]
      · cases hq
    cases op <;> simp only [pure, Option.some.injEq] at hc
    case eql => exact eqs false rfl hc
    case neq => exact eqs true rfl hc
    all_goals exact plain _ hc.symm rfl
  case unOp op t x =>
    simp only [Option.map_eq_some_iff] at hc; obtain ⟨y, hy, rfl⟩ := hc
    simp only [aop, kMov, kPick, kNew, kBox, kBuild, kBuildSl, kLd1, kLdn, kSt, kNilchk, kArith, kEqs, kEqn, kEqf, kUn, kConvI, kFld, kFldA, kIdxA, kIdxArrA, kIdx, kIdxS, kSl, kSlS, kLen, kLenS, kConvS, kLenc, kApp, kCopy, kMnmx, kExt, kMkf, kMksl, kCall, ← afillT_eq] at ha
    have h1 := cOpd_ok hs hy
    generalize hce : a.eval x = cv at h1
    simp only [execOp, hop, hce]
    cases hyv : y.ev T <;> rw [hyv] at ha h1 <;> simp only [aun] at ha <;> try (cases ha; done)
    · cases h1
      cases op <;> (try simp only at ha) <;> try (cases ha; done)
      cases ha
      exact .val hp (by simp [Op.unary]) (.bool _)
    · cases h1
      cases op <;> (try simp only at ha) <;> try (cases ha; done)
      · cases ha
        refine .val hp ?_ (.int _ _)
        simp only [Op.unary, Op.intArith]; rfl
      · cases ha
        refine .val hp ?_ (.int _ _)
        simp only [Op.unary, Op.intBits]; rfl
  case convert src dst x =>
    split at hc
    · rename_i d k hu1 hu2
      simp only [bind, Option.bind_eq_some_iff, pure, Option.some.injEq] at hc
      obtain ⟨y, hy, rfl⟩ := hc
      simp only [aop, kMov, kPick, kNew, kBox, kBuild, kBuildSl, kLd1, kLdn, kSt, kNilchk, kArith, kEqs, kEqn, kEqf, kUn, kConvI, kFld, kFldA, kIdxA, kIdxArrA, kIdx, kIdxS, kSl, kSlS, kLen, kLenS, kConvS, kLenc, kApp, kCopy, kMnmx, kExt, kMkf, kMksl, kCall, ← afillT_eq] at ha
      have h1 := cOpd_ok hs hy
      generalize hce : a.eval x = cv at h1
      simp only [execOp, hop, hce]
      cases hyv : y.ev T <;> rw [hyv] at ha h1 <;> (try simp only at ha) <;> try (cases ha; done)
      · cases ha
        cases h1
        exact .val hp (by simp [convert, run_underlying hu1, run_underlying hu2, Conv.intToInt]) (.int _ _)
      · split at ha
        · rename_i hf
          cases ha
          cases h1
          rename_i bb base hb q1 q2
          refine .val hp (cv := .int k (k.wrap _)) (by simp only [convert, run_underlying hu1, run_underlying hu2, Conv.intToInt, Sem.run_bind, Result.andThen_ok]; rfl) ?_
          rw [fitsK_wrap hf q1 q2]
          exact .sint _ _ _ _ _ _ bb base hb q1 q2
        · cases ha
      · split at ha
        · rename_i hf
          cases ha
          obtain ⟨n, rfl, n0, n1⟩ := rngI_ok h1 rfl
          refine .val hp (cv := .int k (k.wrap n)) (by simp only [convert, run_underlying hu1, run_underlying hu2, Conv.intToInt, Sem.run_bind, Result.andThen_ok]; rfl) ?_
          rw [fitsK_wrap hf n0 n1]
          cases h1
          rename_i b1 m1 b2 m2 b3 q1 q2 e1' e2' e3' q3 q4
          exact .scol _ _ _ _ _ _ _ _ b1 m1 b2 m2 b3 e1' e2' e3' q1 q2 q3 q4
        · cases ha
      · split at ha
        · rename_i hf
          cases ha
          cases h1
          rename_i f g0 q1 q2
          refine .val hp (cv := .int k (k.wrap _)) (by simp only [convert, run_underlying hu1, run_underlying hu2, Conv.intToInt, Sem.run_bind, Result.andThen_ok]; rfl) ?_
          rw [fitsK_wrap hf q1 q2]
          exact .lin _ _ _ _ _ f g0 q1 q2
        · cases ha
    · rename_i hu1 hu2
      simp only [bind, Option.bind_eq_some_iff, pure, Option.some.injEq] at hc
      obtain ⟨y, hy, rfl⟩ := hc
      simp only [aop, kMov, kPick, kNew, kBox, kBuild, kBuildSl, kLd1, kLdn, kSt, kNilchk, kArith, kEqs, kEqn, kEqf, kUn, kConvI, kFld, kFldA, kIdxA, kIdxArrA, kIdx, kIdxS, kSl, kSlS, kLen, kLenS, kConvS, kLenc, kApp, kCopy, kMnmx, kExt, kMkf, kMksl, kCall, ← afillT_eq] at ha
      have h1 := cOpd_ok hs hy
      generalize hce : a.eval x = cv at h1
      simp only [execOp, hop, hce]
      cases hyv : y.ev T <;> rw [hyv] at ha h1 <;> (try simp only at ha) <;> try (cases ha; done)
      cases ha
      cases h1
      exact .val hp (by simp [convert, run_underlying hu1, run_underlying hu2]) (.str _)
    · cases hc
  case fieldAddr s x f =>
    split at hc
    · rename_i fs hu
      simp only [bind, Option.bind_eq_some_iff] at hc
      obtain ⟨g, hg, n, hn, hc⟩ := hc
      split at hc
      · cases hc
      · rename_i hn0
        simp only [Option.bind_eq_some_iff, pure, Option.some.injEq] at hc
        obtain ⟨y, hy, rfl⟩ := hc
        simp only [aop, kMov, kPick, kNew, kBox, kBuild, kBuildSl, kLd1, kLdn, kSt, kNilchk, kArith, kEqs, kEqn, kEqf, kUn, kConvI, kFld, kFldA, kIdxA, kIdxArrA, kIdx, kIdxS, kSl, kSlS, kLen, kLenS, kConvS, kLenc, kApp, kCopy, kMnmx, kExt, kMkf, kMksl, kCall, ← afillT_eq] at ha
        cases hq : afldA g.offset (y.ev T) with
        | none => simp [hq] at ha
        | some u =>
          simp only [hq] at ha; cases ha
          obtain ⟨cv, h1, h2⟩ := fieldA_ok (P := P) (w := w) hu hg hn hn0 (cOpd_ok hs hy) hq
          simp only [execOp, hop]
          exact .val hp h1 h2
    · cases hc
  case field s x f =>
    split at hc
    · rename_i fs hu
      simp only [bind, Option.bind_eq_some_iff, pure, Option.some.injEq] at hc
      obtain ⟨g, hg, n, hn, y, hy, rfl⟩ := hc
      simp only [aop, kMov, kPick, kNew, kBox, kBuild, kBuildSl, kLd1, kLdn, kSt, kNilchk, kArith, kEqs, kEqn, kEqf, kUn, kConvI, kFld, kFldA, kIdxA, kIdxArrA, kIdx, kIdxS, kSl, kSlS, kLen, kLenS, kConvS, kLenc, kApp, kCopy, kMnmx, kExt, kMkf, kMksl, kCall, ← afillT_eq] at ha
      have h1 := cOpd_ok hs hy
      cases hyv : y.ev T <;> rw [hyv] at ha h1 <;> (try simp only at ha) <;> try (cases ha; done)
      rename_i cs
      cases hq : apart n cs g.offset with
      | none => simp [hq] at ha
      | some u =>
        simp only [hq] at ha; cases ha
        obtain ⟨vs, hvs, hR⟩ := VR.agg_inv h1
        obtain ⟨cv, h2, h3⟩ := apart_ok (P := P) (w := w) hn hq hR
        simp only [execOp, hop, hvs]
        refine .val hp (cv := cv) ?_ h3
        simp only [Instr.field, Sem.run_bind, run_underlying hu, Result.andThen_ok, hg, asAgg, Sem.run_pure, h2]
    · cases hc
  case indexAddr t x i =>
    split at hc
    · rename_i e hu
      simp only [bind, Option.bind_eq_some_iff, pure, Option.some.injEq] at hc
      obtain ⟨z, hz, x', hx', i', hi', rfl⟩ := hc
      simp only [aop, kMov, kPick, kNew, kBox, kBuild, kBuildSl, kLd1, kLdn, kSt, kNilchk, kArith, kEqs, kEqn, kEqf, kUn, kConvI, kFld, kFldA, kIdxA, kIdxArrA, kIdx, kIdxS, kSl, kSlS, kLen, kLenS, kConvS, kLenc, kApp, kCopy, kMnmx, kExt, kMkf, kMksl, kCall, ← afillT_eq] at ha
      cases hq : aidxA z (x'.ev T) (i'.ev T) with
      | none => simp [hq] at ha
      | some u =>
        simp only [hq] at ha; cases ha
        obtain ⟨cv, h1, h2⟩ := idxA_ok (P := P) (w := w) hu hz (cOpd_ok hs hx') (cOpd_ok hs hi') hq
        simp only [execOp, hop]
        exact .val hp h1 h2
    · rename_i n e hu
      simp only [bind, Option.bind_eq_some_iff, pure, Option.some.injEq] at hc
      obtain ⟨z, hz, x', hx', i', hi', rfl⟩ := hc
      simp only [aop, kMov, kPick, kNew, kBox, kBuild, kBuildSl, kLd1, kLdn, kSt, kNilchk, kArith, kEqs, kEqn, kEqf, kUn, kConvI, kFld, kFldA, kIdxA, kIdxArrA, kIdx, kIdxS, kSl, kSlS, kLen, kLenS, kConvS, kLenc, kApp, kCopy, kMnmx, kExt, kMkf, kMksl, kCall, ← afillT_eq] at ha
      cases hj : aix n (i'.ev T) with
      | none => simp [hj] at ha
      | some j =>
        simp only [hj] at ha
        cases hq : afldA (j * z) (x'.ev T) with
        | none => simp [hq] at ha
        | some u =>
          simp only [hq] at ha; cases ha
          obtain ⟨cv, h1, h2⟩ := idxArrA_ok (P := P) (w := w) hu hz (cOpd_ok hs hx') (cOpd_ok hs hi') hj hq
          simp only [execOp, hop]
          exact .val hp h1 h2
    · cases hc
  case index t x i =>
    split at hc
    · rename_i n e hu
      simp only [bind, Option.bind_eq_some_iff, pure, Option.some.injEq] at hc
      obtain ⟨z, hz, m, hm, x', hx', i', hi', rfl⟩ := hc
      simp only [aop, kMov, kPick, kNew, kBox, kBuild, kBuildSl, kLd1, kLdn, kSt, kNilchk, kArith, kEqs, kEqn, kEqf, kUn, kConvI, kFld, kFldA, kIdxA, kIdxArrA, kIdx, kIdxS, kSl, kSlS, kLen, kLenS, kConvS, kLenc, kApp, kCopy, kMnmx, kExt, kMkf, kMksl, kCall, ← afillT_eq] at ha
      have h1 := cOpd_ok hs hx'
      cases hj : aix n (i'.ev T) with
      | none => simp [hj] at ha
      | some j =>
        simp only [hj] at ha
        cases hxv : x'.ev T <;> rw [hxv] at ha h1 <;> (try simp only at ha) <;> try (cases ha; done)
        rename_i cs
        cases hq : apart m cs (j * z) with
        | none => simp [hq] at ha
        | some u =>
          simp only [hq] at ha; cases ha
          obtain ⟨cv, h2, h3⟩ := idx_ok (P := P) (w := w) hu hz hm h1 (cOpd_ok hs hi') hj hq
          simp only [execOp, hop]
          exact .val hp h2 h3
    · rename_i hu
      simp only [bind, Option.bind_eq_some_iff, pure, Option.some.injEq] at hc
      obtain ⟨x', hx', i', hi', rfl⟩ := hc
      simp only [aop, kMov, kPick, kNew, kBox, kBuild, kBuildSl, kLd1, kLdn, kSt, kNilchk, kArith, kEqs, kEqn, kEqf, kUn, kConvI, kFld, kFldA, kIdxA, kIdxArrA, kIdx, kIdxS, kSl, kSlS, kLen, kLenS, kConvS, kLenc, kApp, kCopy, kMnmx, kExt, kMkf, kMksl, kCall, ← afillT_eq] at ha
      have h1 := cOpd_ok hs hx'
      cases hxv : x'.ev T <;> rw [hxv] at ha h1 <;> (try simp only at ha) <;> try (cases ha; done)
      rename_i s
      cases hj : aix s.length (i'.ev T) with
      | none => simp [hj] at ha
      | some j =>
        simp only [hj] at ha
        cases hq : s[j]? with
        | none => simp [hq] at ha
        | some c =>
          simp only [hq] at ha; cases ha
          have h2 := idxS_ok (P := P) (w := w) hu (cOpd_ok hs hi') hj hq
          generalize hce : a.eval x = cx at h1
          cases h1
          simp only [execOp, hop, hce]
          exact .val hp h2 (.int _ _)
    · cases hc
  case slice t x lo hi mx =>
    split at hc
    · rename_i e hu
      simp only [bind, Option.bind_eq_some_iff] at hc
      obtain ⟨s, hsz, hc⟩ := hc
      split at hc
      · cases hc
      · simp only [Option.bind_eq_some_iff, pure, Option.some.injEq] at hc
        obtain ⟨x', hx', lo', hlo', hi', hhi', mx', hmx', rfl⟩ := hc
        simp only [aop, kMov, kPick, kNew, kBox, kBuild, kBuildSl, kLd1, kLdn, kSt, kNilchk, kArith, kEqs, kEqn, kEqf, kUn, kConvI, kFld, kFldA, kIdxA, kIdxArrA, kIdx, kIdxS, kSl, kSlS, kLen, kLenS, kConvS, kLenc, kApp, kCopy, kMnmx, kExt, kMkf, kMksl, kCall, ← afillT_eq] at ha
        cases hq : aslice s (x'.ev T) (lo'.map (·.ev T)) (hi'.map (·.ev T)) (mx'.map (·.ev T)) with
        | none => simp [hq] at ha
        | some u =>
          simp only [hq] at ha; cases ha
          obtain ⟨cv, h1, h2⟩ := slice_ok (P := P) (w := w) hu hsz (cOpd_ok hs hx') (cOpdO_ok hs hlo') (cOpdO_ok hs hhi') (cOpdO_ok hs hmx') hq
          simp only [execOp, hop]
          exact .val hp h1 h2
    · rename_i hu
      split at hc
      · cases hc
      · rename_i hmx
        have hmn : mx = none := by cases mx <;> simp_all
        subst hmn
        simp only [bind, Option.bind_eq_some_iff, pure, Option.some.injEq] at hc
        obtain ⟨x', hx', lo', hlo', hi', hhi', rfl⟩ := hc
        simp only [aop, kMov, kPick, kNew, kBox, kBuild, kBuildSl, kLd1, kLdn, kSt, kNilchk, kArith, kEqs, kEqn, kEqf, kUn, kConvI, kFld, kFldA, kIdxA, kIdxArrA, kIdx, kIdxS, kSl, kSlS, kLen, kLenS, kConvS, kLenc, kApp, kCopy, kMnmx, kExt, kMkf, kMksl, kCall, ← afillT_eq] at ha
        have h1 := cOpd_ok hs hx'
        cases hxv : x'.ev T <;> rw [hxv] at ha h1 <;> (try simp only at ha) <;> try (cases ha; done)
        rename_i s
        cases hq : asliceS s (lo'.map (·.ev T)) (hi'.map (·.ev T)) with
        | none => simp [hq] at ha
        | some r =>
          simp only [hq] at ha; cases ha
          have h2 := sliceS_ok (P := P) (w := w) hu (cOpdO_ok hs hlo') (cOpdO_ok hs hhi') hq
          generalize hce : a.eval x = cx at h1
          cases h1
          simp only [execOp, hop, hce]
          exact .val hp h2 (.str _)
    · cases hc
  case extract x i =>
    simp only [bind, Option.bind_eq_some_iff, pure, Option.some.injEq] at hc
    obtain ⟨y, hy, rfl⟩ := hc
    simp only [aop, kMov, kPick, kNew, kBox, kBuild, kBuildSl, kLd1, kLdn, kSt, kNilchk, kArith, kEqs, kEqn, kEqf, kUn, kConvI, kFld, kFldA, kIdxA, kIdxArrA, kIdx, kIdxS, kSl, kSlS, kLen, kLenS, kConvS, kLenc, kApp, kCopy, kMnmx, kExt, kMkf, kMksl, kCall, ← afillT_eq] at ha
    have h1 := cOpd_ok hs hy
    cases hyv : y.ev T <;> rw [hyv] at ha h1 <;> (try simp only at ha) <;> try (cases ha; done)
    rename_i vs
    cases hq : vs[i]? with
    | none => simp [hq] at ha
    | some u =>
      simp only [hq] at ha; cases ha
      obtain ⟨cs, hcs, hR⟩ := VR.tup_inv h1
      obtain ⟨cv, h2, h3⟩ := hR.get hq
      simp only [execOp, hop, hcs]
      refine .val hp (cv := cv) ?_ h3
      have h4 : cs[i]? = some cv := by simpa using h2
      simp [Instr.extract, h4]
  case makeFunc fn first captured =>
    simp only [bind, Option.bind_eq_some_iff, pure, Option.some.injEq] at hc
    obtain ⟨f', hf', c', hc', rfl⟩ := hc
    simp only [aop, kMov, kPick, kNew, kBox, kBuild, kBuildSl, kLd1, kLdn, kSt, kNilchk, kArith, kEqs, kEqn, kEqf, kUn, kConvI, kFld, kFldA, kIdxA, kIdxArrA, kIdx, kIdxS, kSl, kSlS, kLen, kLenS, kConvS, kLenc, kApp, kCopy, kMnmx, kExt, kMkf, kMksl, kCall, ← afillT_eq] at ha; cases ha
    have r1 := cOpds_ok hs hf'
    have r2 := cOpds_ok hs hc'
    simp only [execOp, hop]
    refine .val hp (cv := .func fn (first.map a.eval) (captured.map a.eval)) (by simp [Instr.makeFunc]) ?_
    exact .func fn _ _ _ _ (by simpa using r1.1) (by simpa using r2.1) (fun i c v hc hv => r1.2 i c v hc (by simpa using hv)) (fun i c v hc hv => r2.2 i c v hc (by simpa using hv))
  case call c =>
    obtain ⟨callee, args, tys⟩ := c
    simp only at hc
    split at hc
    · simp only [bind, Option.bind_eq_some_iff, pure, Option.some.injEq] at hc
      obtain ⟨f', hf', as', has', rfl⟩ := hc
      exact absurd rfl (hnc _ _)
    · -- len
      split at hc
      · rename_i x t hargs htys
        have hargs' : args = #[x] := by cases args; simp_all
        have htys' : tys = #[t] := by cases tys; simp_all
        subst hargs'; subst htys'
        split at hc
        · rename_i n e hu
          cases hc
          simp only [aop, kMov, kPick, kNew, kBox, kBuild, kBuildSl, kLd1, kLdn, kSt, kNilchk, kArith, kEqs, kEqn, kEqf, kUn, kConvI, kFld, kFldA, kIdxA, kIdxArrA, kIdx, kIdxS, kSl, kSlS, kLen, kLenS, kConvS, kLenc, kApp, kCopy, kMnmx, kExt, kMkf, kMksl, kCall, ← afillT_eq] at ha; cases ha
          simp only [execOp, hop]
          refine .still hp (cv := .int .i64 n) ?_ (.int _ _)
          simp [resolve, invoke, builtin, Builtin.len_, run_underlying hu, goInt]
        · rename_i hu
          simp only [bind, Option.bind_eq_some_iff, pure, Option.some.injEq] at hc
          obtain ⟨y, hy, rfl⟩ := hc
          simp only [aop, kMov, kPick, kNew, kBox, kBuild, kBuildSl, kLd1, kLdn, kSt, kNilchk, kArith, kEqs, kEqn, kEqf, kUn, kConvI, kFld, kFldA, kIdxA, kIdxArrA, kIdx, kIdxS, kSl, kSlS, kLen, kLenS, kConvS, kLenc, kApp, kCopy, kMnmx, kExt, kMkf, kMksl, kCall, ← afillT_eq] at ha
          have h1 := cOpd_ok hs hy
          generalize hce : a.eval x = cv at h1
          cases hyv : y.ev T <;> rw [hyv] at ha h1 <;> (try simp only at ha) <;> try (cases ha; done)
          cases ha
          cases h1
          simp only [execOp, hop]
          rename_i s
          refine .still hp (cv := .int .i64 s.length) ?_ (.int _ _)
          simp [resolve, invoke, builtin, Builtin.len_, run_underlying hu, goInt, hce, bytes_size]
        · rename_i e hu
          simp only [bind, Option.bind_eq_some_iff, pure, Option.some.injEq] at hc
          obtain ⟨y, hy, rfl⟩ := hc
          simp only [aop, kMov, kPick, kNew, kBox, kBuild, kBuildSl, kLd1, kLdn, kSt, kNilchk, kArith, kEqs, kEqn, kEqf, kUn, kConvI, kFld, kFldA, kIdxA, kIdxArrA, kIdx, kIdxS, kSl, kSlS, kLen, kLenS, kConvS, kLenc, kApp, kCopy, kMnmx, kExt, kMkf, kMksl, kCall, ← afillT_eq] at ha
          have h1 := cOpd_ok hs hy
          cases hq : alen (y.ev T) with
          | none => simp [hq] at ha
          | some n =>
            simp only [hq] at ha; cases ha
            obtain ⟨b, cap, hb, _⟩ := alen_slice h1 hq
            simp only [execOp, hop]
            refine .still hp (cv := .int .i64 n) ?_ (.int _ _)
            simp [resolve, invoke, builtin, Builtin.len_, run_underlying hu, goInt, hb]
        · cases hc
      · cases hc
    · -- append
      split at hc
      · rename_i s x t u hargs htys
        have hargs' : args = #[s, x] := by cases args; simp_all
        have htys' : tys = #[t, u] := by cases tys; simp_all
        subst hargs'; subst htys'
        split at hc
        · cases hc
        · rename_i htu
          simp only [ne_eq, Decidable.not_not] at htu
          subst htu
          split at hc
          · rename_i e hu
            simp only [bind, Option.bind_eq_some_iff] at hc
            obtain ⟨z, hz, sz, hsz, hc⟩ := hc
            split at hc
            · cases hc
            · rename_i hzl
              simp only [Option.bind_eq_some_iff, pure, Option.some.injEq] at hc
              obtain ⟨by_, hby, s', hs', x', hx', rfl⟩ := hc
              simp only [Bool.or_eq_true, decide_eq_true_eq, beq_iff_eq, not_or, ne_eq, Decidable.not_not] at hzl
              simp only [aop, kMov, kPick, kNew, kBox, kBuild, kBuildSl, kLd1, kLdn, kSt, kNilchk, kArith, kEqs, kEqn, kEqf, kUn, kConvI, kFld, kFldA, kIdxA, kIdxArrA, kIdx, kIdxS, kSl, kSlS, kLen, kLenS, kConvS, kLenc, kApp, kCopy, kMnmx, kExt, kMkf, kMksl, kCall, ← afillT_eq] at ha
              have := append_ok (P := P) (ty := o.type) hp hu hz hsz hzl.1 hzl.2 hby (cOpd_ok hs hs') (cOpd_ok hs hx') ha
              simp only [execOp, hop]
              simpa [resolve, invoke, builtin] using this
          · cases hc
      · cases hc
    · -- copy
      split at hc
      · rename_i s x t u hargs htys
        have hargs' : args = #[s, x] := by cases args; simp_all
        have htys' : tys = #[t, u] := by cases tys; simp_all
        subst hargs'; subst htys'
        split at hc
        · cases hc
        · rename_i htu
          simp only [ne_eq, Decidable.not_not] at htu
          subst htu
          split at hc
          · rename_i e hu
            simp only [bind, Option.bind_eq_some_iff] at hc
            obtain ⟨sz, hsz, hc⟩ := hc
            split at hc
            · cases hc
            · simp only [Option.bind_eq_some_iff, pure, Option.some.injEq] at hc
              obtain ⟨s', hs', x', hx', rfl⟩ := hc
              simp only [aop, kMov, kPick, kNew, kBox, kBuild, kBuildSl, kLd1, kLdn, kSt, kNilchk, kArith, kEqs, kEqn, kEqf, kUn, kConvI, kFld, kFldA, kIdxA, kIdxArrA, kIdx, kIdxS, kSl, kSlS, kLen, kLenS, kConvS, kLenc, kApp, kCopy, kMnmx, kExt, kMkf, kMksl, kCall, ← afillT_eq] at ha
              have := copy_ok (P := P) (ty := o.type) hp hu hsz (cOpd_ok hs hs') (cOpd_ok hs hx') ha
              simp only [execOp, hop]
              simpa [resolve, invoke, builtin] using this
          · cases hc
      · cases hc
    · -- min
      split at hc
      · rename_i x y hargs
        have hargs' : args = #[x, y] := by cases args; simp_all
        subst hargs'
        simp only [bind, Option.bind_eq_some_iff, pure, Option.some.injEq] at hc
        obtain ⟨x', hx', y', hy', rfl⟩ := hc
        simp only [aop, kMov, kPick, kNew, kBox, kBuild, kBuildSl, kLd1, kLdn, kSt, kNilchk, kArith, kEqs, kEqn, kEqf, kUn, kConvI, kFld, kFldA, kIdxA, kIdxArrA, kIdx, kIdxS, kSl, kSlS, kLen, kLenS, kConvS, kLenc, kApp, kCopy, kMnmx, kExt, kMkf, kMksl, kCall, ← afillT_eq] at ha
        have h1 := cOpd_ok hs hx'
        have h2 := cOpd_ok hs hy'
        split at ha
        · rename_i k m k' n hm hn
          cases ha
          rw [hm] at h1
          rw [hn] at h2
          generalize hce1 : a.eval x = cx at h1
          generalize hce2 : a.eval y = cy at h2
          cases h1; cases h2
          simp only [execOp, hop]
          refine .still hp (cv := .int k (if n < m then n else m)) ?_ (.int _ _)
          simp [resolve, invoke, builtin, Builtin.min_, Builtin.min2, hce1, hce2]
        · split at ha
          · rename_i v' hv'
            cases ha
            obtain ⟨k, m, n, hce1, hce2, hvr⟩ := smm_ok hv' h1 h2
            simp only [execOp, hop]
            refine .still hp ?_ hvr
            simp [resolve, invoke, builtin, Builtin.min_, Builtin.min2, hce1, hce2]
          · cases ha
      · cases hc
    · -- max
      split at hc
      · rename_i x y hargs
        have hargs' : args = #[x, y] := by cases args; simp_all
        subst hargs'
        simp only [bind, Option.bind_eq_some_iff, pure, Option.some.injEq] at hc
        obtain ⟨x', hx', y', hy', rfl⟩ := hc
        simp only [aop, kMov, kPick, kNew, kBox, kBuild, kBuildSl, kLd1, kLdn, kSt, kNilchk, kArith, kEqs, kEqn, kEqf, kUn, kConvI, kFld, kFldA, kIdxA, kIdxArrA, kIdx, kIdxS, kSl, kSlS, kLen, kLenS, kConvS, kLenc, kApp, kCopy, kMnmx, kExt, kMkf, kMksl, kCall, ← afillT_eq] at ha
        have h1 := cOpd_ok hs hx'
        have h2 := cOpd_ok hs hy'
        split at ha
        · rename_i k m k' n hm hn
          cases ha
          rw [hm] at h1
          rw [hn] at h2
          generalize hce1 : a.eval x = cx at h1
          generalize hce2 : a.eval y = cy at h2
          cases h1; cases h2
          simp only [execOp, hop]
          refine .still hp (cv := .int k (if m < n then n else m)) ?_ (.int _ _)
          simp [resolve, invoke, builtin, Builtin.max_, Builtin.max2, hce1, hce2]
        · split at ha
          · rename_i v' hv'
            cases ha
            obtain ⟨k, m, n, hce1, hce2, hvr⟩ := smm_ok hv' h1 h2
            simp only [execOp, hop]
            refine .still hp ?_ hvr
            simp [resolve, invoke, builtin, Builtin.max_, Builtin.max2, hce1, hce2]
          · cases ha
      · cases hc
    · cases hc
end
end Go.Eng
end
