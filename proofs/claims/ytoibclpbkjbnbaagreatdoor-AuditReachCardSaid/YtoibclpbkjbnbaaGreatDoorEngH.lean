/- Each abstract operation stands for the model's operation: arithmetic, comparisons, parts, indices, slices. Each abstract operation stands for the model's operation: parts, indices, slices, append, copy, make. Each abstract operation stands for the model's operation: append, copy, make. -/
import Derived.Test.YtoibclpbkjbnbaaGreatDoorEngE
set_option linter.unusedSimpArgs false
set_option linter.unusedVariables false
set_option linter.unnecessarySimpa false
noncomputable section
namespace Go.Eng
theorem bytes_toList (l : List UInt8) : (⟨l.toArray⟩ : ByteArray).toList = l := by rw [ByteArray.toList_eq]
theorem bytes_size (l : List UInt8) : (⟨l.toArray⟩ : ByteArray).size = l.length := by simp [← ByteArray.size_data]
theorem bytes_append (a b : List UInt8) : (⟨a.toArray⟩ : ByteArray) ++ ⟨b.toArray⟩ = ⟨(a ++ b).toArray⟩ := by
  apply ByteArray.ext; rw [ByteArray.data_append]; simp
theorem bytes_extract (l : List UInt8) (a b : Nat) : (⟨l.toArray⟩ : ByteArray).extract a b = ⟨((l.drop a).take (b - a)).toArray⟩ := by
  apply ByteArray.ext; rw [ByteArray.data_extract]; simp [List.extract_eq_take_drop]

section
variable {P : Program} {hp : Array Obj} {L : Nat → Prop} {β : Bl} {w : World}
/-- what eqGuard lets by -/
theorem run_eqGuard_plain (op : BinOp) (t : TypeId) (x y : Operand) (a b : Value) (ha : ∀ cs, a ≠ .agg cs) (hn : a ≠ .nilIface) : (eqGuard op t x y a b).run P w = .ok () w := by
  unfold eqGuard
  cases op <;> cases a <;> first | (exact absurd rfl hn) | (exact absurd rfl (ha _)) | simp

theorem arith_ok {op : BinOp} {t : TypeId} {ox oy : Operand} {x y v : AV} {cx cy : Value} (h : aarith op x y = some v) (hx : VR hp L β x cx) (hy : VR hp L β y cy) :
    ∃ cv, (do eqGuard op t ox oy cx cy; binOp op t cx cy : Sem Value).run P w = .ok cv w ∧ VR hp L β v cv := by
  cases hx <;> try (simp [aarith] at h; done)
  case int k a =>
    cases hy <;> try (simp [aarith] at h; done)
    case int k' b =>
      simp only [Sem.run_bind, run_eqGuard_plain op t ox oy (.int k a) (.int k' b) (fun _ h => by cases h) (fun h => by cases h), Result.andThen_ok]
      by_cases hk : k = k'
      · subst hk
        cases op <;> simp only [aarith, isShift, ishift, iarith, if_true, Bool.false_eq_true, if_false] at h
        case quo =>
          split at h
          · cases h
          · cases h; exact ⟨_, by simp [binOp, Op.intDiv, *], .int _ _⟩
        case rem =>
          split at h
          · cases h
          · cases h; exact ⟨_, by simp [binOp, Op.intDiv, *], .int _ _⟩
        case shl =>
          split at h
          · cases h
          · cases h; exact ⟨_, by simp [binOp, Op.shift, *], .int _ _⟩
        case shr =>
          split at h
          · cases h
          · cases h; exact ⟨_, by simp [binOp, Op.shift, *], .int _ _⟩
        all_goals cases h
        all_goals first
          | (refine ⟨_, ?_, .int _ _⟩; simp only [binOp, ne_eq, not_true_eq_false, if_false]; rfl)
          | (refine ⟨_, ?_, .bool _⟩; simp only [binOp, ne_eq, not_true_eq_false, if_false]; rfl)
      · cases op <;> simp only [aarith, isShift, ishift, hk, if_true, Bool.false_eq_true, if_false] at h
        case shl =>
          split at h
          · cases h
          · cases h; exact ⟨_, by simp [binOp, Op.shift, *], .int _ _⟩
        case shr =>
          split at h
          · cases h
          · cases h; exact ⟨_, by simp [binOp, Op.shift, *], .int _ _⟩
        all_goals cases h
  case str a =>
    cases hy <;> try (simp [aarith] at h; done)
    case str b =>
      simp only [Sem.run_bind, run_eqGuard_plain op t ox oy (.string ⟨a.toArray⟩) (.string ⟨b.toArray⟩) (fun _ h => by cases h) (fun h => by cases h), Result.andThen_ok]
      cases op <;> simp only [aarith, sarith] at h
      case add =>
        split at h
        · rename_i hl
          cases h
          refine ⟨.string ⟨(a ++ b).toArray⟩, ?_, .str _⟩
          have hlt : ¬ ((((⟨a.toArray⟩ : ByteArray).size + (⟨b.toArray⟩ : ByteArray).size : Nat) : Int) > IntKind.i64.max) := by
            rw [bytes_size, bytes_size]
            have : IntKind.i64.max = 9223372036854775807 := by decide
            omega
          simp only [binOp, Op.stringOp, if_neg hlt, bytes_append, Sem.run_pure]
        · cases h
      all_goals cases h
      all_goals exact ⟨_, by simp only [binOp, Op.stringOp, bytes_toList, Sem.run_pure], .bool _⟩

theorem eqs_ok {neg : Bool} {t : TypeId} {ox oy : Operand} {a b : Bool} (hu : P.underlying t = some .bool) :
    (do eqGuard (if neg then .neq else .eql) t ox oy (.bool a) (.bool b); binOp (if neg then .neq else .eql) t (.bool a) (.bool b) : Sem Value).run P w = .ok (.bool (if neg then !(a == b) else a == b)) w := by
  simp only [Sem.run_bind, run_eqGuard_plain _ t ox oy (.bool a) (.bool b) (fun _ h => by cases h) (fun h => by cases h), Result.andThen_ok]
  cases neg <;> simp [binOp, run_equal_bool w t a b hu]

def NK.fits (k : NK) (d : TypeDesc) : Prop :=
  match k, d with
  | .ptr, .pointer _ | .sl, .slice _ | .mp, .map _ _ | .fn, .func _ _ _ => True
  | _, _ => False

theorem eqn_equal {k : NK} {t : TypeId} {d : TypeDesc} (hu : P.underlying t = some d) (hf : k.fits d) {x y : AV} {r : Bool} {cx cy : Value} (h : aeqn k x y = some r) (hx : VR hp L β x cx) (hy : VR hp L β y cy) (n : Nat) :
    (Op.equalIn (n + 1) t cx cy).run P w = .ok r w ∧ (∀ cs, cx ≠ .agg cs) ∧ cx ≠ .nilIface ∧ (binOp .eql t cx cy = do pure (.bool (← Op.equal t cx cy))) ∧ (binOp .neq t cx cy = do pure (.bool (!(← Op.equal t cx cy)))) := by
  unfold aeqn at h
  split at h <;> cases h <;> cases hx <;> cases hy <;> cases d <;> simp only [NK.fits] at hf
  all_goals refine ⟨by simp [Op.equalIn, run_underlying hu], by simp, by simp, ?_, ?_⟩
  all_goals simp only [binOp]

theorem eqn_ok {k : NK} {neg : Bool} {t : TypeId} {d : TypeDesc} {ox oy : Operand} (hu : P.underlying t = some d) (hf : k.fits d) {x y : AV} {r : Bool} {cx cy : Value} (h : aeqn k x y = some r) (hx : VR hp L β x cx) (hy : VR hp L β y cy) :
    (do eqGuard (if neg then .neq else .eql) t ox oy cx cy; binOp (if neg then .neq else .eql) t cx cy : Sem Value).run P w = .ok (.bool (if neg then !r else r)) w := by
  obtain ⟨h1, h2, h3, h4, h5⟩ := eqn_equal (w := w) hu hf h hx hy 9999
  have h6 : (Op.equal t cx cy).run P w = .ok r w := h1
  simp only [Sem.run_bind, run_eqGuard_plain _ t ox oy cx cy h2 h3, Result.andThen_ok]
  cases neg
  · simp only [if_false, Bool.false_eq_true, h4]; simp [h6]
  · simp only [if_true, h5]; simp [h6]

/-! ### equal cells -/
theorem eqCell_ok {k : SK} {x y : AV} {r : Bool} {cx cy : Value} {t : TypeId} (hu : P.underlying t = some (match k with | .bool => .bool | .int k => .int k | .str => .string)) (h : eqCell k x y = some r) (hx : VR hp L β x cx) (hy : VR hp L β y cy) (n : Nat) :
    (Op.equalIn (n + 1) t cx cy).run P w = .ok r w := by
  cases k with
  | bool =>
    cases hx <;> try (simp [eqCell] at h; done)
    cases hy <;> try (simp [eqCell] at h; done)
    simp [eqCell] at h; subst h
    exact run_equalIn_bool w n t _ _ hu
  | int k =>
    cases hx <;> try (simp [eqCell] at h; done)
    cases hy <;> try (simp [eqCell] at h; done)
    simp only [eqCell] at h
    split at h
    · rename_i hk
      obtain ⟨rfl, rfl⟩ := hk
      cases h
      exact run_equalIn_int w n t _ _ _ _ hu
    · cases h
  | str =>
    cases hx <;> try (simp [eqCell] at h; done)
    cases hy <;> try (simp [eqCell] at h; done)
    simp [eqCell] at h; subst h
    rw [run_equalIn_string w n t _ _ hu, bytes_toList, bytes_toList]

theorem eqCells_append : ∀ {k1 k2 : List SK} {xs ys : List AV} {r : Bool}, eqCells (k1 ++ k2) xs ys = some r →
    ∃ r1 r2, eqCells k1 (xs.take k1.length) (ys.take k1.length) = some r1 ∧ eqCells k2 (xs.drop k1.length) (ys.drop k1.length) = some r2 ∧ r = (r1 && r2)
  | [], k2, xs, ys, r, h => ⟨true, r, by simp [eqCells], by simpa using h, by simp⟩
  | k :: k1, k2, xs, ys, r, h => by
    cases xs with
    | nil => simp [eqCells] at h
    | cons x xs =>
      cases ys with
      | nil => simp [eqCells] at h
      | cons y ys =>
        simp only [List.cons_append, eqCells] at h
        split at h
        · rename_i a b h1 h2
          cases h
          obtain ⟨r1, r2, h3, h4, rfl⟩ := eqCells_append h2
          exact ⟨a && r1, r2, by simp [eqCells, h1, h3], by simpa using h4, by simp [Bool.and_assoc]⟩
        · cases h
theorem eqCells_length : ∀ {ks : List SK} {xs ys : List AV} {r : Bool}, eqCells ks xs ys = some r → xs.length = ks.length ∧ ys.length = ks.length
  | [], [], [], r, h => by simp
  | [], _ :: _, _, r, h => by simp [eqCells] at h
  | [], [], _ :: _, r, h => by simp [eqCells] at h
  | k :: ks, [], _, r, h => by simp [eqCells] at h
  | k :: ks, _ :: _, [], r, h => by simp [eqCells] at h
  | k :: ks, x :: xs, y :: ys, r, h => by
    simp only [eqCells] at h
    split at h
    · rename_i a b h1 h2
      have := eqCells_length h2
      simp [this.1, this.2]
    · cases h

/-- A part of an aggregate. -/
theorem part_agg {t : TypeId} {n off : Nat} {vs : Array Value} {as : List AV} (hq : aggOf P t = some (some n)) (hR : RL hp L β as vs.toList) : ∃ us : Array Value, (part t vs off).run P w = .ok (.agg us) w ∧ RL hp L β ((as.drop off).take n) us.toList := by
  obtain ⟨q1, q2⟩ := aggOf_some (w := w) hq
  refine ⟨vs.extract off (off + n), ?_, ?_⟩
  · simp only [part, Sem.run_bind, q1, Result.andThen_ok, if_true, q2, Sem.run_pure]
  · have := (hR.drop off).take n
    simpa [List.extract_eq_take_drop] using this
theorem part_one {t : TypeId} {off : Nat} {vs : Array Value} {as : List AV} {c : AV} (hq : aggOf P t = some none) (hR : RL hp L β as vs.toList) (hc : as[off]? = some c) : ∃ v, (part t vs off).run P w = .ok v w ∧ VR hp L β c v := by
  obtain ⟨v, h1, h2⟩ := hR.get hc
  refine ⟨v, ?_, h2⟩
  have h3 : vs[off]? = some v := by simpa using h1
  simp [part, Sem.run_bind, aggOf_none hq, h3]

/-- '==' of flat structs: cell by cell. -/
theorem eqf_ok : ∀ (d : Nat) (t : TypeId) (ks : List SK), flatK P d t = some ks → ∀ (n : Nat) (xs ys : List AV) (r : Bool), d ≤ n → eqCells ks xs ys = some r →
    (∀ k x y cx cy, ks = [k] → xs = [x] → ys = [y] → VR hp L β x cx → VR hp L β y cy → aggOf P t = some none → (Op.equalIn n t cx cy).run P w = .ok r w) ∧
    (∀ (vx vy : Array Value), (∃ m, aggOf P t = some m ∧ m.isSome) → RL hp L β xs vx.toList → RL hp L β ys vy.toList → (Op.equalIn n t (.agg vx) (.agg vy)).run P w = .ok r w) := by
  intro d
  induction d with
  | zero => intro t ks h; simp [flatK] at h
  | succ d ih =>
    intro t ks hk n xs ys r hn he
    obtain ⟨n, rfl⟩ : ∃ m, n = m + 1 := ⟨n - 1, by omega⟩
    unfold flatK at hk
    split at hk
    case h_1 hu =>
      cases hk
      refine ⟨fun k x y cx cy h1 h2 h3 hx hy _ => ?_, fun vx vy ⟨m, hm, hs⟩ => by simp [aggOf, hu] at hm; subst hm; cases hs⟩
      cases h1; subst h2; subst h3
      simp only [eqCells] at he
      split at he
      · rename_i a b h4 h5; cases h5; cases he; rw [Bool.and_true]; exact eqCell_ok (k := .bool) hu h4 hx hy n
      · cases he
    case h_2 k0 hu =>
      cases hk
      refine ⟨fun k x y cx cy h1 h2 h3 hx hy _ => ?_, fun vx vy ⟨m, hm, hs⟩ => by simp [aggOf, hu] at hm; subst hm; cases hs⟩
      cases h1; subst h2; subst h3
      simp only [eqCells] at he
      split at he
      · rename_i a b h4 h5; cases h5; cases he; rw [Bool.and_true]; exact eqCell_ok (k := .int k0) hu h4 hx hy n
      · cases he
    case h_3 hu =>
      cases hk
      refine ⟨fun k x y cx cy h1 h2 h3 hx hy _ => ?_, fun vx vy ⟨m, hm, hs⟩ => by simp [aggOf, hu] at hm; subst hm; cases hs⟩
      cases h1; subst h2; subst h3
      simp only [eqCells] at he
      split at he
      · rename_i a b h4 h5; cases h5; cases he; rw [Bool.and_true]; exact eqCell_ok (k := .str) hu h4 hx hy n
      · cases he
    case h_4 fs hu =>
      split at hk
      · cases hk
      · rename_i hsi
        refine ⟨fun k x y cx cy h1 h2 h3 hx hy ha => ?_, fun vx vy _ hx hy => ?_⟩
        · simp [aggOf, hu] at ha
        · have hfo : P.fieldsOf t = fs := by simp [Program.fieldsOf, hu]
          rw [run_equalIn_struct w n t vx vy (by rw [hfo]; exact hu) (by simpa using hsi), hfo]
          -- along the fields
          have key : ∀ (l : List Field) (off : Nat) (ks : List SK) (r : Bool), flatFs P (flatK P d) off l = some ks → eqCells ks (xs.drop off) (ys.drop off) = some r → (Op.eqFields n vx vy l).run P w = .ok r w := by
            intro l
            induction l with
            | nil =>
              intro off ks r h1 h2
              simp [flatFs] at h1; subst h1
              have hl := eqCells_length h2
              cases hxs : xs.drop off with
              | cons a b => rw [hxs] at hl; simp at hl
              | nil =>
                cases hys : ys.drop off with
                | cons a b => rw [hys] at hl; simp at hl
                | nil => rw [hxs, hys] at h2; simp [eqCells] at h2; subst h2; simp [Op.eqFields]
            | cons f l ihl =>
              intro off ks r h1 h2
              simp only [flatFs] at h1
              split at h1
              · cases h1
              · rename_i hnm
                cases hf : flatK P d f.type with
                | none => simp [hf] at h1
                | some k1 =>
                  simp only [hf] at h1
                  split at h1
                  · rename_i hsz
                    cases hrest : flatFs P (flatK P d) (off + k1.length) l with
                    | none => simp [hrest] at h1
                    | some k2 =>
                      simp only [hrest] at h1
                      cases h1
                      obtain ⟨r1, r2, h3, h4, rfl⟩ := eqCells_append h2
                      rw [List.drop_drop, List.drop_drop] at h4
                      have h5 := ihl _ _ _ hrest h4
                      have hoff : f.offset = off := by
                        by_cases h6 : f.offset = off
                        · exact h6
                        · exact absurd (Or.inr h6) hnm
                      have hname : f.name ≠ "_" := fun h6 => hnm (Or.inl h6)
                      obtain ⟨h6, h7⟩ := ih f.type k1 hf n ((xs.drop off).take k1.length) ((ys.drop off).take k1.length) r1 (by omega) h3
                      have hstep : ∃ a b, (part f.type vx f.offset).run P w = .ok a w ∧ (part f.type vy f.offset).run P w = .ok b w ∧ (Op.equalIn n f.type a b).run P w = .ok r1 w := by
                        cases ha : aggOf P f.type with
                        | none =>
                          exfalso
                          cases d with
                          | zero => simp [flatK] at hf
                          | succ d =>
                            unfold flatK at hf
                            unfold aggOf at ha
                            cases hu2 : P.underlying f.type with
                            | none => simp [hu2] at hf
                            | some dd => cases dd <;> simp [hu2] at hf ha <;> rw [hsz] at ha <;> cases ha
                        | some m =>
                          cases m with
                          | none =>
                            have hlen1 : ∃ k, k1 = [k] := by
                              cases d with
                              | zero => simp [flatK] at hf
                              | succ d =>
                                unfold flatK at hf
                                unfold aggOf at ha
                                cases hu2 : P.underlying f.type with
                                | none => simp [hu2] at hf
                                | some dd =>
                                  cases dd <;> simp [hu2] at hf ha
                                  · exact ⟨_, hf.symm⟩
                                  · exact ⟨_, hf.symm⟩
                                  · exact ⟨_, hf.symm⟩
                            obtain ⟨k, rfl⟩ := hlen1
                            have hl3 := eqCells_length h3
                            match hxa : (xs.drop off).take [k].length, hya : (ys.drop off).take [k].length, hl3 with
                            | [a], [b], _ =>
                              have hga : xs[off]? = some a := by
                                have : ((xs.drop off).take [k].length)[0]? = some a := by rw [hxa]; rfl
                                simpa [List.getElem?_take, List.getElem?_drop] using this
                              have hgb : ys[off]? = some b := by
                                have : ((ys.drop off).take [k].length)[0]? = some b := by rw [hya]; rfl
                                simpa [List.getElem?_take, List.getElem?_drop] using this
                              obtain ⟨va, p1, q1⟩ := part_one (P := P) (w := w) ha hx hga
                              obtain ⟨vb, p2, q2⟩ := part_one (P := P) (w := w) ha hy hgb
                              rw [hoff]
                              exact ⟨va, vb, p1, p2, h6 k a b va vb rfl hxa hya q1 q2 ha⟩
                          | some m =>
                            have hm : m = k1.length := by
                              unfold aggOf at ha
                              cases hu2 : P.underlying f.type with
                              | none => simp [hu2] at ha
                              | some dd =>
                                cases dd <;> simp [hu2] at ha
                                all_goals (rw [hsz] at ha; cases ha; rfl)
                            subst hm
                            obtain ⟨ua, p1, q1⟩ := part_agg (P := P) (w := w) (off := off) ha hx
                            obtain ⟨ub, p2, q2⟩ := part_agg (P := P) (w := w) (off := off) ha hy
                            rw [hoff]
                            exact ⟨_, _, p1, p2, h7 ua ub ⟨_, ha, rfl⟩ q1 q2⟩
                      obtain ⟨a, b, p1, p2, p3⟩ := hstep
                      simp only [Op.eqFields, hname, ne_eq, not_false_eq_true, if_true, Sem.run_bind, p1, p2, p3, Result.andThen_ok]
                      cases r1
                      · simp
                      · simpa using h5
                  · cases h1
          exact key fs.toList 0 ks r hk (by simpa using he)
    case h_5 => cases hk
end
end Go.Eng
end
noncomputable section
namespace Go.Eng
section
variable {P : Program} {hp : Array Obj} {L : Nat → Prop} {β : Bl} {w : World}
theorem apart_ok {t : TypeId} {n : Option Nat} {off : Nat} {as : List AV} {vs : Array Value} {v : AV} (hq : aggOf P t = some n) (h : apart n as off = some v) (hR : RL hp L β as vs.toList) : ∃ cv, (part t vs off).run P w = .ok cv w ∧ VR hp L β v cv := by
  cases n with
  | none => exact part_one hq hR h
  | some n =>
    simp only [apart] at h
    cases hc : cut as off n with
    | none => simp [hc] at h
    | some bs =>
      simp [hc] at h; subst h
      obtain ⟨_, rfl⟩ := cut_some hc
      obtain ⟨us, h1, h2⟩ := part_agg (P := P) (w := w) (off := off) hq hR
      exact ⟨_, h1, RL.agg h2⟩
theorem VR.agg_inv {as : List AV} {cv : Value} (h : VR hp L β (.agg as) cv) : ∃ vs : Array Value, cv = .agg vs ∧ RL hp L β as vs.toList := by
  cases h
  rename_i vs hl h
  exact ⟨vs, rfl, by simpa using hl, fun i c v hc hv => h i c v hc (by simpa using hv)⟩
theorem VR.tup_inv {as : List AV} {cv : Value} (h : VR hp L β (.tup as) cv) : ∃ vs : Array Value, cv = .tuple vs ∧ RL hp L β as vs.toList := by
  cases h
  rename_i vs hl h
  exact ⟨vs, rfl, by simpa using hl, fun i c v hc hv => h i c v hc (by simpa using hv)⟩

theorem aix_some {n j : Nat} {v : AV} (h : aix n v = some j) : ∃ k i, v = .int k i ∧ 0 ≤ i ∧ i < n ∧ j = i.toNat := by
  unfold aix at h
  cases v <;> simp only [aidx] at h <;> try cases h
  rename_i k i
  split at h
  · rename_i hi; cases h; exact ⟨k, i, rfl, hi.1, hi.2, rfl⟩
  · cases h

/-- an address moved on within a variable -/
theorem afldA_ok {off : Nat} {x v : AV} {cx : Value} (hx : VR hp L β x cx) (h : afldA off x = some v) : ∃ b o, cx = .pointer (some ⟨b, o, none⟩) ∧ VR hp L β v (.pointer (some ⟨b, o + off, none⟩)) := by
  cases hx <;> simp only [afldA] at h <;> try cases h
  case gptr.refl g o => exact ⟨g, o, rfl, .gptr g (o + off)⟩
  case ptr id o b base hb => exact ⟨b, base + o, rfl, by rw [Nat.add_assoc]; exact .ptr _ _ _ _ hb⟩
  case pptr cs b o cur e fz hb hL hs hr =>
    split at h
    · cases h
      exact ⟨b, o, rfl, .pptr _ b (o + off) cur e fz hb hL (by simp; omega) fun i c v hc hv => hr (off + i) c v (by rwa [List.getElem?_drop] at hc) (by rw [← hv]; congr 1; omega)⟩
    · cases h

theorem fieldA_ok {s : TypeId} {fs : Array Field} {f n : Nat} {g : Field} {x v : AV} {cx : Value} (hu : P.underlying s = some (.struct fs)) (hg : fs[f]? = some g) (hsz : szOf P g.type = some n) (hn : n ≠ 0) (hx : VR hp L β x cx) (h : afldA g.offset x = some v) :
    ∃ cv, (Instr.fieldAt s cx f).run P w = .ok cv w ∧ VR hp L β v cv := by
  obtain ⟨b, o, rfl, hv⟩ := afldA_ok hx h
  refine ⟨_, ?_, hv⟩
  simp [Instr.fieldAt, Sem.run_bind, run_underlying hu, hg, Instr.sureAddr, fieldPlace, szOf_some hsz, hn, add_lit']

theorem idxArrA_ok {t e : TypeId} {n z j : Nat} {x i v : AV} {cx ci : Value} (hu : P.underlying t = some (.array n e)) (hsz : szOf P e = some z) (hx : VR hp L β x cx) (hi : VR hp L β i ci) (hj : aix n i = some j) (h : afldA (j * z) x = some v) :
    ∃ cv, (Instr.indexAt t cx ci).run P w = .ok cv w ∧ VR hp L β v cv := by
  obtain ⟨k, m, rfl, h1, h2, rfl⟩ := aix_some hj
  cases hi
  obtain ⟨b, o, rfl, hv⟩ := afldA_ok hx h
  refine ⟨_, ?_, hv⟩
  simp [Instr.indexAt, asIntOf, Instr.sureAddr, Sem.run_bind, run_underlying hu, szOf_some hsz, add_lit', h1, h2]

theorem idxA_ok {t e : TypeId} {z : Nat} {x i v : AV} {cx ci : Value} (hu : P.underlying t = some (.slice e)) (hsz : szOf P e = some z) (hx : VR hp L β x cx) (hi : VR hp L β i ci) (h : aidxA z x i = some v) :
    ∃ cv, (Instr.indexAt t cx ci).run P w = .ok cv w ∧ VR hp L β v cv := by
  cases hx <;> simp only [aidxA] at h <;> try cases h
  case psl0 a cap =>
    split at h
    · rename_i hq; obtain ⟨_, _, _, h1, h2, _⟩ := aix_some hq; simp at h2; omega
    · cases h
  case psl xs z' b o cap cur e' fz hb hL hs hz hc hr =>
    cases hj : aix xs.length i with
    | none => simp [hj] at h
    | some j =>
      obtain ⟨k, n, rfl, h1, h2, rfl⟩ := aix_some hj
      simp only [hj] at h
      cases hi
      cases hq : xs[n.toNat]? with
      | none => simp [hq] at h
      | some c =>
        simp only [hq] at h
        split at h
        · rename_i hcl
          cases h
          have hz' : z' = z := by rw [← hz _ _ hq]; exact hcl
          subst hz'
          have hlt : n.toNat < xs.length := (List.getElem?_eq_some_iff.1 hq).1
          refine ⟨.pointer (some ⟨b, o + n.toNat * z', none⟩), ?_, ?_⟩
          · simp [Instr.indexAt, asIntOf, Sem.run_bind, run_underlying hu, szOf_some hsz, add_lit', h1, h2]
          · have hmul : (n.toNat + 1) * z' ≤ xs.length * z' := Nat.mul_le_mul_right _ hlt
            rw [Nat.add_mul, Nat.one_mul] at hmul
            exact .pptr c b _ cur e' fz hb hL (by omega) fun j c' v hc' hv => hr n.toNat c j c' v hq hc' hv
        · cases h
  case rsl id off len z' b base cap cur e' hβ hb hc hm hs =>
    split at h
    · rename_i hz; subst hz
      cases hj : aix len i with
      | none => simp [hj] at h
      | some j =>
        obtain ⟨k, n, rfl, h1, h2, rfl⟩ := aix_some hj
        simp only [hj] at h
        cases h
        cases hi
        refine ⟨.pointer (some ⟨b, base + (off + n.toNat * z'), none⟩), ?_, .ptr _ _ _ _ hβ⟩
        simp [Instr.indexAt, asIntOf, Sem.run_bind, run_underlying hu, szOf_some hsz, add_lit', h1, h2, Nat.add_assoc]
    · cases h
  case rsl0 id off z' b base o hβ =>
    split at h
    · split at h
      · rename_i hq; obtain ⟨_, _, _, h1, h2, _⟩ := aix_some hq; omega
      · cases h
    · cases h

theorem idx_ok {t e : TypeId} {len z j : Nat} {n : Option Nat} {as : List AV} {i v : AV} {cx ci : Value} (hu : P.underlying t = some (.array len e)) (hsz : szOf P e = some z) (hq : aggOf P e = some n) (hx : VR hp L β (.agg as) cx) (hi : VR hp L β i ci)
    (hj : aix len i = some j) (h : apart n as (j * z) = some v) : ∃ cv, (Instr.index t cx ci).run P w = .ok cv w ∧ VR hp L β v cv := by
  obtain ⟨k, m, rfl, h1, h2, rfl⟩ := aix_some hj
  cases hi
  obtain ⟨vs, rfl, hR⟩ := VR.agg_inv hx
  obtain ⟨cv, h3, h4⟩ := apart_ok (P := P) (w := w) hq h hR
  refine ⟨cv, ?_, h4⟩
  simp [Instr.index, asIntOf, Sem.run_bind, run_underlying hu, szOf_some hsz, h1, h2, h3]

theorem idxS_ok {t : TypeId} {s : List UInt8} {j : Nat} {c : UInt8} {i : AV} {ci : Value} (hu : P.underlying t = some .string) (hi : VR hp L β i ci) (hj : aix s.length i = some j) (hc : s[j]? = some c) :
    (Instr.index t (.string ⟨s.toArray⟩) ci).run P w = .ok (.int .u8 c.toNat) w := by
  obtain ⟨k, m, rfl, h1, h2, rfl⟩ := aix_some hj
  cases hi
  have h3 : (⟨s.toArray⟩ : ByteArray)[m.toNat]? = some c := by
    obtain ⟨hlt, hv⟩ := List.getElem?_eq_some_iff.1 hc
    rw [getElem?_pos (⟨s.toArray⟩ : ByteArray) m.toNat (by rw [bytes_size]; exact hlt)]
    congr 1
  simp [Instr.index, asIntOf, Sem.run_bind, run_underlying hu, h1, h3]

theorem abd_some {n d r : Nat} {v : Option AV} (h : abd n v d = some r) : (v = none ∧ r = d) ∨ ∃ k i, v = some (.int k i) ∧ 0 ≤ i ∧ i ≤ n ∧ r = i.toNat := by
  cases v with
  | none => simp [abd] at h; exact .inl ⟨rfl, h.symm⟩
  | some v =>
    right
    cases v <;> simp only [abd, aidx] at h <;> try cases h
    rename_i k i
    split at h
    · rename_i hi; cases h; exact ⟨k, i, rfl, hi.1, hi.2, rfl⟩
    · cases h

/-- optional values -/
def VRO (hp : Array Obj) (L : Nat → Prop) (β : Bl) : Option AV → Option Value → Prop
  | none, none => True
  | some a, some v => VR hp L β a v
  | _, _ => False

/-- The bounds of a slice expression. -/
theorem bounds_ok {isS : Bool} {n cap m hb l : Nat} {lo hi mx : Option AV} {clo chi cmx : Option Value} (hcap : n ≤ cap) (hlo : VRO hp L β lo clo) (hhi : VRO hp L β hi chi) (hmx : VRO hp L β mx cmx)
    (h1 : abd n mx n = some m) (h2 : abd m hi n = some hb) (h3 : abd hb lo 0 = some l) (h4 : (mx.isSome && hi.isNone) = false) :
    ∃ m', (Instr.sliceBounds isS n cap clo chi cmx).run P w = .ok (l, hb, m') w ∧ l ≤ hb ∧ hb ≤ m' ∧ hb ≤ n ∧ m' ≤ cap ∧ (mx.isSome = true → m' = m) ∧ (mx = none → m' = cap) := by
  have hsb : ∀ (k : IntKind) (i : Int) (y : Nat) (code : BoundsCode), 0 ≤ i → i ≤ y → (Instr.sliceBound (.int k i) y code).run P w = .ok i.toNat w := by
    intro k i y code h5 h6
    simp [Instr.sliceBound, asIntOf, h5, h6]
  rcases abd_some h1 with ⟨rfl, rfl⟩ | ⟨k1, i1, rfl, a1, a2, rfl⟩
  · cases cmx <;> simp only [VRO] at hmx
    rcases abd_some h2 with ⟨rfl, rfl⟩ | ⟨k2, i2, rfl, b1, b2, rfl⟩
    · cases chi <;> simp only [VRO] at hhi
      rcases abd_some h3 with ⟨rfl, rfl⟩ | ⟨k3, i3, rfl, c1, c2, rfl⟩
      · cases clo <;> simp only [VRO] at hlo
        exact ⟨cap, by simp [Instr.sliceBounds], by omega, by omega, by omega, by omega, by simp, by simp⟩
      · cases clo <;> simp only [VRO] at hlo
        cases hlo
        exact ⟨cap, by simp [Instr.sliceBounds, hsb _ _ _ _ c1 c2], by omega, by omega, by omega, by omega, by simp, by simp⟩
    · cases chi <;> simp only [VRO] at hhi
      cases hhi
      have b3 : i2 ≤ (cap : Int) := by omega
      rcases abd_some h3 with ⟨rfl, rfl⟩ | ⟨k3, i3, rfl, c1, c2, rfl⟩
      · cases clo <;> simp only [VRO] at hlo
        exact ⟨cap, by simp [Instr.sliceBounds, hsb _ _ _ _ b1 b3], by omega, by omega, by omega, by omega, by simp, by simp⟩
      · cases clo <;> simp only [VRO] at hlo
        cases hlo
        exact ⟨cap, by simp [Instr.sliceBounds, hsb _ _ _ _ b1 b3, hsb _ _ _ _ c1 c2], by omega, by omega, by omega, by omega, by simp, by simp⟩
  · cases cmx <;> simp only [VRO] at hmx
    cases hmx
    have a3 : i1 ≤ (cap : Int) := by omega
    rcases abd_some h2 with ⟨rfl, rfl⟩ | ⟨k2, i2, rfl, b1, b2, rfl⟩
    · simp at h4
    · cases chi <;> simp only [VRO] at hhi
      cases hhi
      rcases abd_some h3 with ⟨rfl, rfl⟩ | ⟨k3, i3, rfl, c1, c2, rfl⟩
      · cases clo <;> simp only [VRO] at hlo
        exact ⟨i1.toNat, by simp [Instr.sliceBounds, hsb _ _ _ _ a1 a3, hsb _ _ _ _ b1 b2], by omega, by omega, by omega, by omega, by simp, by simp⟩
      · cases clo <;> simp only [VRO] at hlo
        cases hlo
        exact ⟨i1.toNat, by simp [Instr.sliceBounds, hsb _ _ _ _ a1 a3, hsb _ _ _ _ b1 b2, hsb _ _ _ _ c1 c2], by omega, by omega, by omega, by omega, by simp, by simp⟩

/-- What a slice's value is in the model. -/
theorem alen_slice {x : AV} {n : Nat} {cx : Value} (hx : VR hp L β x cx) (h : alen x = some n) : ∃ a cap, cx = .slice a n cap ∧ n ≤ cap := by
  cases hx <;> simp only [alen] at h <;> try cases h
  case nilsl => exact ⟨_, _, rfl, Nat.le_refl _⟩
  case esl a => exact ⟨_, _, rfl, Nat.le_refl _⟩
  case psl0 a cap => exact ⟨_, _, rfl, Nat.zero_le _⟩
  case psl => exact ⟨_, _, rfl, by assumption⟩
  case rsl => exact ⟨_, _, rfl, by assumption⟩
  case rsl0 => exact ⟨_, _, rfl, Nat.le_refl _⟩

theorem slice_ok {t e : TypeId} {z : Nat} {x v : AV} {cx : Value} {lo hi mx : Option AV} {clo chi cmx : Option Value} (hu : P.underlying t = some (.slice e)) (hsz : szOf P e = some z) (hx : VR hp L β x cx) (hlo : VRO hp L β lo clo) (hhi : VRO hp L β hi chi) (hmx : VRO hp L β mx cmx)
    (h : aslice z x lo hi mx = some v) : ∃ cv, (Instr.sliceAt t cx clo chi cmx).run P w = .ok cv w ∧ VR hp L β v cv := by
  unfold aslice at h
  split at h
  case h_2 => cases h
  rename_i n hn
  split at h
  case h_2 => cases h
  rename_i m hm
  split at h
  case h_2 => cases h
  rename_i hb hh
  split at h
  case h_2 => cases h
  rename_i l hl
  split at h
  · cases h
  · rename_i h4
    obtain ⟨a, cap, rfl, hcap⟩ := alen_slice hx hn
    obtain ⟨m', hrun, b1, b2, b3, b4, b5, b6⟩ := bounds_ok (P := P) (w := w) (isS := true) hcap hlo hhi hmx hm hh hl (by simpa only [Bool.not_eq_true] using h4)
    refine ⟨.slice (if m' = l then a else a.map (·.add (l * z))) (hb - l) (m' - l), ?_, ?_⟩
    · simp only [Instr.sliceAt, Instr.slice, Sem.run_bind, run_underlying hu, Result.andThen_ok, hrun, szOf_some hsz, Sem.run_pure]
    · cases hx <;> simp only [asl] at h <;> try (cases h; done)
      case nilsl =>
        split at h
        · rename_i h0; cases h
          simp only [alen] at hn; cases hn
          have hm0 : m' = 0 := by omega
          have hl0 : l = 0 := by omega
          subst hm0; subst hl0; subst h0
          exact .nilsl
        · cases h
      case esl =>
        split at h
        · rename_i h0; cases h
          have hm0 : m' = 0 := by omega
          have hl0 : l = 0 := by omega
          subst hm0; subst hl0; subst h0
          exact .esl _
        · cases h
      case psl0 =>
        simp only [alen, List.length_nil] at hn; cases hn
        have hb0 : hb = 0 := by omega
        have hl0 : l = 0 := by omega
        subst hb0; subst hl0
        simp only [List.all_nil, if_true] at h
        cases h
        split
        · rename_i h5
          simp only [Bool.and_eq_true, beq_iff_eq] at h5
          have := b5 h5.1
          rw [show m' = 0 by omega]
          exact .esl _
        · simp only [List.drop_nil, List.take_nil]; exact .psl0 _ _
      case psl xs z' b o cur e' fz hbk hL hs hz hr hc =>
        simp only [alen] at hn
        split at h
        · rename_i hall
          cases h
          split
          · rename_i h5
            simp only [Bool.and_eq_true, beq_iff_eq] at h5
            have := b5 h5.1
            rw [show m' - l = 0 by omega, show hb - l = 0 by omega]
            exact .esl _
          · by_cases h0 : hb - l = 0
            · rw [h0, List.take_zero]; exact .psl0 _ _
            · have hne : ¬ (m' = l) := by omega
              rw [if_neg hne]
              have hzz : z' = z := by
                have h6 : 0 < xs.length := by omega
                have h7 := hz 0 xs[0] (by simp [h6])
                have h8 := List.all_eq_true.1 hall xs[0] (List.getElem_mem h6)
                rw [← h7]; simpa using h8
              subst hzz
              have hlen : ((xs.drop l).take (hb - l)).length = hb - l := by simp; omega
              simp only [Option.map_some, add_lit']
              have key := VR.psl (hp := hp) (L := L) (β := β) ((xs.drop l).take (hb - l)) z' b (o + l * z') (m' - l) cur e' fz hbk hL (by
                  rw [hlen]
                  have h9 : l * z' + (hb - l) * z' ≤ xs.length * z' := by rw [← Nat.add_mul]; exact Nat.mul_le_mul_right _ (by omega)
                  omega) (fun i y hy => by
                  rw [List.getElem?_take] at hy
                  split at hy
                  · rw [List.getElem?_drop] at hy; exact hz _ _ hy
                  · cases hy) (by omega) (fun i y j c v hy hcj hv => by
                  rw [List.getElem?_take] at hy
                  split at hy
                  · rw [List.getElem?_drop] at hy
                    refine hr (l + i) y j c v hy hcj ?_
                    rw [← hv]; congr 1; rw [Nat.add_mul]; omega
                  · cases hy)
              rw [hlen] at key
              exact key
        · cases h
      case rsl id off z' b base cur e' hβ hbk hc hm' hs =>
        split at h
        · rename_i hz; subst hz
          cases h
          split
          · rename_i h5
            simp only [Bool.and_eq_true, beq_iff_eq] at h5
            have := b5 h5.1
            rw [show m' - l = 0 by omega, show hb - l = 0 by omega]
            exact .esl _
          · by_cases hne : m' = l
            · rw [if_pos hne, show hb - l = 0 by omega, show m' - l = 0 by omega]
              exact .rsl0 _ _ _ _ _ _ hβ
            · rw [if_neg hne]
              simp only [Option.map_some, add_lit']
              have h9 : l * z' + (m' - l) * z' ≤ cap * z' := by rw [← Nat.add_mul]; exact Nat.mul_le_mul_right _ (by omega)
              have key := VR.rsl (hp := hp) (L := L) (β := β) id (off + l * z') (hb - l) z' b base (m' - l) cur e' hβ hbk (by omega) (by omega) (by omega)
              rw [← Nat.add_assoc] at key
              exact key
        · cases h
      case rsl0 id off z' b base o hβ =>
        simp only [alen] at hn; cases hn
        have hm0 : m' = 0 := by omega
        have hl0 : l = 0 := by omega
        have hb0 : hb = 0 := by omega
        subst hm0; subst hl0; subst hb0
        split at h
        · rename_i hz; subst hz
          cases h
          split
          · exact .esl _
          · exact .rsl0 _ _ _ _ _ _ hβ
        · cases h

theorem sliceS_ok {t : TypeId} {s r : List UInt8} {lo hi : Option AV} {clo chi : Option Value} (hu : P.underlying t = some .string) (hlo : VRO hp L β lo clo) (hhi : VRO hp L β hi chi) (h : asliceS s lo hi = some r) :
    (Instr.sliceAt t (.string ⟨s.toArray⟩) clo chi none).run P w = .ok (.string ⟨r.toArray⟩) w := by
  unfold asliceS at h
  split at h
  case h_2 => cases h
  rename_i hb hh
  split at h
  case h_2 => cases h
  rename_i l hl
  cases h
  obtain ⟨m', hrun, b1, b2, b3, b4, b5, b6⟩ := bounds_ok (P := P) (w := w) (hp := hp) (L := L) (β := β) (isS := false) (n := s.length) (cap := s.length) (Nat.le_refl _) hlo hhi (mx := none) (cmx := none) trivial rfl hh hl rfl
  have hsz := bytes_size s
  simp only [Instr.sliceAt, Instr.slice, Sem.run_bind, run_underlying hu, Result.andThen_ok, hsz, hrun, Sem.run_pure]
  simp [bytes_extract, hrun]
end
end Go.Eng
end
noncomputable section
namespace Go.Eng
theorem cell?_heap {w w' : World} (h : w'.heap = w.heap) (a : Addr) : w'.cell? a = w.cell? a := by simp [World.cell?, h]

section
variable {P : Program} {own : Nat → Prop} {β : Bl} {h : AH} {w : World}
theorem flat_RL {hp : Array Obj} {L : Nat → Prop} {β : Bl} {cur : Array Value} {z : Nat} : ∀ (xs : List (List AV)) (o : Nat), (∀ (i : Nat) (x : List AV), xs[i]? = some x → x.length = z) →
    (∀ (i : Nat) (x : List AV) (j : Nat) (c : AV) (v : Value), xs[i]? = some x → x[j]? = some c → cur[o + i * z + j]? = some v → VR hp L β c v) → o + xs.length * z ≤ cur.size → RL hp L β xs.flatten ((cur.toList.drop o).take (xs.length * z))
  | [], o, _, _, _ => by simpa using RL.nil
  | x :: xs, o, hz, hr, hs => by
    have hxl : x.length = z := hz 0 x (by simp)
    have hs' : o + (z + xs.length * z) ≤ cur.size := by simp only [List.length_cons, Nat.add_mul, Nat.one_mul] at hs; omega
    have h1 : RL hp L β x ((cur.toList.drop o).take z) := by
      rw [← hxl]
      exact row_RL (by omega) (fun j c v hc hv => hr 0 x j c v (by simp) hc (by simpa using hv))
    have h2 := flat_RL xs (o + z) (fun i y hy => hz (i + 1) y (by simpa using hy)) (fun i y j c v hy hc hv => hr (i + 1) y j c v (by simpa using hy) hc (by rw [← hv]; congr 1; rw [Nat.add_mul]; omega)) (by omega)
    have h3 := h1.append h2
    have he : (cur.toList.drop o).take ((x :: xs).length * z) = (cur.toList.drop o).take z ++ (cur.toList.drop (o + z)).take (xs.length * z) := by
      rw [List.length_cons, Nat.add_mul, Nat.one_mul, Nat.add_comm (xs.length * z) z, List.take_add, List.drop_drop]
    rw [he]
    exact h3

/-- The elements of a slice: what firstCells gives. -/
theorem src_ok (hs : SimH own β h.H h.nx w) {z : Nat} {x : AV} {cx : Value} {new : List AV} {m : Nat} (hc : acells h z x = some new) (hm : alen x = some m) (hx : VR w.heap (LL own β h.H) β x cx) :
    ∃ a cap vs, cx = .slice a m cap ∧ m ≤ cap ∧ RL w.heap (LL own β h.H) β new vs ∧ vs.length = m * z ∧
      ∀ n, n ≤ m → ∀ w', w'.heap = w.heap → (Builtin.firstCells z n cx).run P w' = .ok (vs.take (n * z)).toArray w' := by
  have zero : ∀ (a : Option Addr) (cap n : Nat), n ≤ 0 → ∀ w' : World, (Builtin.firstCells z n (.slice a 0 cap)).run P w' = .ok (([] : List Value).take (n * z)).toArray w' := by
    intro a cap n hn w'
    have : n = 0 := by omega
    subst this
    cases a <;> simp [Builtin.firstCells, loadCells, loadCellsFrom]
  have fromRow : ∀ (b o n m cap : Nat) (cur : Array Value) (e : TypeId) (fz : Nat × Nat), w.heap[b]? = some (.cells cur e fz) → n ≤ m → o + m * z ≤ cur.size → ∀ w' : World, w'.heap = w.heap →
      (Builtin.firstCells z n (.slice (some ⟨b, o, none⟩) m cap)).run P w' = .ok (((cur.toList.drop o).take (m * z)).take (n * z)).toArray w' := by
    intro b o n m cap cur e fz hb hn hsz w' hw
    have hnm : n * z ≤ m * z := Nat.mul_le_mul_right _ hn
    rw [List.take_take, Nat.min_eq_left hnm]
    have hl : ((cur.toList.drop o).take (n * z)).length = n * z := by simp; omega
    exact run_firstCells_some w' z n ⟨b, o, none⟩ m cap _ hl (fun j v hv => by rw [cell?_heap hw]; exact row_cells hb j v hv)
  cases hx <;> simp only [acells] at hc <;> simp only [alen] at hm <;> try (cases hc; done)
  case nilsl => cases hc; cases hm; exact ⟨_, _, [], rfl, Nat.le_refl _, RL.nil, by simp, fun n hn w' _ => zero _ _ n hn w'⟩
  case esl a => cases hc; cases hm; exact ⟨_, _, [], rfl, Nat.le_refl _, RL.nil, by simp, fun n hn w' _ => zero _ _ n hn w'⟩
  case psl0 a cap => simp at hc hm; subst hc; subst hm; exact ⟨_, _, [], rfl, Nat.zero_le _, RL.nil, by simp, fun n hn w' _ => zero _ _ n hn w'⟩
  case psl xs z' b o cap cur e fz hb hL hsz hz hcap hr =>
    cases hm
    split at hc
    · rename_i hall
      cases hc
      have hz2 : ∀ (i : Nat) (x : List AV), xs[i]? = some x → x.length = z := fun i x hxi => by
        have := List.all_eq_true.1 hall x (List.mem_of_getElem? hxi); simpa using this
      by_cases hx0 : xs.length = 0
      · have : xs = [] := List.eq_nil_of_length_eq_zero hx0
        subst this
        exact ⟨_, _, [], rfl, hcap, RL.nil, by simp, fun n hn w' _ => zero _ _ n (by simpa using hn) w'⟩
      · have hzz : z' = z := by
          have h6 : 0 < xs.length := by omega
          rw [← hz 0 xs[0] (by simp [h6])]; exact hz2 0 xs[0] (by simp [h6])
        subst hzz
        exact ⟨_, _, _, rfl, hcap, flat_RL xs o hz hr hsz, by simp; omega, fun n hn w' hw => fromRow b o n xs.length cap cur e fz hb hn hsz w' hw⟩
    · cases hc
  case rsl id off len z' b base cap cur0 e0 hβ hb0 hcap hmax hsz =>
    simp only [Option.some.injEq] at hm
    subst hm
    split at hc
    · rename_i hz; subst hz
      cases hcs : h.cellsAt id with
      | none => simp [hcs] at hc
      | some cs =>
        simp only [hcs] at hc
        obtain ⟨h1, rfl⟩ := cut_some hc
        obtain ⟨b', base', cur, e, hg, hβ', hb, hlen, hr⟩ := hs.row hcs
        rw [hβ] at hβ'; cases hβ'
        have hR := ((row_RL hlen hr).drop off).take (len * z')
        have heq : (((cur.toList.drop base).take cs.length).drop off).take (len * z') = (cur.toList.drop (base + off)).take (len * z') := by
          rw [List.drop_take, List.take_take, List.drop_drop, Nat.min_eq_left (by omega)]
        rw [heq] at hR
        refine ⟨_, _, _, rfl, hcap, hR, ?_, fun n hn w' hw => fromRow b (base + off) n len cap cur e (0, 0) hb hn (by omega) w' hw⟩
        simp; omega
    · cases hc
  case rsl0 id off z' b base o hβ =>
    cases hm
    split at hc
    · rename_i hz; subst hz
      cases hcs : h.cellsAt id with
      | none => simp [hcs] at hc
      | some cs =>
        simp only [hcs, Nat.zero_mul] at hc
        obtain ⟨h1, rfl⟩ := cut_some hc
        exact ⟨_, _, [], rfl, Nat.le_refl _, by simpa using RL.nil, by simp, fun n hn w' _ => zero _ _ n hn w'⟩
    · cases hc

theorem run_append_in {t ty e : TypeId} {i : TypeInfo} (ht : P.underlying t = some (.slice e)) (hi : P.info? e = some i) (base a : Option Addr) (sLen sCap m c : Nat) (new : Array Value)
    (hnew : (Builtin.firstCells i.size m (.slice a m c)).run P w = .ok new w) (hroom : sLen + m ≤ sCap) :
    (Builtin.append_ #[t, t] ty #[.slice base sLen sCap, .slice a m c]).run P w =
      (match base with | some ad => (storeCells (ad.add (sLen * i.size)) new.toList).run P w | none => .ok () w).andThen fun _ w' => .ok (.slice base (sLen + m) sCap) w' := by
  cases base <;> simp [Builtin.append_, run_underlying ht, sizeOf, typeInfo, hi, Builtin.lenOf, hroom, hnew]

theorem run_append_out {t ty e : TypeId} {i : TypeInfo} {zv : Value} (ht : P.underlying t = some (.slice e)) (hi : P.info? e = some i) (hz : i.zero = some zv) (base a : Option Addr) (sLen sCap m c : Nat) (old new : Array Value)
    (hold : (Builtin.firstCells i.size sLen (.slice base sLen sCap)).run P w.drew = .ok old w.drew) (hnew : (Builtin.firstCells i.size m (.slice a m c)).run P w.drew = .ok new w.drew) (hroom : ¬ (sLen + m ≤ sCap))
    (h63 : sLen + m ≤ 9223372036854775807) (hb : (sLen + m) * i.bytes ≤ 140737488355328) :
    (Builtin.append_ #[t, t] ty #[.slice base sLen sCap, .slice a m c]).run P w =
      .ok (.slice (some ⟨w.heap.size, 0, none⟩) (sLen + m) (grownCap w (sLen + m) sCap e)) (w.drew.alloc (.cells (old ++ new ++ Builtin.zeroCells zv.cells (grownCap w (sLen + m) sCap e - (sLen + m))) e)) := by
  have h63' : ¬ (9223372036854775807 < ((sLen : Int) + (m : Int))) := by omega
  have h48' : ¬ (281474976710656 < Builtin.nextslicecap (sLen + m) sCap * i.bytes) := by
    have := growslice_fits (need := sLen + m) (old := sCap) (bytes := i.bytes) (by omega) hb
    omega
  simp [Builtin.append_, run_underlying ht, sizeOf, typeInfo, zeroValue, hi, hz, Builtin.lenOf, hroom, h63', h48', Question.forced, hold, hnew, newRow, grownCap]

theorem roomy_spec {n b : Nat} (hr : roomy n b = true) : n * b ≤ 140737488355328 ∧ n ≤ 9223372036854775807 := by
  simpa [roomy] using hr

theorem zeroOf_info {t : TypeId} {z : List AV} (hq : zeroOf P t = some z) : ∃ i v, P.info? t = some i ∧ i.zero = some v ∧ v.cells.size = z.length := by
  unfold zeroOf at hq
  split at hq
  · rename_i i hi
    split at hq
    · rename_i v hv
      exact ⟨i, v, hi, hv, by have := (cVals_ok (hp := #[]) (L := fun _ => True) (β := fun _ => none) hq).1; simp at this; omega⟩
    · cases hq
  · cases hq

/-- The new array of an append. -/
theorem grow_ok (hs : SimH own β h.H h.nx w) {e : TypeId} {z : Nat} {i : TypeInfo} {zv : Value} (hzs : zv.cells.size = z) (n old : Nat) (hn : n ≤ 9223372036854775807) {as : List AV} {vs : Array Value} (hR : RL w.heap (LL own β h.H) β as vs.toList) (hl : as.length = n * z) :
    ∃ β', SimH own β' (h.add (.cells as)).H (h.add (.cells as)).nx (w.drew.alloc (.cells (vs ++ Builtin.zeroCells zv.cells (grownCap w n old e - n)) e)) ∧
      VR (w.drew.alloc (.cells (vs ++ Builtin.zeroCells zv.cells (grownCap w n old e - n)) e)).heap (LL own β' (h.add (.cells as)).H) β' (.rsl h.nx 0 n z) (.slice (some ⟨w.heap.size, 0, none⟩) n (grownCap w n old e)) ∧
      Trans own β h w β' (h.add (.cells as)) (w.drew.alloc (.cells (vs ++ Builtin.zeroCells zv.cells (grownCap w n old e - n)) e)) := by
  have hge := grownCap_ge w n old e
  have hcm : grownCap w n old e ≤ maxLen := grownCap_le_maxLen w n old e (by simp only [maxLen]; omega)
  have hvl : vs.size = n * z := by have := hR.1; simp at this; omega
  obtain ⟨h1, h2, _⟩ := hs.newCells (w' := w.drew.alloc (.cells (vs ++ Builtin.zeroCells zv.cells (grownCap w n old e - n)) e)) h.nx (hs.fresh _ (Nat.le_refl _)) as (vs ++ Builtin.zeroCells zv.cells (grownCap w n old e - n)) e rfl rfl rfl rfl (by simp; omega) (fun j c v hc hv => by
    refine hR.2 j c v hc ?_
    have hj : j < vs.size := by rw [hvl, ← hl]; exact (List.getElem?_eq_some_iff.1 hc).1
    rw [Array.getElem?_append, if_pos hj] at hv
    simpa using hv)
  have hmx : max h.nx (h.nx + 1) = h.nx + 1 := by omega
  have h2' := h2 (Nat.le_refl _)
  rw [hmx] at h1 h2'
  refine ⟨_, h1, ?_, h2'⟩
  have hb : (w.drew.alloc (.cells (vs ++ Builtin.zeroCells zv.cells (grownCap w n old e - n)) e)).heap[w.heap.size]? = some (.cells (vs ++ Builtin.zeroCells zv.cells (grownCap w n old e - n)) e (0, 0)) := heap_alloc_new w.drew _
  refine VR.rsl h.nx 0 n z w.heap.size 0 _ _ e (upd_same _ _ _ _) hb hge hcm ?_
  simp only [Array.size_append, size_zeroCells, hzs, hvl, ← Nat.add_mul]
  have : n + (grownCap w n old e - n) = grownCap w n old e := by omega
  rw [this]; omega

theorem append_ok (hs : SimH own β h.H h.nx w) {t ty e : TypeId} {z bytes : Nat} {zero : List AV} {s x v : AV} {cs cx : Value} {h' : AH} (ht : P.underlying t = some (.slice e)) (hz : zeroOf P e = some zero) (hsz : szOf P e = some z) (hzl : zero.length = z) (hz0 : z ≠ 0) (hby : byOf P e = some bytes)
    (hvs : VR w.heap (LL own β h.H) β s cs) (hvx : VR w.heap (LL own β h.H) β x cx) (ha : aapp h z bytes s x = some (v, h')) :
    OpOk P own β h w (do pure (.value (← Builtin.append_ #[t, t] ty #[cs, cx]))) v h' := by
  unfold aapp at ha
  split at ha
  case h_2 => cases ha
  rename_i new m hnew hm
  split at ha
  · cases ha
  rename_i hones
  have hones' : ones new = true := by simpa using hones
  obtain ⟨i, zv, hi, hiz, hzc⟩ := zeroOf_info hz
  have hisz : i.size = z := by simp [szOf, hi] at hsz; exact hsz
  have hiby : i.bytes = bytes := by simp [byOf, hi] at hby; exact hby
  subst hisz
  subst hiby
  obtain ⟨xa, xc, nv, rfl, hxc, hnR, hnl, hfirst⟩ := src_ok (P := P) hs hnew hm hvx
  have hfirst' : ∀ w', w'.heap = w.heap → (Builtin.firstCells i.size m (.slice xa m xc)).run P w' = .ok nv.toArray w' := fun w' hw => by
    have := hfirst m (Nat.le_refl _) w' hw
    rwa [List.take_of_length_le (by omega)] at this
  have hnewl : new.length = m * i.size := by rw [hnR.1]; exact hnl
  -- a slice without an array, or without room
  have fresh : ∀ (b : Option Addr), m ≠ 0 → roomy m i.bytes = true → OpOk P own β h w (do pure (.value (← Builtin.append_ #[t, t] ty #[.slice b 0 0, .slice xa m xc]))) (.rsl h.nx 0 m i.size) (h.add (.cells new)) := by
    intro b hm0 hr
    obtain ⟨r1, r2⟩ := roomy_spec hr
    have h0 : (Builtin.firstCells i.size 0 (.slice b 0 0)).run P w.drew = .ok #[] w.drew := by
      cases b <;> simp [Builtin.firstCells, loadCells, loadCellsFrom]
    have hrun := run_append_out (P := P) (w := w) (ty := ty) ht hi hiz b xa 0 0 m xc #[] nv.toArray h0 (hfirst' w.drew rfl) (by omega) (by omega) (by rw [Nat.zero_add]; exact r1)
    obtain ⟨β', g1, g2, g3⟩ := grow_ok (e := e) (i := i) hs (hzc.trans hzl) m 0 r2 (as := new) (vs := nv.toArray) (by simpa using hnR) hnewl
    refine ⟨_, _, β', .inl ?_, g1, g2, g3⟩
    simp only [Nat.zero_add, Array.empty_append] at hrun
    simp only [Sem.run_bind, hrun, Result.andThen_ok, Sem.run_pure]
  have nothing : ∀ (b : Option Addr) (n cap : Nat), n ≤ cap → m = 0 → (Builtin.append_ #[t, t] ty #[.slice b n cap, .slice xa m xc]).run P w = .ok (.slice b n cap) w := by
    intro b n cap hn hm0
    subst hm0
    have hnv : nv = [] := List.eq_nil_of_length_eq_zero (by omega)
    subst hnv
    rw [run_append_in ht hi b xa n cap 0 xc _ (hfirst' w rfl) (by omega)]
    cases b <;> simp [storeCells]
  split at ha
  case h_1 =>
    cases hvs
    split at ha
    · rename_i hm0; cases ha
      exact .still hs (by simp only [Sem.run_bind, nothing _ 0 0 (Nat.le_refl _) hm0, Result.andThen_ok, Sem.run_pure]) .nilsl
    · rename_i hm0
      split at ha
      · rename_i hr; cases ha; exact fresh none hm0 hr
      · cases ha
  case h_2 =>
    cases hvs
    rename_i b
    split at ha
    · rename_i hm0; cases ha
      exact .still hs (by simp only [Sem.run_bind, nothing _ 0 0 (Nat.le_refl _) hm0, Result.andThen_ok, Sem.run_pure]) (.esl b)
    · rename_i hm0
      split at ha
      · rename_i hr; cases ha; exact fresh b hm0 hr
      · cases ha
  case h_3 xs =>
    split at ha
    · rename_i hm0; cases ha
      obtain ⟨b, cap, rfl, hc⟩ := alen_slice hvs (n := xs.length) rfl
      exact .still hs (by simp only [Sem.run_bind, nothing b xs.length cap hc hm0, Result.andThen_ok, Sem.run_pure]) hvs
    · cases ha
  case h_4 id off len z' =>
    split at ha
    case isFalse => cases ha
    rename_i hcond
    simp only [Bool.and_eq_true, decide_eq_true_eq] at hcond
    obtain ⟨hz', hr⟩ := hcond
    subst hz'
    obtain ⟨r1, r2⟩ := roomy_spec hr
    cases hcs : h.cellsAt id with
    | none => simp [hcs] at ha
    | some cells =>
      simp only [hcs] at ha
      cases hcut : cut cells off (len * i.size) with
      | none => simp [hcut] at ha
      | some old =>
        simp only [hcut] at ha
        cases ha
        obtain ⟨sa, scap, ov, hsv, hscap, hoR, hol, hofirst⟩ := src_ok (P := P) hs (z := i.size) (x := .rsl id off len i.size) (new := old) (m := len) (by simp [acells, hcs, hcut]) rfl hvs
        subst hsv
        have holdl : old.length = len * i.size := by rw [hoR.1]; exact hol
        obtain ⟨b', base', cur, e', hg, hβ', hb, hlen, hrow⟩ := hs.row hcs
        by_cases hroom : len + m ≤ scap
        · -- in place
          have hrun := run_append_in (P := P) (w := w) (ty := ty) ht hi sa xa len scap m xc _ (hfirst' w rfl) hroom
          obtain ⟨hcutl, hcutv⟩ := cut_some hcut
          cases hvs with
          | rsl _ _ _ _ b base cap cur0 e0 hβ hb0 hcap hmax hsz =>
            obtain ⟨rfl, rfl⟩ : b = b' ∧ base = base' := by rw [hβ] at hβ'; simpa using hβ'
            obtain ⟨rfl, rfl⟩ : cur = cur0 ∧ e' = e0 := by rw [hb] at hb0; simpa using hb0
            have hmul : len * i.size + m * i.size ≤ scap * i.size := by rw [← Nat.add_mul]; exact Nat.mul_le_mul_right _ hroom
            have hst := run_storeCells_at P b (base + off + len * i.size) e' nv 0 cur w hb (by omega) (hnR.ones hones')
            simp only [Nat.add_zero] at hst
            have hsz' : (cur.toList.take (base + off + len * i.size) ++ nv ++ cur.toList.drop (base + off + len * i.size + nv.length)).toArray.size = cur.size := by simp; omega
            have hb' : (w.setRow b (cur.toList.take (base + off + len * i.size) ++ nv ++ cur.toList.drop (base + off + len * i.size + nv.length)).toArray).heap[b]? = some (.cells (cur.toList.take (base + off + len * i.size) ++ nv ++ cur.toList.drop (base + off + len * i.size + nv.length)).toArray e' (0, 0)) := setRow_heap w b cur _ e' _ hb
            have hw := hs.writeAs (w' := w.setRow b (cur.toList.take (base + off + len * i.size) ++ nv ++ cur.toList.drop (base + off + len * i.size + nv.length)).toArray) hg hβ h.nx (base + off) (.inr rfl) (.cells (old ++ new)) (by simp) (fun k hk => setRow_other w b k _ hk)
              (fun c1 e1 fz hc => by rw [hb] at hc; cases hc; exact ⟨_, hb', hsz'⟩) rfl rfl rfl
              (fun L' β' hl' => ⟨_, e', hb', by rw [hsz']; simp; omega, fun j c v hc hv => by
                refine VR.later hl' ?_
                have hv2 : (cur.toList.take (base + off + len * i.size) ++ nv ++ cur.toList.drop (base + off + len * i.size + nv.length))[base + off + j]? = some v := by simpa using hv
                rw [getElem?_splice _ _ _ _ (by simp; omega)] at hv2
                rw [List.getElem?_append] at hc
                split at hc
                · rename_i hj
                  rw [if_pos (by omega)] at hv2
                  rw [hcutv, List.getElem?_take] at hc
                  split at hc
                  · rw [List.getElem?_drop] at hc
                    exact hrow _ c v hc (by rw [← Nat.add_assoc]; simpa using hv2)
                  · cases hc
                · rename_i hj
                  rw [if_neg (by omega)] at hv2
                  have hjl : j - old.length < new.length := (List.getElem?_eq_some_iff.1 hc).1
                  rw [if_pos (by omega)] at hv2
                  refine hnR.2 _ c v hc ?_
                  rw [← hv2]; congr 1; omega⟩)
            rw [if_pos rfl] at hw
            refine ⟨.slice (some ⟨b, base + off, none⟩) (len + m) scap, _, _, .inl ?_, hw.1, ?_, hw.2⟩
            · simp only [add_lit', hst, Result.andThen_ok] at hrun
              simp only [Sem.run_bind, hrun, Result.andThen_ok, Sem.run_pure]
            · have := VR.rsl (hp := (w.setRow b (cur.toList.take (base + off + len * i.size) ++ nv ++ cur.toList.drop (base + off + len * i.size + nv.length)).toArray).heap) (L := LL own (upd β h.nx b (base + off)) ((h.kill id).add (.cells (old ++ new))).H) (β := upd β h.nx b (base + off)) h.nx 0 (len + m) i.size b (base + off) scap _ e' (upd_same _ _ _ _) hb' hroom hmax (by rw [hsz']; omega)
              exact this
          | rsl0 _ _ _ b base o hβ =>
            obtain ⟨rfl, rfl⟩ : b = b' ∧ base = base' := by rw [hβ] at hβ'; simpa using hβ'
            have hm0 : m = 0 := by omega
            subst hm0
            have hnv : nv = [] := List.eq_nil_of_length_eq_zero (by omega)
            have hne : new = [] := List.eq_nil_of_length_eq_zero (by omega)
            have hol0 : old = [] := List.eq_nil_of_length_eq_zero (by omega)
            subst hnv; subst hne; subst hol0
            have hw := hs.writeAs (w' := w) hg hβ h.nx base (.inr rfl) (.cells []) rfl (fun _ _ => rfl) (fun c1 e1 fz hc => ⟨c1, hc, rfl⟩) rfl rfl rfl
              (fun L' β' hl' => ⟨cur, e', hb, by simp; omega, fun j c v hc hv => by simp at hc⟩)
            rw [if_pos rfl] at hw
            refine ⟨.slice (some ⟨b, o, none⟩) 0 0, w, _, .inl ?_, hw.1, VR.rsl0 _ _ _ _ _ _ (upd_same _ _ _ _), hw.2⟩
            simp only [Sem.run_bind, nothing (some ⟨b, o, none⟩) 0 0 (Nat.le_refl _) rfl, Result.andThen_ok, Sem.run_pure]
        · -- a new array
          have hold' : (Builtin.firstCells i.size len (.slice sa len scap)).run P w.drew = .ok ov.toArray w.drew := by
            have := hofirst len (Nat.le_refl _) w.drew rfl
            rwa [List.take_of_length_le (by omega)] at this
          have hrun := run_append_out (P := P) (w := w) (ty := ty) ht hi hiz sa xa len scap m xc ov.toArray nv.toArray hold' (hfirst' w.drew rfl) hroom r2 r1
          obtain ⟨d1, d2⟩ := hs.drop id
          have hR2 := (hoR.append hnR).later d2.later
          obtain ⟨β', g1, g2, g3⟩ := grow_ok (h := h.kill id) (e := e) (i := i) d1 (hzc.trans hzl) (len + m) scap r2 (as := old ++ new) (vs := ov.toArray ++ nv.toArray) (by rw [Array.toList_append]; exact hR2) (by simp; rw [holdl, hnewl, Nat.add_mul])
          refine ⟨_, _, β', .inl ?_, g1, g2, d2.trans g3⟩
          simp only [Sem.run_bind, hrun, Result.andThen_ok, Sem.run_pure]
  case h_5 => cases ha
end
end Go.Eng
end
