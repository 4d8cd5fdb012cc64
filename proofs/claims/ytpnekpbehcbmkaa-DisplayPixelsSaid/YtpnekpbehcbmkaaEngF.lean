/- Each abstract operation stands for the model's operation: arithmetic, comparisons, parts, indices, slices. -/
import Derived.Test.YtpnekpbehcbmkaaEngE
set_option linter.unusedSimpArgs false
set_option linter.unusedVariables false
set_option linter.unnecessarySimpa false
namespace Go.Eng

theorem bytes_toList (l : List UInt8) : (⟨l.toArray⟩ : ByteArray).toList = l := by rw [ByteArray.toList_eq]
theorem bytes_size (l : List UInt8) : (⟨l.toArray⟩ : ByteArray).size = l.length := by simp [← ByteArray.size_data]
theorem bytes_append (a b : List UInt8) : (⟨a.toArray⟩ : ByteArray) ++ ⟨b.toArray⟩ = ⟨(a ++ b).toArray⟩ := by
  apply ByteArray.ext; rw [ByteArray.data_append]; simp
theorem bytes_extract (l : List UInt8) (a b : Nat) : (⟨l.toArray⟩ : ByteArray).extract a b = ⟨((l.drop a).take (b - a)).toArray⟩ := by
  apply ByteArray.ext; rw [ByteArray.data_extract]; simp [List.extract_eq_take_drop]

section
variable {P : Program} {hp : Array Obj} {L : Nat → Prop} {β : Bl} {w : World}

/-- what eqGuard lets by -/
theorem run_eqGuard_plain (op : BinOp) (t : TypeId) (x y : Operand) (a b : Value) (ha : ∀ cs, a ≠ .agg cs) (hn : a ≠ .nilIface) : (eqGuard op t x y a b).run P w = .ok () w := by
  unfold eqGuard
  cases op <;> cases a <;> first | (exact absurd rfl hn) | (exact absurd rfl (ha _)) | simp

theorem arith_ok {op : BinOp} {t : TypeId} {ox oy : Operand} {x y v : AV} {cx cy : Value} (h : aarith op x y = some v) (hx : VR hp L β x cx) (hy : VR hp L β y cy) :
    ∃ cv, (do eqGuard op t ox oy cx cy; binOp op t cx cy : Sem Value).run P w = .ok cv w ∧ VR hp L β v cv := by
  cases hx <;> try (simp [aarith] at h; done)
  case int k a =>
    cases hy <;> try (simp [aarith] at h; done)
    case int k' b =>
      simp only [Sem.run_bind, run_eqGuard_plain op t ox oy (.int k a) (.int k' b) (fun _ h => by cases h) (fun h => by cases h), Result.andThen_ok]
      by_cases hk : k = k'
      · subst hk
        cases op <;> simp only [aarith, isShift, ishift, iarith, if_true, Bool.false_eq_true, if_false] at h
        case quo =>
          split at h
          · cases h
          · cases h; exact ⟨_, by simp [binOp, Op.intDiv, *], .int _ _⟩
        case rem =>
          split at h
          · cases h
          · cases h; exact ⟨_, by simp [binOp, Op.intDiv, *], .int _ _⟩
        case shl =>
          split at h
          · cases h
          · cases h; exact ⟨_, by simp [binOp, Op.shift, *], .int _ _⟩
        case shr =>
          split at h
          · cases h
          · cases h; exact ⟨_, by simp [binOp, Op.shift, *], .int _ _⟩
        all_goals cases h
        all_goals first
          | (refine ⟨_, ?_, .int _ _⟩; simp only [binOp, ne_eq, not_true_eq_false, if_false]; rfl)
          | (refine ⟨_, ?_, .bool _⟩; simp only [binOp, ne_eq, not_true_eq_false, if_false]; rfl)
      · cases op <;> simp only [aarith, isShift, ishift, hk, if_true, Bool.false_eq_true, if_false] at h
        case shl =>
          split at h
          · cases h
          · cases h; exact ⟨_, by simp [binOp, Op.shift, *], .int _ _⟩
        case shr =>
          split at h
          · cases h
          · cases h; exact ⟨_, by simp [binOp, Op.shift, *], .int _ _⟩
        all_goals cases h
  case str a =>
    cases hy <;> try (simp [aarith] at h; done)
    case str b =>
      simp only [Sem.run_bind, run_eqGuard_plain op t ox oy (.string ⟨a.toArray⟩) (.string ⟨b.toArray⟩) (fun _ h => by cases h) (fun h => by cases h), Result.andThen_ok]
      cases op <;> simp only [aarith, sarith] at h
      case add =>
        split at h
        · rename_i hl
          cases h
          refine ⟨.string ⟨(a ++ b).toArray⟩, ?_, .str _⟩
          have hlt : ¬ ((((⟨a.toArray⟩ : ByteArray).size + (⟨b.toArray⟩ : ByteArray).size : Nat) : Int) > IntKind.i64.max) := by
            rw [bytes_size, bytes_size]
            have : IntKind.i64.max = 9223372036854775807 := by decide
            omega
          simp only [binOp, Op.stringOp, if_neg hlt, bytes_append, Sem.run_pure]
        · cases h
      all_goals cases h
      all_goals exact ⟨_, by simp only [binOp, Op.stringOp, bytes_toList, Sem.run_pure], .bool _⟩

theorem eqs_ok {neg : Bool} {t : TypeId} {ox oy : Operand} {a b : Bool} (hu : P.underlying t = some .bool) :
    (do eqGuard (if neg then .neq else .eql) t ox oy (.bool a) (.bool b); binOp (if neg then .neq else .eql) t (.bool a) (.bool b) : Sem Value).run P w = .ok (.bool (if neg then !(a == b) else a == b)) w := by
  simp only [Sem.run_bind, run_eqGuard_plain _ t ox oy (.bool a) (.bool b) (fun _ h => by cases h) (fun h => by cases h), Result.andThen_ok]
  cases neg <;> simp [binOp, run_equal_bool w t a b hu]

def NK.fits (k : NK) (d : TypeDesc) : Prop :=
  match k, d with
  | .ptr, .pointer _ | .sl, .slice _ | .mp, .map _ _ | .fn, .func _ _ _ => True
  | _, _ => False

theorem eqn_equal {k : NK} {t : TypeId} {d : TypeDesc} (hu : P.underlying t = some d) (hf : k.fits d) {x y : AV} {r : Bool} {cx cy : Value} (h : aeqn k x y = some r) (hx : VR hp L β x cx) (hy : VR hp L β y cy) (n : Nat) :
    (Op.equalIn (n + 1) t cx cy).run P w = .ok r w ∧ (∀ cs, cx ≠ .agg cs) ∧ cx ≠ .nilIface ∧ (binOp .eql t cx cy = do pure (.bool (← Op.equal t cx cy))) ∧ (binOp .neq t cx cy = do pure (.bool (!(← Op.equal t cx cy)))) := by
  unfold aeqn at h
  split at h <;> cases h <;> cases hx <;> cases hy <;> cases d <;> simp only [NK.fits] at hf
  all_goals refine ⟨by simp [Op.equalIn, run_underlying hu], by simp, by simp, ?_, ?_⟩
  all_goals simp only [binOp]

theorem eqn_ok {k : NK} {neg : Bool} {t : TypeId} {d : TypeDesc} {ox oy : Operand} (hu : P.underlying t = some d) (hf : k.fits d) {x y : AV} {r : Bool} {cx cy : Value} (h : aeqn k x y = some r) (hx : VR hp L β x cx) (hy : VR hp L β y cy) :
    (do eqGuard (if neg then .neq else .eql) t ox oy cx cy; binOp (if neg then .neq else .eql) t cx cy : Sem Value).run P w = .ok (.bool (if neg then !r else r)) w := by
  obtain ⟨h1, h2, h3, h4, h5⟩ := eqn_equal (w := w) hu hf h hx hy 9999
  have h6 : (Op.equal t cx cy).run P w = .ok r w := h1
  simp only [Sem.run_bind, run_eqGuard_plain _ t ox oy cx cy h2 h3, Result.andThen_ok]
  cases neg
  · simp only [if_false, Bool.false_eq_true, h4]; simp [h6]
  · simp only [if_true, h5]; simp [h6]

/-! ### equal cells -/
theorem eqCell_ok {k : SK} {x y : AV} {r : Bool} {cx cy : Value} {t : TypeId} (hu : P.underlying t = some (match k with | .bool => .bool | .int k => .int k | .str => .string)) (h : eqCell k x y = some r) (hx : VR hp L β x cx) (hy : VR hp L β y cy) (n : Nat) :
    (Op.equalIn (n + 1) t cx cy).run P w = .ok r w := by
  cases k with
  | bool =>
    cases hx <;> try (simp [eqCell] at h; done)
    cases hy <;> try (simp [eqCell] at h; done)
    simp [eqCell] at h; subst h
    exact run_equalIn_bool w n t _ _ hu
  | int k =>
    cases hx <;> try (simp [eqCell] at h; done)
    cases hy <;> try (simp [eqCell] at h; done)
    simp only [eqCell] at h
    split at h
    · rename_i hk
      obtain ⟨rfl, rfl⟩ := hk
      cases h
      exact run_equalIn_int w n t _ _ _ _ hu
    · cases h
  | str =>
    cases hx <;> try (simp [eqCell] at h; done)
    cases hy <;> try (simp [eqCell] at h; done)
    simp [eqCell] at h; subst h
    rw [run_equalIn_string w n t _ _ hu, bytes_toList, bytes_toList]

theorem eqCells_append : ∀ {k1 k2 : List SK} {xs ys : List AV} {r : Bool}, eqCells (k1 ++ k2) xs ys = some r →
    ∃ r1 r2, eqCells k1 (xs.take k1.length) (ys.take k1.length) = some r1 ∧ eqCells k2 (xs.drop k1.length) (ys.drop k1.length) = some r2 ∧ r = (r1 && r2)
  | [], k2, xs, ys, r, h => ⟨true, r, by simp [eqCells], by simpa using h, by simp⟩
  | k :: k1, k2, xs, ys, r, h => by
    cases xs with
    | nil => simp [eqCells] at h
    | cons x xs =>
      cases ys with
      | nil => simp [eqCells] at h
      | cons y ys =>
        simp only [List.cons_append, eqCells] at h
        split at h
        · rename_i a b h1 h2
          cases h
          obtain ⟨r1, r2, h3, h4, rfl⟩ := eqCells_append h2
          exact ⟨a && r1, r2, by simp [eqCells, h1, h3], by simpa using h4, by simp [Bool.and_assoc]⟩
        · cases h
theorem eqCells_length : ∀ {ks : List SK} {xs ys : List AV} {r : Bool}, eqCells ks xs ys = some r → xs.length = ks.length ∧ ys.length = ks.length
  | [], [], [], r, h => by simp
  | [], _ :: _, _, r, h => by simp [eqCells] at h
  | [], [], _ :: _, r, h => by simp [eqCells] at h
  | k :: ks, [], _, r, h => by simp [eqCells] at h
  | k :: ks, _ :: _, [], r, h => by simp [eqCells] at h
  | k :: ks, x :: xs, y :: ys, r, h => by
    simp only [eqCells] at h
    split at h
    · rename_i a b h1 h2
      have := eqCells_length h2
      simp [this.1, this.2]
    · cases h

/-- A part of an aggregate. -/
theorem part_agg {t : TypeId} {n off : Nat} {vs : Array Value} {as : List AV} (hq : aggOf P t = some (some n)) (hR : RL hp L β as vs.toList) : ∃ us : Array Value, (part t vs off).run P w = .ok (.agg us) w ∧ RL hp L β ((as.drop off).take n) us.toList := by
  obtain ⟨q1, q2⟩ := aggOf_some (w := w) hq
  refine ⟨vs.extract off (off + n), ?_, ?_⟩
  · simp only [part, Sem.run_bind, q1, Result.andThen_ok, if_true, q2, Sem.run_pure]
  · have := (hR.drop off).take n
    simpa [List.extract_eq_take_drop] using this
theorem part_one {t : TypeId} {off : Nat} {vs : Array Value} {as : List AV} {c : AV} (hq : aggOf P t = some none) (hR : RL hp L β as vs.toList) (hc : as[off]? = some c) : ∃ v, (part t vs off).run P w = .ok v w ∧ VR hp L β c v := by
  obtain ⟨v, h1, h2⟩ := hR.get hc
  refine ⟨v, ?_, h2⟩
  have h3 : vs[off]? = some v := by simpa using h1
  simp [part, Sem.run_bind, aggOf_none hq, h3]

/-- '==' of flat structs: cell by cell. -/
theorem eqf_ok : ∀ (d : Nat) (t : TypeId) (ks : List SK), flatK P d t = some ks → ∀ (n : Nat) (xs ys : List AV) (r : Bool), d ≤ n → eqCells ks xs ys = some r →
    (∀ k x y cx cy, ks = [k] → xs = [x] → ys = [y] → VR hp L β x cx → VR hp L β y cy → aggOf P t = some none → (Op.equalIn n t cx cy).run P w = .ok r w) ∧
    (∀ (vx vy : Array Value), (∃ m, aggOf P t = some m ∧ m.isSome) → RL hp L β xs vx.toList → RL hp L β ys vy.toList → (Op.equalIn n t (.agg vx) (.agg vy)).run P w = .ok r w) := by
  intro d
  induction d with
  | zero => intro t ks h; simp [flatK] at h
  | succ d ih =>
    intro t ks hk n xs ys r hn he
    obtain ⟨n, rfl⟩ : ∃ m, n = m + 1 := ⟨n - 1, by omega⟩
    unfold flatK at hk
    split at hk
    case h_1 hu =>
      cases hk
      refine ⟨fun k x y cx cy h1 h2 h3 hx hy _ => ?_, fun vx vy ⟨m, hm, hs⟩ => by simp [aggOf, hu] at hm; subst hm; cases hs⟩
      cases h1; subst h2; subst h3
      simp only [eqCells] at he
      split at he
      · rename_i a b h4 h5; cases h5; cases he; rw [Bool.and_true]; exact eqCell_ok (k := .bool) hu h4 hx hy n
      · cases he
    case h_2 k0 hu =>
      cases hk
      refine ⟨fun k x y cx cy h1 h2 h3 hx hy _ => ?_, fun vx vy ⟨m, hm, hs⟩ => by simp [aggOf, hu] at hm; subst hm; cases hs⟩
      cases h1; subst h2; subst h3
      simp only [eqCells] at he
      split at he
      · rename_i a b h4 h5; cases h5; cases he; rw [Bool.and_true]; exact eqCell_ok (k := .int k0) hu h4 hx hy n
      · cases he
    case h_3 hu =>
      cases hk
      refine ⟨fun k x y cx cy h1 h2 h3 hx hy _ => ?_, fun vx vy ⟨m, hm, hs⟩ => by simp [aggOf, hu] at hm; subst hm; cases hs⟩
      cases h1; subst h2; subst h3
      simp only [eqCells] at he
      split at he
      · rename_i a b h4 h5; cases h5; cases he; rw [Bool.and_true]; exact eqCell_ok (k := .str) hu h4 hx hy n
      · cases he
    case h_4 fs hu =>
      split at hk
      · cases hk
      · rename_i hsi
        refine ⟨fun k x y cx cy h1 h2 h3 hx hy ha => ?_, fun vx vy _ hx hy => ?_⟩
        · simp [aggOf, hu] at ha
        · have hfo : P.fieldsOf t = fs := by simp [Program.fieldsOf, hu]
          rw [run_equalIn_struct w n t vx vy (by rw [hfo]; exact hu) (by simpa using hsi), hfo]
          -- along the fields
          have key : ∀ (l : List Field) (off : Nat) (ks : List SK) (r : Bool), flatFs P (flatK P d) off l = some ks → eqCells ks (xs.drop off) (ys.drop off) = some r → (Op.eqFields n vx vy l).run P w = .ok r w := by
            intro l
            induction l with
            | nil =>
              intro off ks r h1 h2
              simp [flatFs] at h1; subst h1
              have hl := eqCells_length h2
              cases hxs : xs.drop off with
              | cons a b => rw [hxs] at hl; simp at hl
              | nil =>
                cases hys : ys.drop off with
                | cons a b => rw [hys] at hl; simp at hl
                | nil => rw [hxs, hys] at h2; simp [eqCells] at h2; subst h2; simp [Op.eqFields]
            | cons f l ihl =>
              intro off ks r h1 h2
              simp only [flatFs] at h1
              split at h1
              · cases h1
              · rename_i hnm
                cases hf : flatK P d f.type with
                | none => simp [hf] at h1
                | some k1 =>
                  simp only [hf] at h1
                  split at h1
                  · rename_i hsz
                    cases hrest : flatFs P (flatK P d) (off + k1.length) l with
                    | none => simp [hrest] at h1
                    | some k2 =>
                      simp only [hrest] at h1
                      cases h1
                      obtain ⟨r1, r2, h3, h4, rfl⟩ := eqCells_append h2
                      rw [List.drop_drop, List.drop_drop] at h4
                      have h5 := ihl _ _ _ hrest h4
                      have hoff : f.offset = off := by
                        by_cases h6 : f.offset = off
                        · exact h6
                        · exact absurd (Or.inr h6) hnm
                      have hname : f.name ≠ "_" := fun h6 => hnm (Or.inl h6)
                      obtain ⟨h6, h7⟩ := ih f.type k1 hf n ((xs.drop off).take k1.length) ((ys.drop off).take k1.length) r1 (by omega) h3
                      have hstep : ∃ a b, (part f.type vx f.offset).run P w = .ok a w ∧ (part f.type vy f.offset).run P w = .ok b w ∧ (Op.equalIn n f.type a b).run P w = .ok r1 w := by
                        cases ha : aggOf P f.type with
                        | none =>
                          exfalso
                          cases d with
                          | zero => simp [flatK] at hf
                          | succ d =>
                            unfold flatK at hf
                            unfold aggOf at ha
                            cases hu2 : P.underlying f.type with
                            | none => simp [hu2] at hf
                            | some dd => cases dd <;> simp [hu2] at hf ha <;> rw [hsz] at ha <;> cases ha
                        | some m =>
                          cases m with
                          | none =>
                            have hlen1 : ∃ k, k1 = [k] := by
                              cases d with
                              | zero => simp [flatK] at hf
                              | succ d =>
                                unfold flatK at hf
                                unfold aggOf at ha
                                cases hu2 : P.underlying f.type with
                                | none => simp [hu2] at hf
                                | some dd =>
                                  cases dd <;> simp [hu2] at hf ha
                                  · exact ⟨_, hf.symm⟩
                                  · exact ⟨_, hf.symm⟩
                                  · exact ⟨_, hf.symm⟩
                            obtain ⟨k, rfl⟩ := hlen1
                            have hl3 := eqCells_length h3
                            match hxa : (xs.drop off).take [k].length, hya : (ys.drop off).take [k].length, hl3 with
                            | [a], [b], _ =>
                              have hga : xs[off]? = some a := by
                                have : ((xs.drop off).take [k].length)[0]? = some a := by rw [hxa]; rfl
                                simpa [List.getElem?_take, List.getElem?_drop] using this
                              have hgb : ys[off]? = some b := by
                                have : ((ys.drop off).take [k].length)[0]? = some b := by rw [hya]; rfl
                                simpa [List.getElem?_take, List.getElem?_drop] using this
                              obtain ⟨va, p1, q1⟩ := part_one (P := P) (w := w) ha hx hga
                              obtain ⟨vb, p2, q2⟩ := part_one (P := P) (w := w) ha hy hgb
                              rw [hoff]
                              exact ⟨va, vb, p1, p2, h6 k a b va vb rfl hxa hya q1 q2 ha⟩
                          | some m =>
                            have hm : m = k1.length := by
                              unfold aggOf at ha
                              cases hu2 : P.underlying f.type with
                              | none => simp [hu2] at ha
                              | some dd =>
                                cases dd <;> simp [hu2] at ha
                                all_goals (rw [hsz] at ha; cases ha; rfl)
                            subst hm
                            obtain ⟨ua, p1, q1⟩ := part_agg (P := P) (w := w) (off := off) ha hx
                            obtain ⟨ub, p2, q2⟩ := part_agg (P := P) (w := w) (off := off) ha hy
                            rw [hoff]
                            exact ⟨_, _, p1, p2, h7 ua ub ⟨_, ha, rfl⟩ q1 q2⟩
                      obtain ⟨a, b, p1, p2, p3⟩ := hstep
                      simp only [Op.eqFields, hname, ne_eq, not_false_eq_true, if_true, Sem.run_bind, p1, p2, p3, Result.andThen_ok]
                      cases r1
                      · simp
                      · simpa using h5
                  · cases h1
          exact key fs.toList 0 ks r hk (by simpa using he)
    case h_5 => cases hk
end
end Go.Eng
