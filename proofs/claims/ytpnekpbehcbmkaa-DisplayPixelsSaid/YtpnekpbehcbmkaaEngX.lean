/- Further operations: conversions between strings and slices of letters or bytes. -/
import Derived.Test.YtpnekpbehcbmkaaEngI
import Derived.Laws.Cover4
import Derived.Laws.IdiomStrings
import Derived.Laws.BytesArg
set_option linter.unusedSimpArgs false
set_option linter.unusedVariables false
set_option linter.unnecessarySimpa false
namespace Go.Eng

theorem runesFrom_asc (l : List UInt8) (hl : ∀ b ∈ l, b.toNat < 128) : ∀ (bound i : Nat) (acc : Array Value), i ≤ l.length → l.length - i ≤ bound →
    Conv.runesFrom ⟨l.toArray⟩ bound i acc = acc ++ ((l.drop i).map fun b => Value.int .i32 (b.toNat : Int)).toArray := by
  intro bound
  induction bound with
  | zero =>
    intro i acc hi hb
    have : l.drop i = [] := List.drop_eq_nil_of_le (by omega)
    simp [Conv.runesFrom, this]
  | succ n ih =>
    intro i acc hi hb
    unfold Conv.runesFrom
    have hs : (⟨l.toArray⟩ : ByteArray).size = l.length := bytes_size l
    by_cases h : i < l.length
    · rw [if_pos (by rw [hs]; exact h)]
      have hget : ((⟨l.toArray⟩ : ByteArray).get! (i + 0)) = l[i] := by
        simp [ByteArray.get!, getElem!_def, List.getElem?_eq_getElem h]
      have hd : Utf8.decode ⟨l.toArray⟩ i = (l[i].toNat, 1) := by
        unfold Utf8.decode
        simp only [hget]
        rw [if_pos (hl _ (List.getElem_mem h))]
      rw [hd]
      simp only
      rw [ih (i + 1) _ (by omega) (by omega), List.drop_eq_getElem_cons h, List.map_cons]
      generalize (List.map (fun b => Value.int IntKind.i32 (b.toNat : Int)) (List.drop (i + 1) l)) = r
      simp
    · rw [if_neg (by rw [hs]; exact h)]
      have : l.drop i = [] := List.drop_eq_nil_of_le (by omega)
      simp [this]

theorem asc_spec {l : List UInt8} (h : asc l = true) : ∀ b ∈ l, b.toNat < 128 := by
  intro b hb
  have := List.all_eq_true.1 h b hb
  simpa [Nat.blt_eq] using this

section
variable {hp : Array Obj} {L : Nat → Prop} {β : Bl}
theorem runesOf_RL : ∀ (l : List UInt8), RL hp L β (runesOf l) (l.map fun b => Value.int .i32 (b.toNat : Int))
  | [] => RL.nil
  | b :: l => RL.cons (.int _ _) (runesOf_RL l)
theorem runesOf_length : ∀ (l : List UInt8), (runesOf l).length = l.length
  | [] => rfl
  | _ :: l => by simp [runesOf, runesOf_length l]

theorem ascI_RL : ∀ {cs : List AV} {s : List UInt8} {vs : List Value}, ascI cs = some s → RL hp L β cs vs → ∃ ns : List Int, vs = ns.map (Value.int .i32) ∧ runesBytes ns = ⟨s.toArray⟩
  | [], s, vs, h, hR => by
    simp [ascI] at h; subst h
    have : vs = [] := by have := hR.1; simp at this; exact List.length_eq_zero_iff.1 this.symm
    subst this
    exact ⟨[], rfl, rfl⟩
  | c :: cs, s, vs, h, hR => by
    match vs, hR with
    | [], hR => exact absurd hR.1 (by simp)
    | v :: vs, hR =>
    have hv := hR.head
    have hR' := hR.tail
    unfold ascI at h
    split at h
    · cases ‹_ :: _ = []›
    · rename_i n r he
      cases he
      split at h
      · rename_i hn
        split at h
        · rename_i l hl
          cases h
          obtain ⟨ns, h1, h2⟩ := ascI_RL hl hR'
          cases hv
          refine ⟨n :: ns, by simp [h1], ?_⟩
          have henc : Utf8.encode n = ⟨#[UInt8.ofNat n.toNat]⟩ := by
            have hv : Utf8.valid n = true := by unfold Utf8.valid; simp; omega
            unfold Utf8.encode
            simp only [hv, if_true]
            rw [if_pos (by omega)]
          have hcons : ∀ (ns : List Int) (x : ByteArray), ns.foldl (fun r n => r ++ Utf8.encode n) x = x ++ ns.foldl (fun r n => r ++ Utf8.encode n) ByteArray.empty := by
            intro ns
            induction ns with
            | nil => intro x; simp
            | cons m ns ih => intro x; rw [List.foldl_cons, ih, List.foldl_cons, ih (ByteArray.empty ++ _)]; simp [ByteArray.append_assoc]
          unfold runesBytes at h2 ⊢
          rw [List.foldl_cons, hcons, h2, henc]
          simp only [ByteArray.empty_append]
          have := bytes_append [UInt8.ofNat n.toNat] l
          simpa using this
        · cases h
      · cases h
    · cases h

theorem bytesI_RL : ∀ {cs : List AV} {s : List UInt8} {vs : List Value}, bytesI cs = some s → RL hp L β cs vs → ∃ ns : List Int, vs = ns.map (Value.int .u8) ∧ (ns.map fun n => UInt8.ofNat n.toNat) = s
  | [], s, vs, h, hR => by
    simp [bytesI] at h; subst h
    have : vs = [] := by have := hR.1; simp at this; exact List.length_eq_zero_iff.1 this.symm
    subst this
    exact ⟨[], rfl, rfl⟩
  | c :: cs, s, vs, h, hR => by
    match vs, hR with
    | [], hR => exact absurd hR.1 (by simp)
    | v :: vs, hR =>
    have hv := hR.head
    have hR' := hR.tail
    unfold bytesI at h
    split at h
    · cases ‹_ :: _ = []›
    · rename_i n r he
      cases he
      split at h
      · rename_i l hl
        cases h
        obtain ⟨ns, h1, h2⟩ := bytesI_RL hl hR'
        cases hv
        exact ⟨n :: ns, by simp [h1], by simp [h2]⟩
      · cases h
    · cases h
end

section
variable {P : Program} {own : Nat → Prop} {β : Bl} {h : AH} {w : World}

theorem load_of_src {a : Addr} {m cap : Nat} {vs : List Value} (hl : vs.length = m * 1) (hf : ∀ n, n ≤ m → ∀ w', w'.heap = w.heap → (Builtin.firstCells 1 n (.slice (some a) m cap)).run P w' = .ok (vs.take (n * 1)).toArray w') :
    (loadCells a m).run P w = .ok vs.toArray w := by
  have := hf m (Nat.le_refl _) w rfl
  rw [List.take_of_length_le (by omega)] at this
  simpa [Builtin.firstCells] using this

theorem s2r_ok (hs : SimH own β h.H h.nx w) {src dst e : TypeId} {s : List UInt8} (h1 : P.underlying src = some .string) (h2 : P.underlying dst = some (.slice e)) (h3 : P.underlying e = some (.int .i32))
    (ha : asc s = true) (hn : s.length ≤ 1000000) : OpOk P own β h w (do pure (.value (← convert src dst (.string ⟨s.toArray⟩)))) (.rsl h.nx 0 s.length 1) (h.add (.cells (runesOf s))) := by
  have hr : Conv.runesFrom ⟨s.toArray⟩ (⟨s.toArray⟩ : ByteArray).size 0 #[] = (s.map fun b => Value.int .i32 (b.toNat : Int)).toArray := by
    rw [runesFrom_asc s (asc_spec ha) _ 0 #[] (Nat.zero_le _) (by rw [bytes_size]; omega)]; simp
  have hrun := run_runes_of_string (P := P) w src dst e ⟨s.toArray⟩ h1 h2 h3 (by rw [hr]; simp; omega)
  rw [hr] at hrun
  obtain ⟨β', g1, g2, g3⟩ := grow_ok (w := w) hs (e := e) (z := 1) (i := default) (zv := .int .i32 0) rfl s.length 0 (by omega) (as := runesOf s) (vs := (s.map fun b => Value.int .i32 (b.toNat : Int)).toArray) (by simpa using runesOf_RL s) (by rw [runesOf_length]; omega)
  have hz : Builtin.zeroCells (Value.int .i32 0).cells (grownCap w s.length 0 e - s.length) = Array.replicate (grownCap w s.length 0 e - s.length) (.int .i32 0) := by
    have hcl : (Value.int .i32 0).cells = #[Value.int .i32 0] := rfl
    rw [hcl]
    apply Array.ext
    · simp [Builtin.zeroCells]
    · intro i h1 h2
      simp [Builtin.zeroCells, Nat.mod_one]
  rw [hz] at g1 g2 g3
  refine ⟨_, _, β', .inl ?_, g1, g2, g3⟩
  simp only [Sem.run_bind, hrun, Result.andThen_ok, Sem.run_pure]
  simp

theorem r2s_ok (hs : SimH own β h.H h.nx w) {src dst e : TypeId} {x : AV} {cx : Value} {cs : List AV} {m : Nat} {s : List UInt8} (h1 : P.underlying src = some (.slice e)) (h2 : P.underlying dst = some .string) (h3 : P.underlying e = some (.int .i32))
    (hx : VR w.heap (LL own β h.H) β x cx) (hc : acells h 1 x = some cs) (hm : alen x = some m) (ha : ascI cs = some s) : OpOk P own β h w (do pure (.value (← convert src dst cx))) (.str s) h := by
  obtain ⟨a, cap, vs, rfl, _, hR, hl, hf⟩ := src_ok (P := P) hs hc hm hx
  obtain ⟨ns, rfl, hb⟩ := ascI_RL ha hR
  refine .still hs (cv := .string ⟨s.toArray⟩) ?_ (.str s)
  simp only [Sem.run_bind, run_convert_runes_string w src dst e a m cap h1 h3 h2]
  cases a with
  | none =>
    have : m = 0 := by
      cases hx <;> simp [alen] at hm <;> omega
    subst this
    have : ns = [] := by simpa using hl
    subst this
    have : (⟨s.toArray⟩ : ByteArray) = .empty := hb.symm
    rw [this]
    rfl
  | some ad =>
    rw [run_runesToString w ad m cap ns (load_of_src hl hf), hb]
    simp

theorem b2s_ok (hs : SimH own β h.H h.nx w) {src dst e : TypeId} {x : AV} {cx : Value} {cs : List AV} {m : Nat} {s : List UInt8} (h1 : P.underlying src = some (.slice e)) (h2 : P.underlying dst = some .string) (h3 : P.underlying e = some (.int .u8))
    (hx : VR w.heap (LL own β h.H) β x cx) (hc : acells h 1 x = some cs) (hm : alen x = some m) (ha : bytesI cs = some s) : OpOk P own β h w (do pure (.value (← convert src dst cx))) (.str s) h := by
  obtain ⟨a, cap, vs, rfl, _, hR, hl, hf⟩ := src_ok (P := P) hs hc hm hx
  obtain ⟨ns, rfl, hb⟩ := bytesI_RL ha hR
  refine .still hs (cv := .string ⟨s.toArray⟩) ?_ (.str s)
  simp only [Sem.run_bind, run_convert_bytes_string w src dst e a m cap h1 h3 h2]
  cases a with
  | none =>
    have : m = 0 := by
      cases hx <;> simp [alen] at hm <;> omega
    subst this
    have : ns = [] := by simpa using hl
    subst this
    simp at hb
    subst hb
    rfl
  | some ad =>
    rw [run_bytesToString w ad m cap ns (load_of_src hl hf), foldl_push_bytes, hb]
    have he0 : ByteArray.empty.data = #[] := rfl
    rw [he0]
    simp
end

section
variable {P : Program} {nt : Nat} {ds : List Deferred} {own : Nat → Prop} {β : Bl} {T : Tm} {h : AH} {a : Act} {w : World}
theorem xop_ok (cl : Handler) (hs : Sim nt ds own β T h a w) {o : Oper} {ao : AOp} {v : AV} {h' : AH} (hc : cX P o.op = some ao) (ha : aop cl T h ao = some (v, h')) : OpOk P own β h w (execOp a.eval o) v h' := by
  have hp := hs.hp
  unfold cX at hc
  split at hc
  case h_2 => cases hc
  rename_i src dst x hop
  simp only [execOp, hop]
  split at hc
  · rename_i e h1 h2
    split at hc
    · rename_i y h3 hy
      cases hc
      have hv := cOpd_ok hs hy
      simp only [aop, List.map_cons, List.map_nil] at ha
      generalize y.ev T = yv at ha hv
      generalize a.eval x = xv at hv
      unfold kX at ha
      split at ha <;> try (cases ‹XK.s2r = _›)
      · rename_i s he
        cases he
        split at ha
        · rename_i hcond
          cases ha
          simp only [Bool.and_eq_true, Nat.ble_eq] at hcond
          cases hv
          exact s2r_ok hp h1 h2 h3 hcond.1 hcond.2
        · cases ha
      · cases ha
    · cases hc
  · rename_i e h1 h2
    split at hc
    · rename_i y h3 hy
      cases hc
      have hv := cOpd_ok hs hy
      simp only [aop, List.map_cons, List.map_nil] at ha
      generalize y.ev T = yv at ha hv
      generalize a.eval x = xv at hv
      simp only [kX] at ha
      split at ha
      · rename_i cs m q1 q2
        split at ha
        · rename_i s q3
          cases ha
          exact r2s_ok hp h1 h2 h3 hv q1 q2 q3
        · cases ha
      · cases ha
    · rename_i y h3 hy
      cases hc
      have hv := cOpd_ok hs hy
      simp only [aop, List.map_cons, List.map_nil] at ha
      generalize y.ev T = yv at ha hv
      generalize a.eval x = xv at hv
      simp only [kX] at ha
      split at ha
      · rename_i cs m q1 q2
        split at ha
        · rename_i s q3
          cases ha
          exact b2s_ok hp h1 h2 h3 hv q1 q2 q3
        · cases ha
      · cases ha
    · cases hc
  · cases hc

theorem op_okX (cl : Handler) (hs : Sim nt ds own β T h a w) {o : Oper} {ao : AOp} {v : AV} {h' : AH} (hc : cOpX P o.op = ao) (ha : aop cl T h ao = some (v, h')) (hnc : ∀ f args, ao ≠ .call f args) :
    OpOk P own β h w (execOp a.eval o) v h' := by
  unfold cOpX at hc
  split at hc
  · rename_i ao' h1
    subst hc
    exact op_ok cl hs h1 ha hnc
  · split at hc
    · rename_i ao' h1
      subst hc
      exact xop_ok cl hs h1 ha
    · subst hc
      simp [aop] at ha
end
end Go.Eng
