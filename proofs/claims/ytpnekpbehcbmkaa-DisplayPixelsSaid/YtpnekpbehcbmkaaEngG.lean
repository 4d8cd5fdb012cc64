/- Each abstract operation stands for the model's operation: parts, indices, slices, append, copy, make. -/
import Derived.Test.YtpnekpbehcbmkaaEngF
set_option linter.unusedSimpArgs false
set_option linter.unusedVariables false
set_option linter.unnecessarySimpa false
namespace Go.Eng

section
variable {P : Program} {hp : Array Obj} {L : Nat → Prop} {β : Bl} {w : World}

theorem apart_ok {t : TypeId} {n : Option Nat} {off : Nat} {as : List AV} {vs : Array Value} {v : AV} (hq : aggOf P t = some n) (h : apart n as off = some v) (hR : RL hp L β as vs.toList) : ∃ cv, (part t vs off).run P w = .ok cv w ∧ VR hp L β v cv := by
  cases n with
  | none => exact part_one hq hR h
  | some n =>
    simp only [apart] at h
    cases hc : cut as off n with
    | none => simp [hc] at h
    | some bs =>
      simp [hc] at h; subst h
      obtain ⟨_, rfl⟩ := cut_some hc
      obtain ⟨us, h1, h2⟩ := part_agg (P := P) (w := w) (off := off) hq hR
      exact ⟨_, h1, RL.agg h2⟩
theorem VR.agg_inv {as : List AV} {cv : Value} (h : VR hp L β (.agg as) cv) : ∃ vs : Array Value, cv = .agg vs ∧ RL hp L β as vs.toList := by
  cases h
  rename_i vs hl h
  exact ⟨vs, rfl, by simpa using hl, fun i c v hc hv => h i c v hc (by simpa using hv)⟩
theorem VR.tup_inv {as : List AV} {cv : Value} (h : VR hp L β (.tup as) cv) : ∃ vs : Array Value, cv = .tuple vs ∧ RL hp L β as vs.toList := by
  cases h
  rename_i vs hl h
  exact ⟨vs, rfl, by simpa using hl, fun i c v hc hv => h i c v hc (by simpa using hv)⟩

theorem aix_some {n j : Nat} {v : AV} (h : aix n v = some j) : ∃ k i, v = .int k i ∧ 0 ≤ i ∧ i < n ∧ j = i.toNat := by
  unfold aix at h
  cases v <;> simp only [aidx] at h <;> try cases h
  rename_i k i
  split at h
  · rename_i hi; cases h; exact ⟨k, i, rfl, hi.1, hi.2, rfl⟩
  · cases h

/-- an address moved on within a variable -/
theorem afldA_ok {off : Nat} {x v : AV} {cx : Value} (hx : VR hp L β x cx) (h : afldA off x = some v) : ∃ b o, cx = .pointer (some ⟨b, o, none⟩) ∧ VR hp L β v (.pointer (some ⟨b, o + off, none⟩)) := by
  cases hx <;> simp only [afldA] at h <;> try cases h
  case gptr.refl g o => exact ⟨g, o, rfl, .gptr g (o + off)⟩
  case ptr id o b base hb => exact ⟨b, base + o, rfl, by rw [Nat.add_assoc]; exact .ptr _ _ _ _ hb⟩
  case pptr cs b o cur e fz hb hL hs hr =>
    split at h
    · cases h
      exact ⟨b, o, rfl, .pptr _ b (o + off) cur e fz hb hL (by simp; omega) fun i c v hc hv => hr (off + i) c v (by rwa [List.getElem?_drop] at hc) (by rw [← hv]; congr 1; omega)⟩
    · cases h

theorem fieldA_ok {s : TypeId} {fs : Array Field} {f n : Nat} {g : Field} {x v : AV} {cx : Value} (hu : P.underlying s = some (.struct fs)) (hg : fs[f]? = some g) (hsz : szOf P g.type = some n) (hn : n ≠ 0) (hx : VR hp L β x cx) (h : afldA g.offset x = some v) :
    ∃ cv, (Instr.fieldAt s cx f).run P w = .ok cv w ∧ VR hp L β v cv := by
  obtain ⟨b, o, rfl, hv⟩ := afldA_ok hx h
  refine ⟨_, ?_, hv⟩
  simp [Instr.fieldAt, Sem.run_bind, run_underlying hu, hg, Instr.sureAddr, fieldPlace, szOf_some hsz, hn, add_lit']

theorem idxArrA_ok {t e : TypeId} {n z j : Nat} {x i v : AV} {cx ci : Value} (hu : P.underlying t = some (.array n e)) (hsz : szOf P e = some z) (hx : VR hp L β x cx) (hi : VR hp L β i ci) (hj : aix n i = some j) (h : afldA (j * z) x = some v) :
    ∃ cv, (Instr.indexAt t cx ci).run P w = .ok cv w ∧ VR hp L β v cv := by
  obtain ⟨k, m, rfl, h1, h2, rfl⟩ := aix_some hj
  cases hi
  obtain ⟨b, o, rfl, hv⟩ := afldA_ok hx h
  refine ⟨_, ?_, hv⟩
  simp [Instr.indexAt, asIntOf, Instr.sureAddr, Sem.run_bind, run_underlying hu, szOf_some hsz, add_lit', h1, h2]

theorem idxA_ok {t e : TypeId} {z : Nat} {x i v : AV} {cx ci : Value} (hu : P.underlying t = some (.slice e)) (hsz : szOf P e = some z) (hx : VR hp L β x cx) (hi : VR hp L β i ci) (h : aidxA z x i = some v) :
    ∃ cv, (Instr.indexAt t cx ci).run P w = .ok cv w ∧ VR hp L β v cv := by
  cases hx <;> simp only [aidxA] at h <;> try cases h
  case psl0 a cap =>
    split at h
    · rename_i hq; obtain ⟨_, _, _, h1, h2, _⟩ := aix_some hq; simp at h2; omega
    · cases h
  case psl xs z' b o cap cur e' fz hb hL hs hz hc hr =>
    cases hj : aix xs.length i with
    | none => simp [hj] at h
    | some j =>
      obtain ⟨k, n, rfl, h1, h2, rfl⟩ := aix_some hj
      simp only [hj] at h
      cases hi
      cases hq : xs[n.toNat]? with
      | none => simp [hq] at h
      | some c =>
        simp only [hq] at h
        split at h
        · rename_i hcl
          cases h
          have hz' : z' = z := by rw [← hz _ _ hq]; exact hcl
          subst hz'
          have hlt : n.toNat < xs.length := (List.getElem?_eq_some_iff.1 hq).1
          refine ⟨.pointer (some ⟨b, o + n.toNat * z', none⟩), ?_, ?_⟩
          · simp [Instr.indexAt, asIntOf, Sem.run_bind, run_underlying hu, szOf_some hsz, add_lit', h1, h2]
          · have hmul : (n.toNat + 1) * z' ≤ xs.length * z' := Nat.mul_le_mul_right _ hlt
            rw [Nat.add_mul, Nat.one_mul] at hmul
            exact .pptr c b _ cur e' fz hb hL (by omega) fun j c' v hc' hv => hr n.toNat c j c' v hq hc' hv
        · cases h
  case rsl id off len z' b base cap cur e' hβ hb hc hm hs =>
    split at h
    · rename_i hz; subst hz
      cases hj : aix len i with
      | none => simp [hj] at h
      | some j =>
        obtain ⟨k, n, rfl, h1, h2, rfl⟩ := aix_some hj
        simp only [hj] at h
        cases h
        cases hi
        refine ⟨.pointer (some ⟨b, base + (off + n.toNat * z'), none⟩), ?_, .ptr _ _ _ _ hβ⟩
        simp [Instr.indexAt, asIntOf, Sem.run_bind, run_underlying hu, szOf_some hsz, add_lit', h1, h2, Nat.add_assoc]
    · cases h
  case rsl0 id off z' b base o hβ =>
    split at h
    · split at h
      · rename_i hq; obtain ⟨_, _, _, h1, h2, _⟩ := aix_some hq; omega
      · cases h
    · cases h

theorem idx_ok {t e : TypeId} {len z j : Nat} {n : Option Nat} {as : List AV} {i v : AV} {cx ci : Value} (hu : P.underlying t = some (.array len e)) (hsz : szOf P e = some z) (hq : aggOf P e = some n) (hx : VR hp L β (.agg as) cx) (hi : VR hp L β i ci)
    (hj : aix len i = some j) (h : apart n as (j * z) = some v) : ∃ cv, (Instr.index t cx ci).run P w = .ok cv w ∧ VR hp L β v cv := by
  obtain ⟨k, m, rfl, h1, h2, rfl⟩ := aix_some hj
  cases hi
  obtain ⟨vs, rfl, hR⟩ := VR.agg_inv hx
  obtain ⟨cv, h3, h4⟩ := apart_ok (P := P) (w := w) hq h hR
  refine ⟨cv, ?_, h4⟩
  simp [Instr.index, asIntOf, Sem.run_bind, run_underlying hu, szOf_some hsz, h1, h2, h3]

theorem idxS_ok {t : TypeId} {s : List UInt8} {j : Nat} {c : UInt8} {i : AV} {ci : Value} (hu : P.underlying t = some .string) (hi : VR hp L β i ci) (hj : aix s.length i = some j) (hc : s[j]? = some c) :
    (Instr.index t (.string ⟨s.toArray⟩) ci).run P w = .ok (.int .u8 c.toNat) w := by
  obtain ⟨k, m, rfl, h1, h2, rfl⟩ := aix_some hj
  cases hi
  have h3 : (⟨s.toArray⟩ : ByteArray)[m.toNat]? = some c := by
    obtain ⟨hlt, hv⟩ := List.getElem?_eq_some_iff.1 hc
    rw [getElem?_pos (⟨s.toArray⟩ : ByteArray) m.toNat (by rw [bytes_size]; exact hlt)]
    congr 1
  simp [Instr.index, asIntOf, Sem.run_bind, run_underlying hu, h1, h3]

theorem abd_some {n d r : Nat} {v : Option AV} (h : abd n v d = some r) : (v = none ∧ r = d) ∨ ∃ k i, v = some (.int k i) ∧ 0 ≤ i ∧ i ≤ n ∧ r = i.toNat := by
  cases v with
  | none => simp [abd] at h; exact .inl ⟨rfl, h.symm⟩
  | some v =>
    right
    cases v <;> simp only [abd, aidx] at h <;> try cases h
    rename_i k i
    split at h
    · rename_i hi; cases h; exact ⟨k, i, rfl, hi.1, hi.2, rfl⟩
    · cases h

/-- optional values -/
def VRO (hp : Array Obj) (L : Nat → Prop) (β : Bl) : Option AV → Option Value → Prop
  | none, none => True
  | some a, some v => VR hp L β a v
  | _, _ => False

/-- The bounds of a slice expression. -/
theorem bounds_ok {isS : Bool} {n cap m hb l : Nat} {lo hi mx : Option AV} {clo chi cmx : Option Value} (hcap : n ≤ cap) (hlo : VRO hp L β lo clo) (hhi : VRO hp L β hi chi) (hmx : VRO hp L β mx cmx)
    (h1 : abd n mx n = some m) (h2 : abd m hi n = some hb) (h3 : abd hb lo 0 = some l) (h4 : (mx.isSome && hi.isNone) = false) :
    ∃ m', (Instr.sliceBounds isS n cap clo chi cmx).run P w = .ok (l, hb, m') w ∧ l ≤ hb ∧ hb ≤ m' ∧ hb ≤ n ∧ m' ≤ cap ∧ (mx.isSome = true → m' = m) ∧ (mx = none → m' = cap) := by
  have hsb : ∀ (k : IntKind) (i : Int) (y : Nat) (code : BoundsCode), 0 ≤ i → i ≤ y → (Instr.sliceBound (.int k i) y code).run P w = .ok i.toNat w := by
    intro k i y code h5 h6
    simp [Instr.sliceBound, asIntOf, h5, h6]
  rcases abd_some h1 with ⟨rfl, rfl⟩ | ⟨k1, i1, rfl, a1, a2, rfl⟩
  · cases cmx <;> simp only [VRO] at hmx
    rcases abd_some h2 with ⟨rfl, rfl⟩ | ⟨k2, i2, rfl, b1, b2, rfl⟩
    · cases chi <;> simp only [VRO] at hhi
      rcases abd_some h3 with ⟨rfl, rfl⟩ | ⟨k3, i3, rfl, c1, c2, rfl⟩
      · cases clo <;> simp only [VRO] at hlo
        exact ⟨cap, by simp [Instr.sliceBounds], by omega, by omega, by omega, by omega, by simp, by simp⟩
      · cases clo <;> simp only [VRO] at hlo
        cases hlo
        exact ⟨cap, by simp [Instr.sliceBounds, hsb _ _ _ _ c1 c2], by omega, by omega, by omega, by omega, by simp, by simp⟩
    · cases chi <;> simp only [VRO] at hhi
      cases hhi
      have b3 : i2 ≤ (cap : Int) := by omega
      rcases abd_some h3 with ⟨rfl, rfl⟩ | ⟨k3, i3, rfl, c1, c2, rfl⟩
      · cases clo <;> simp only [VRO] at hlo
        exact ⟨cap, by simp [Instr.sliceBounds, hsb _ _ _ _ b1 b3], by omega, by omega, by omega, by omega, by simp, by simp⟩
      · cases clo <;> simp only [VRO] at hlo
        cases hlo
        exact ⟨cap, by simp [Instr.sliceBounds, hsb _ _ _ _ b1 b3, hsb _ _ _ _ c1 c2], by omega, by omega, by omega, by omega, by simp, by simp⟩
  · cases cmx <;> simp only [VRO] at hmx
    cases hmx
    have a3 : i1 ≤ (cap : Int) := by omega
    rcases abd_some h2 with ⟨rfl, rfl⟩ | ⟨k2, i2, rfl, b1, b2, rfl⟩
    · simp at h4
    · cases chi <;> simp only [VRO] at hhi
      cases hhi
      rcases abd_some h3 with ⟨rfl, rfl⟩ | ⟨k3, i3, rfl, c1, c2, rfl⟩
      · cases clo <;> simp only [VRO] at hlo
        exact ⟨i1.toNat, by simp [Instr.sliceBounds, hsb _ _ _ _ a1 a3, hsb _ _ _ _ b1 b2], by omega, by omega, by omega, by omega, by simp, by simp⟩
      · cases clo <;> simp only [VRO] at hlo
        cases hlo
        exact ⟨i1.toNat, by simp [Instr.sliceBounds, hsb _ _ _ _ a1 a3, hsb _ _ _ _ b1 b2, hsb _ _ _ _ c1 c2], by omega, by omega, by omega, by omega, by simp, by simp⟩

/-- What a slice's value is in the model. -/
theorem alen_slice {x : AV} {n : Nat} {cx : Value} (hx : VR hp L β x cx) (h : alen x = some n) : ∃ a cap, cx = .slice a n cap ∧ n ≤ cap := by
  cases hx <;> simp only [alen] at h <;> try cases h
  case nilsl => exact ⟨_, _, rfl, Nat.le_refl _⟩
  case esl a => exact ⟨_, _, rfl, Nat.le_refl _⟩
  case psl0 a cap => exact ⟨_, _, rfl, Nat.zero_le _⟩
  case psl => exact ⟨_, _, rfl, by assumption⟩
  case rsl => exact ⟨_, _, rfl, by assumption⟩
  case rsl0 => exact ⟨_, _, rfl, Nat.le_refl _⟩

theorem slice_ok {t e : TypeId} {z : Nat} {x v : AV} {cx : Value} {lo hi mx : Option AV} {clo chi cmx : Option Value} (hu : P.underlying t = some (.slice e)) (hsz : szOf P e = some z) (hx : VR hp L β x cx) (hlo : VRO hp L β lo clo) (hhi : VRO hp L β hi chi) (hmx : VRO hp L β mx cmx)
    (h : aslice z x lo hi mx = some v) : ∃ cv, (Instr.sliceAt t cx clo chi cmx).run P w = .ok cv w ∧ VR hp L β v cv := by
  unfold aslice at h
  split at h
  case h_2 => cases h
  rename_i n hn
  split at h
  case h_2 => cases h
  rename_i m hm
  split at h
  case h_2 => cases h
  rename_i hb hh
  split at h
  case h_2 => cases h
  rename_i l hl
  split at h
  · cases h
  · rename_i h4
    obtain ⟨a, cap, rfl, hcap⟩ := alen_slice hx hn
    obtain ⟨m', hrun, b1, b2, b3, b4, b5, b6⟩ := bounds_ok (P := P) (w := w) (isS := true) hcap hlo hhi hmx hm hh hl (by simpa only [Bool.not_eq_true] using h4)
    refine ⟨.slice (if m' = l then a else a.map (·.add (l * z))) (hb - l) (m' - l), ?_, ?_⟩
    · simp only [Instr.sliceAt, Instr.slice, Sem.run_bind, run_underlying hu, Result.andThen_ok, hrun, szOf_some hsz, Sem.run_pure]
    · cases hx <;> simp only [asl] at h <;> try (cases h; done)
      case nilsl =>
        split at h
        · rename_i h0; cases h
          simp only [alen] at hn; cases hn
          have hm0 : m' = 0 := by omega
          have hl0 : l = 0 := by omega
          subst hm0; subst hl0; subst h0
          exact .nilsl
        · cases h
      case esl =>
        split at h
        · rename_i h0; cases h
          have hm0 : m' = 0 := by omega
          have hl0 : l = 0 := by omega
          subst hm0; subst hl0; subst h0
          exact .esl _
        · cases h
      case psl0 =>
        simp only [alen, List.length_nil] at hn; cases hn
        have hb0 : hb = 0 := by omega
        have hl0 : l = 0 := by omega
        subst hb0; subst hl0
        simp only [List.all_nil, if_true] at h
        cases h
        split
        · rename_i h5
          simp only [Bool.and_eq_true, beq_iff_eq] at h5
          have := b5 h5.1
          rw [show m' = 0 by omega]
          exact .esl _
        · simp only [List.drop_nil, List.take_nil]; exact .psl0 _ _
      case psl xs z' b o cur e' fz hbk hL hs hz hr hc =>
        simp only [alen] at hn
        split at h
        · rename_i hall
          cases h
          split
          · rename_i h5
            simp only [Bool.and_eq_true, beq_iff_eq] at h5
            have := b5 h5.1
            rw [show m' - l = 0 by omega, show hb - l = 0 by omega]
            exact .esl _
          · by_cases h0 : hb - l = 0
            · rw [h0, List.take_zero]; exact .psl0 _ _
            · have hne : ¬ (m' = l) := by omega
              rw [if_neg hne]
              have hzz : z' = z := by
                have h6 : 0 < xs.length := by omega
                have h7 := hz 0 xs[0] (by simp [h6])
                have h8 := List.all_eq_true.1 hall xs[0] (List.getElem_mem h6)
                rw [← h7]; simpa using h8
              subst hzz
              have hlen : ((xs.drop l).take (hb - l)).length = hb - l := by simp; omega
              simp only [Option.map_some, add_lit']
              have key := VR.psl (hp := hp) (L := L) (β := β) ((xs.drop l).take (hb - l)) z' b (o + l * z') (m' - l) cur e' fz hbk hL (by
                  rw [hlen]
                  have h9 : l * z' + (hb - l) * z' ≤ xs.length * z' := by rw [← Nat.add_mul]; exact Nat.mul_le_mul_right _ (by omega)
                  omega) (fun i y hy => by
                  rw [List.getElem?_take] at hy
                  split at hy
                  · rw [List.getElem?_drop] at hy; exact hz _ _ hy
                  · cases hy) (by omega) (fun i y j c v hy hcj hv => by
                  rw [List.getElem?_take] at hy
                  split at hy
                  · rw [List.getElem?_drop] at hy
                    refine hr (l + i) y j c v hy hcj ?_
                    rw [← hv]; congr 1; rw [Nat.add_mul]; omega
                  · cases hy)
              rw [hlen] at key
              exact key
        · cases h
      case rsl id off z' b base cur e' hβ hbk hc hm' hs =>
        split at h
        · rename_i hz; subst hz
          cases h
          split
          · rename_i h5
            simp only [Bool.and_eq_true, beq_iff_eq] at h5
            have := b5 h5.1
            rw [show m' - l = 0 by omega, show hb - l = 0 by omega]
            exact .esl _
          · by_cases hne : m' = l
            · rw [if_pos hne, show hb - l = 0 by omega, show m' - l = 0 by omega]
              exact .rsl0 _ _ _ _ _ _ hβ
            · rw [if_neg hne]
              simp only [Option.map_some, add_lit']
              have h9 : l * z' + (m' - l) * z' ≤ cap * z' := by rw [← Nat.add_mul]; exact Nat.mul_le_mul_right _ (by omega)
              have key := VR.rsl (hp := hp) (L := L) (β := β) id (off + l * z') (hb - l) z' b base (m' - l) cur e' hβ hbk (by omega) (by omega) (by omega)
              rw [← Nat.add_assoc] at key
              exact key
        · cases h
      case rsl0 id off z' b base o hβ =>
        simp only [alen] at hn; cases hn
        have hm0 : m' = 0 := by omega
        have hl0 : l = 0 := by omega
        have hb0 : hb = 0 := by omega
        subst hm0; subst hl0; subst hb0
        split at h
        · rename_i hz; subst hz
          cases h
          split
          · exact .esl _
          · exact .rsl0 _ _ _ _ _ _ hβ
        · cases h

theorem sliceS_ok {t : TypeId} {s r : List UInt8} {lo hi : Option AV} {clo chi : Option Value} (hu : P.underlying t = some .string) (hlo : VRO hp L β lo clo) (hhi : VRO hp L β hi chi) (h : asliceS s lo hi = some r) :
    (Instr.sliceAt t (.string ⟨s.toArray⟩) clo chi none).run P w = .ok (.string ⟨r.toArray⟩) w := by
  unfold asliceS at h
  split at h
  case h_2 => cases h
  rename_i hb hh
  split at h
  case h_2 => cases h
  rename_i l hl
  cases h
  obtain ⟨m', hrun, b1, b2, b3, b4, b5, b6⟩ := bounds_ok (P := P) (w := w) (hp := hp) (L := L) (β := β) (isS := false) (n := s.length) (cap := s.length) (Nat.le_refl _) hlo hhi (mx := none) (cmx := none) trivial rfl hh hl rfl
  have hsz := bytes_size s
  simp only [Instr.sliceAt, Instr.slice, Sem.run_bind, run_underlying hu, Result.andThen_ok, hsz, hrun, Sem.run_pure]
  simp [bytes_extract, hrun]
end
end Go.Eng
