/- Operations on maps: makes, look-ups, writes, lengths. -/
import Derived.Test.YtfegfialedlfcaaGreatDoorEngI
import Derived.MapKept
import Derived.ChangeKeysEq
set_option linter.unusedSimpArgs false
set_option linter.unusedVariables false
set_option linter.unnecessarySimpa false
noncomputable section
namespace Go.Eng
open MapKept
def dOf : SK → TypeDesc
  | .bool => .bool
  | .int k => .int k
  | .str => .string

section
variable {P : Program}
theorem skOf_some {t : TypeId} {k : SK} (h : skOf P t = some k) : P.underlying t = some (dOf k) := by
  unfold skOf at h
  split at h <;> first | (cases h; done) | (cases h; assumption)
theorem mapOf_some {t e : TypeId} {k : MK} (h : mapOf P t = some (k, e)) : ∃ kt, P.underlying t = some (.map kt e) ∧ mkOf P kt = some k := by
  unfold mapOf at h
  split at h
  · rename_i kt e' hu
    simp only [Option.map_eq_some_iff] at h
    obtain ⟨s, hs, he⟩ := h
    cases he
    exact ⟨kt, hu, hs⟩
  · cases h
theorem zeroAV_run {t : TypeId} {z : AV} (h : zeroAV P t = some z) (w : World) : ∃ v, (zeroValue t).run P w = .ok v w ∧ cVal v = some z := by
  unfold zeroAV at h
  split at h
  · rename_i i hi
    split at h
    · rename_i v hv
      exact ⟨v, by simp [zeroValue, typeInfo, hi, hv], h⟩
    · cases h
  · cases h
end
section
variable {hp : Array Obj} {L : Nat → Prop} {β : Bl}
theorem keyS_isKey {k : SK} {a : AV} {v : Value} (h : keyS k a = true) (hv : VR hp L β a v) : IsKey (dOf k) v := by
  cases k <;> cases a <;> simp [keyS] at h <;> cases hv <;> simp [dOf, IsKey]
  all_goals exact h
theorem keqS_spec {k : SK} {a b : AV} {x y : Value} (ha : keyS k a = true) (hb : keyS k b = true) (hd : kdS a b = true) (va : VR hp L β a x) (vb : VR hp L β b y) :
    Instr.sameNow (dOf k) x y = some (keqS a b) ∧ (keqS a b = true → x = y) := by
  cases k <;> cases a <;> simp [keyS] at ha <;> cases b <;> simp [keyS] at hb <;> (try (simp [kdS] at hd; done)) <;> cases va <;> cases vb
  · refine ⟨rfl, fun h => ?_⟩
    simp [keqS] at h; rw [h]
  · subst ha; subst hb
    refine ⟨by simp [Instr.sameNow, dOf, keqS], fun h => ?_⟩
    simp [keqS] at h; rw [h]
  · rename_i l c lo hi k' l' c' lo' hi' f g0 q1 q2 f' g0' q1' q2'
    subst ha; subst hb
    simp only [kdS, Bool.and_eq_true, beq_iff_eq] at hd
    obtain ⟨hd1, rfl⟩ := hd
    obtain rfl := linEq_eq hd1
    rw [lin_can g0, lin_can g0']
    exact ⟨by simp [Instr.sameNow, dOf, keqS], fun _ => rfl⟩
  · rename_i s t
    refine ⟨?_, fun h => ?_⟩
    · show some ((⟨s.toArray⟩ : ByteArray) == ⟨t.toArray⟩) = some (s == t)
      congr 1
      rw [Bool.eq_iff_iff, bytes_beq]
      simp
    · simp [keqS] at h; rw [h]

/-- entries -/
def ME (hp : Array Obj) (L : Nat → Prop) (β : Bl) (kvs : List (AV × AV)) (es : List MapEntry) : Prop :=
  es.length = kvs.length ∧ ∀ (i : Nat) (kv : AV × AV) (e : MapEntry), kvs[i]? = some kv → es[i]? = some e → VR hp L β kv.1 e.key ∧ VR hp L β kv.2 e.val
theorem keq_one {k : SK} {a b : AV} (ha : keyS k a = true) : keq a b = keqS a b := by
  cases a <;> first | rfl | (cases k <;> simp [keyS] at ha)
theorem kd_one {k : SK} {a b : AV} (ha : keyS k a = true) : kd a b = kdS a b := by
  cases a <;> first | rfl | (cases k <;> simp [keyS] at ha)
/-- keys of plain cells -/
theorem kfind1_ok {k : SK} {key : AV} {ckey : Value} (hk : keyS k key = true) (hv : VR hp L β key ckey) : ∀ (kvs : List (AV × AV)) (es : List MapEntry) (i : Nat) (r : Option (Nat × AV)), ME hp L β kvs es → kfind (.one k) key kvs i = some r →
    (r = none ∧ Instr.findNow (dOf k) ckey es i = some none) ∨
    (∃ j kv e, r = some (i + j, kv.2) ∧ kvs[j]? = some kv ∧ es[j]? = some e ∧ e.key = ckey ∧ Instr.findNow (dOf k) ckey es i = some (some (i + j, e.val)) ∧ VR hp L β kv.2 e.val)
  | [], es, i, r, hm, h => by
    have : es = [] := List.length_eq_zero_iff.1 hm.1
    subst this
    simp [kfind] at h
    exact .inl ⟨h.symm, rfl⟩
  | kv :: kvs, [], i, r, hm, h => absurd hm.1 (by simp)
  | kv :: kvs, e :: es, i, r, hm, h => by
    have h0 := hm.2 0 kv e rfl rfl
    have hm' : ME hp L β kvs es := ⟨by simpa using hm.1, fun j x y hx hy => hm.2 (j + 1) x y (by simpa using hx) (by simpa using hy)⟩
    unfold kfind at h
    split at h
    · rename_i hkd
      simp only [Bool.and_eq_true] at hkd
      obtain ⟨hk', hd⟩ := hkd
      have hk' : keyS k kv.1 = true := hk'
      rw [kd_one hk] at hd
      obtain ⟨q1, q2⟩ := keqS_spec hk hk' hd hv h0.1
      rw [keq_one hk] at h
      split at h
      · rename_i hq
        cases h
        exact .inr ⟨0, kv, e, rfl, rfl, rfl, (q2 hq).symm, by simp [Instr.findNow, q1, hq], h0.2⟩
      · rename_i hq
        have hq' : keqS key kv.1 = false := by simpa using hq
        rcases kfind1_ok hk hv kvs es (i + 1) r hm' h with ⟨r1, r2⟩ | ⟨j, kv', e', r1, r2, r3, r4, r5, r6⟩
        · exact .inl ⟨r1, by simp [Instr.findNow, q1, hq', r2]⟩
        · exact .inr ⟨j + 1, kv', e', by rw [r1]; simp; omega, by simpa using r2, by simpa using r3, r4, by simp [Instr.findNow, q1, hq', r5]; omega, r6⟩
    · cases h
/-- flat structs: their cells -/
theorem keqS_eqCell {k : SK} {a b : AV} (ha : keyS k a = true) (hb : keyS k b = true) (hd : kdS a b = true) {x y : Value} (va : VR hp L β a x) (vb : VR hp L β b y) : eqCell k a b = some (keqS a b) := by
  cases k <;> cases a <;> simp [keyS] at ha <;> cases b <;> simp [keyS] at hb <;> (try (simp [kdS] at hd; done))
  case int.lin.lin k k1 l c lo hi k2 l' c' lo' hi' =>
    simp only [kdS, Bool.and_eq_true, beq_iff_eq] at hd
    obtain ⟨hd1, rfl⟩ := hd
    obtain rfl := linEq_eq hd1
    subst ha; subst hb
    cases va with
    | lin _ _ _ _ _ f g0 q1 q2 =>
    cases vb with
    | lin _ _ _ _ _ f' g0' q1' q2' =>
    rw [lin_can g0] at q1 q2
    rw [lin_can g0'] at q1' q2'
    simp only [eqCell, keqS, if_true]
    unfold sarI
    simp only [rngI, if_true, cmpR]
    by_cases h1 : hi < lo' ∨ hi' < lo
    · omega
    · rw [if_neg h1]
      by_cases h2 : lo = hi ∧ lo' = hi' ∧ lo = lo'
      · rw [if_pos h2]
      · rw [if_neg h2]; simp [linEq_refl]
  all_goals simp [eqCell, keqS, ha, hb]
theorem keqL_eqCells : ∀ {ks : List SK} {as bs : List AV} {xs ys : List Value}, keysS ks as = true → keysS ks bs = true → kdL as bs = true → RL hp L β as xs → RL hp L β bs ys → eqCells ks as bs = some (keqL as bs)
  | [], [], [], _, _, _, _, _, _, _ => rfl
  | [], _ :: _, _, _, _, h, _, _, _, _ => by simp [keysS] at h
  | [], [], _ :: _, _, _, _, h, _, _, _ => by simp [keysS] at h
  | _ :: _, [], _, _, _, h, _, _, _, _ => by simp [keysS] at h
  | _ :: _, _ :: _, [], _, _, _, h, _, _, _ => by simp [keysS] at h
  | k :: ks, a :: as, b :: bs, [], ys, _, _, _, hx, _ => absurd hx.1 (by simp)
  | k :: ks, a :: as, b :: bs, x :: xs, [], _, _, _, _, hy => absurd hy.1 (by simp)
  | k :: ks, a :: as, b :: bs, x :: xs, y :: ys, ha, hb, hd, hx, hy => by
    simp only [keysS, Bool.and_eq_true] at ha hb
    simp only [kdL, Bool.and_eq_true] at hd
    simp only [eqCells, keqS_eqCell ha.1 hb.1 hd.1 hx.head hy.head, keqL_eqCells ha.2 hb.2 hd.2 hx.tail hy.tail, keqL]
theorem keqL_eq : ∀ {ks : List SK} {as bs : List AV} {xs ys : List Value}, keysS ks as = true → keysS ks bs = true → kdL as bs = true → RL hp L β as xs → RL hp L β bs ys → keqL as bs = true → xs = ys
  | [], [], [], xs, ys, _, _, _, hx, hy, _ => by
    have e1 : xs = [] := List.length_eq_zero_iff.1 (by have := hx.1; simpa using this.symm)
    have e2 : ys = [] := List.length_eq_zero_iff.1 (by have := hy.1; simpa using this.symm)
    rw [e1, e2]
  | [], _ :: _, _, _, _, h, _, _, _, _, _ => by simp [keysS] at h
  | [], [], _ :: _, _, _, _, h, _, _, _, _ => by simp [keysS] at h
  | _ :: _, [], _, _, _, h, _, _, _, _, _ => by simp [keysS] at h
  | _ :: _, _ :: _, [], _, _, _, h, _, _, _, _ => by simp [keysS] at h
  | k :: ks, a :: as, b :: bs, [], ys, _, _, _, hx, _, _ => absurd hx.1 (by simp)
  | k :: ks, a :: as, b :: bs, x :: xs, [], _, _, _, _, hy, _ => absurd hy.1 (by simp)
  | k :: ks, a :: as, b :: bs, x :: xs, y :: ys, ha, hb, hd, hx, hy, hq => by
    simp only [keysS, Bool.and_eq_true] at ha hb
    simp only [keqL, Bool.and_eq_true] at hq
    simp only [kdL, Bool.and_eq_true] at hd
    rw [(keqS_spec ha.1 hb.1 hd.1 hx.head hy.head).2 hq.1, keqL_eq ha.2 hb.2 hd.2 hx.tail hy.tail hq.2]
theorem keysS_len : ∀ {ks : List SK} {as : List AV}, keysS ks as = true → as.length = ks.length
  | [], [], _ => rfl
  | [], _ :: _, h => by simp [keysS] at h
  | _ :: _, [], h => by simp [keysS] at h
  | k :: ks, a :: as, h => by simp only [keysS, Bool.and_eq_true] at h; simp [keysS_len h.2]
theorem keysS_get : ∀ {ks : List SK} {as : List AV} {i : Nat} {k : SK} {a : AV}, keysS ks as = true → ks[i]? = some k → as[i]? = some a → keyS k a = true
  | [], _, _, _, _, _, h, _ => by simp at h
  | _ :: _, [], _, _, _, h, _, _ => by simp [keysS] at h
  | k :: ks, a :: as, 0, _, _, h, h1, h2 => by
    simp only [keysS, Bool.and_eq_true] at h
    simp at h1 h2; subst h1; subst h2; exact h.1
  | k :: ks, a :: as, i + 1, _, _, h, h1, h2 => by
    simp only [keysS, Bool.and_eq_true] at h
    simp at h1 h2
    exact keysS_get h.2 h1 h2
end
section
variable {P : Program} {hp : Array Obj} {L : Nat → Prop} {β : Bl}
theorem mkOf_one {t : TypeId} {k : SK} (h : mkOf P t = some (.one k)) : P.underlying t = some (dOf k) := by
  unfold mkOf at h
  split at h
  · rename_i k' hk; cases h; exact skOf_some hk
  · split at h
    · split at h
      · simp at h
      · cases h
    · split at h
      · simp at h
      · cases h
    · cases h
theorem mkOf_st {t : TypeId} {ks : List SK} (h : mkOf P t = some (.st ks)) : (∃ fs n, P.underlying t = some (.struct fs) ∧ flatK P 2 t = some ks ∧ (∀ f ∈ fs.toList, ∃ k, skOf P f.type = some k) ∧ szOf P t = some n) ∨
    ∃ n e k, P.underlying t = some (.array n e) ∧ szOf P e = some 1 ∧ skOf P e = some k ∧ ks = List.replicate n k := by
  unfold mkOf at h
  split at h
  · cases h
  · split at h
    · rename_i fs hu
      split at h
      · rename_i hc
        simp only [Bool.and_eq_true] at hc
        simp only [Option.map_eq_some_iff] at h
        obtain ⟨ks', h1, h2⟩ := h
        cases h2
        obtain ⟨n, hn⟩ := Option.isSome_iff_exists.1 hc.2
        exact .inl ⟨fs, n, hu, h1, fun f hf => Option.isSome_iff_exists.1 (List.all_eq_true.1 hc.1 f hf), hn⟩
      · cases h
    · rename_i n e hu
      split at h
      · rename_i hc
        simp only [Option.map_eq_some_iff] at h
        obtain ⟨k, h1, h2⟩ := h
        cases h2
        exact .inr ⟨n, e, k, hu, hc, h1, rfl⟩
      · cases h
    · cases h
theorem flatK1 {t : TypeId} {k : SK} {ks : List SK} (hk : skOf P t = some k) (h : flatK P 1 t = some ks) : ks = [k] ∧ aggOf P t = some none := by
  have hu := skOf_some hk
  unfold flatK at h
  rw [hu] at h
  cases k <;> simp [dOf] at h hu <;> exact ⟨h.symm, by simp [aggOf, hu]⟩
theorem check_fields {cs : List AV} {vs : Array Value} (hv : RL hp L β cs vs.toList) (e : Bool) (w : World) : ∀ (l : List Field) (off : Nat) (ks : List SK), (∀ f ∈ l, ∃ k, skOf P f.type = some k) → flatFs P (flatK P 1) off l = some ks → keysS ks (cs.drop off) = true →
    (do
      for f in l do
        if f.name ≠ "_" then Instr.checkKey e 9999 f.type (← part f.type vs f.offset) : Sem Unit).run P w = .ok () w
  | [], off, ks, _, _, _ => by simp
  | f :: l, off, ks, hs, h, hk => by
    simp only [flatFs] at h
    split at h
    · cases h
    · rename_i hnm
      split at h
      · rename_i k1 hf
        obtain ⟨k, hsk⟩ := hs f (by simp)
        obtain ⟨rfl, hag⟩ := flatK1 hsk hf
        split at h
        · split at h
          · rename_i r hr
            cases h
            cases hcd : cs.drop off with
            | nil => rw [hcd] at hk; simp [keysS] at hk
            | cons a as =>
            rw [hcd] at hk
            simp only [List.singleton_append, keysS, Bool.and_eq_true] at hk
            have ha : cs[off]? = some a := by
              have := congrArg (fun l => l[0]?) hcd
              simpa [List.getElem?_drop] using this
            have hoff : f.offset = off := by
              have : ¬ (f.name = "_" ∨ f.offset ≠ off) := hnm
              omega
            have hname : f.name ≠ "_" := fun he => hnm (.inl he)
            obtain ⟨v, h1, h2⟩ := part_one (P := P) (w := w) (t := f.type) (off := off) hag hv ha
            have hck := run_checkKey (P := P) (w := w) (skOf_some hsk) (keyS_isKey hk.1 h2) e 9998
            have hrest := check_fields hv e w l (off + 1) r (fun g hg => hs g (by simp [hg])) hr (by
              have : cs.drop (off + 1) = as := by rw [← List.drop_drop, hcd]; rfl
              rw [this]; exact hk.2)
            rw [List.forIn_cons]
            simp only [Sem.run_bind, hoff, hname, ne_eq, not_false_eq_true, if_true, h1, Result.andThen_ok, hck, Sem.run_pure]
            simp only [Sem.run_bind, Sem.run_pure, ne_eq] at hrest
            exact hrest
          · cases h
        · cases h
      · cases h
theorem sk_agg {t : TypeId} {k : SK} (hk : skOf P t = some k) : aggOf P t = some none := by
  have hu := skOf_some hk
  cases k <;> simp [dOf] at hu <;> simp [aggOf, hu]
theorem check_items {cs : List AV} {vs : Array Value} (hv : RL hp L β cs vs.toList) (em : Bool) (w : World) {e : TypeId} {k : SK} (hk : skOf P e = some k) (hz : szOf P e = some 1) : ∀ (m off : Nat), keysS (List.replicate m k) (cs.drop off) = true →
    (do
      for i in List.range' off m do
        Instr.checkKey em 9999 e (← part e vs (i * (← sizeOf e))) : Sem Unit).run P w = .ok () w
  | 0, off, _ => by simp
  | m + 1, off, hks => by
    cases hcd : cs.drop off with
    | nil => rw [hcd] at hks; simp [List.replicate_succ, keysS] at hks
    | cons a as =>
    rw [hcd] at hks
    simp only [List.replicate_succ, keysS, Bool.and_eq_true] at hks
    have ha : cs[off]? = some a := by
      have := congrArg (fun l => l[0]?) hcd
      simpa [List.getElem?_drop] using this
    obtain ⟨v, h1, h2⟩ := part_one (P := P) (w := w) (t := e) (off := off) (sk_agg hk) hv ha
    have hck := run_checkKey (P := P) (w := w) (skOf_some hk) (keyS_isKey hks.1 h2) em 9998
    have hrest := check_items hv em w hk hz m (off + 1) (by
      have : cs.drop (off + 1) = as := by rw [← List.drop_drop, hcd]; rfl
      rw [this]; exact hks.2)
    simp only [Sem.run_bind, Sem.run_pure] at hrest
    simp only [List.range'_succ, List.forIn_cons, Sem.run_bind, szOf_some hz, Result.andThen_ok, Nat.mul_one, h1, hck, Sem.run_pure]
    exact hrest
theorem key_check {kt : TypeId} {k : MK} {key : AV} {ck : Value} (hm : mkOf P kt = some k) (hk : keyOf k key = true) (hv : VR hp L β key ck) (e : Bool) (w : World) : (Instr.checkKey e 10000 kt ck).run P w = .ok () w := by
  cases k with
  | one k => exact run_checkKey (mkOf_one hm) (keyS_isKey hk hv) e 9999
  | st ks =>
    cases key <;> simp [keyOf] at hk
    rename_i cs
    cases hv with
    | agg _ vs hl hx =>
    have hvr : RL hp L β cs vs.toList := ⟨by simpa using hl, fun i c u h1 h2 => hx i c u h1 (by simpa using h2)⟩
    rcases mkOf_st hm with ⟨fs, n, hu, hf, hfs, _⟩ | ⟨n, et, k0, hu, hz, hsk, rfl⟩
    · unfold flatK at hf
      rw [hu] at hf
      simp only at hf
      split at hf
      · cases hf
      · have := check_fields hvr e w fs.toList 0 ks hfs hf (by simpa using hk)
        unfold Instr.checkKey
        simp only [Sem.run_bind, run_underlying hu, Result.andThen_ok]
        simp at this ⊢
        rw [this]
        rfl
    · have := check_items hvr e w hsk hz n 0 (by simpa using hk)
      unfold Instr.checkKey
      simp only [Sem.run_bind, run_underlying hu, Result.andThen_ok]
      simp only [Std.Legacy.Range.forIn_eq_forIn_range', Std.Legacy.Range.size, Nat.sub_zero, Nat.add_one_sub_one, Nat.div_one]
      simp at this ⊢
      rw [this]
      rfl
theorem key_stay {k : MK} {key : AV} {ck : Value} (hk : keyOf k key = true) (hv : VR hp L β key ck) (w : World) : (Instr.keyThatStays ck ck).run P w = .ok ck w := by
  cases k with
  | one k => exact run_keyThatStays (keyS_isKey hk hv)
  | st ks =>
    cases key <;> simp [keyOf] at hk
    rename_i cs
    cases hv with
    | agg _ vs hl hx =>
    have : Instr.sameBits 10000 (.agg vs) (.agg vs) = true := by
      unfold Instr.sameBits
      simp only [BEq.rfl, Bool.true_and, List.all_eq_true]
      intro p hp
      obtain ⟨i, hi, he⟩ := List.mem_iff_getElem.1 hp
      simp only [List.getElem_zip] at he
      subst he
      have hlt : i < vs.toList.length := by simpa using hi
      have hlt' : i < cs.length := by rw [hl]; simpa using hlt
      have hkl := keysS_len hk
      have hks := keysS_get (i := i) hk (List.getElem?_eq_getElem (by omega)) (List.getElem?_eq_getElem hlt')
      exact sameBits_self (keyS_isKey hks (hx i _ _ (List.getElem?_eq_getElem hlt') (by simpa using List.getElem?_eq_getElem hlt))) 9999
    simp [Instr.keyThatStays, this]
theorem eq_items {cs ds : List AV} {vs us : Array Value} (hv : RL hp L β cs vs.toList) (hw : RL hp L β ds us.toList) (w : World) {e : TypeId} {k : SK} (hk : skOf P e = some k) : ∀ (m off : Nat), keysS (List.replicate m k) (cs.drop off) = true → keysS (List.replicate m k) (ds.drop off) = true → kdL (cs.drop off) (ds.drop off) = true →
    (Op.eqItems 9999 e 1 vs us (List.range' off m)).run P w = .ok (keqL (cs.drop off) (ds.drop off)) w
  | 0, off, h1, h2, hd => by
    have e1 : cs.drop off = [] := List.length_eq_zero_iff.1 (keysS_len h1)
    have e2 : ds.drop off = [] := List.length_eq_zero_iff.1 (keysS_len h2)
    rw [e1, e2]
    simp [Op.eqItems, keqL]
  | m + 1, off, h1, h2, hd => by
    cases hcd : cs.drop off with
    | nil => rw [hcd] at h1; simp [List.replicate_succ, keysS] at h1
    | cons a as =>
    cases hdd : ds.drop off with
    | nil => rw [hdd] at h2; simp [List.replicate_succ, keysS] at h2
    | cons b bs =>
    rw [hcd] at h1
    rw [hdd] at h2
    rw [hcd, hdd] at hd
    simp only [List.replicate_succ, keysS, Bool.and_eq_true] at h1 h2
    simp only [kdL, Bool.and_eq_true] at hd
    have ha : cs[off]? = some a := by
      have := congrArg (fun l => l[0]?) hcd
      simpa [List.getElem?_drop] using this
    have hb : ds[off]? = some b := by
      have := congrArg (fun l => l[0]?) hdd
      simpa [List.getElem?_drop] using this
    obtain ⟨x, p1, p2⟩ := part_one (P := P) (w := w) (t := e) (off := off) (sk_agg hk) hv ha
    obtain ⟨y, r1, r2⟩ := part_one (P := P) (w := w) (t := e) (off := off) (sk_agg hk) hw hb
    have heq := eqCell_ok (P := P) (w := w) (k := k) (t := e) (by have := skOf_some hk; cases k <;> exact this) (keqS_eqCell h1.1 h2.1 hd.1 p2 r2) p2 r2 9998
    have hrest := eq_items hv hw w hk m (off + 1) (by
      have : cs.drop (off + 1) = as := by rw [← List.drop_drop, hcd]; rfl
      rw [this]; exact h1.2) (by
      have : ds.drop (off + 1) = bs := by rw [← List.drop_drop, hdd]; rfl
      rw [this]; exact h2.2) (by
      have e1 : cs.drop (off + 1) = as := by rw [← List.drop_drop, hcd]; rfl
      have e2 : ds.drop (off + 1) = bs := by rw [← List.drop_drop, hdd]; rfl
      rw [e1, e2]; exact hd.2)
    rw [← List.drop_drop, ← List.drop_drop, hcd, hdd] at hrest
    simp only [List.drop_one, List.tail_cons] at hrest
    simp only [List.range'_succ, Op.eqItems, Sem.run_bind, Nat.mul_one, p1, r1, Result.andThen_ok, heq, keqL]
    cases hq : keqS a b
    · simp
    · simpa using hrest
theorem find_st {kt : TypeId} {ks : List SK} {cs : List AV} {vs : Array Value} (w : World) (heq : ∀ (ds : List AV) (us : Array Value), keysS ks ds = true → kdL cs ds = true → RL hp L β ds us.toList → (Op.equal kt (.agg vs) (.agg us)).run P w = .ok (keqL cs ds) w) (hk : keysS ks cs = true) (hv : RL hp L β cs vs.toList) :
    ∀ (kvs : List (AV × AV)) (es : List MapEntry) (i : Nat) (r : Option (Nat × AV)), ME hp L β kvs es → kfind (.st ks) (.agg cs) kvs i = some r →
    (r = none ∧ (Instr.findAsking kt (.agg vs) es i).run P w = .ok none w) ∨
    (∃ j kv e, r = some (i + j, kv.2) ∧ kvs[j]? = some kv ∧ es[j]? = some e ∧ e.key = .agg vs ∧ (Instr.findAsking kt (.agg vs) es i).run P w = .ok (some (i + j, e.val)) w ∧ VR hp L β kv.2 e.val)
  | [], es, i, r, hm, h => by
    have : es = [] := List.length_eq_zero_iff.1 hm.1
    subst this
    simp [kfind] at h
    exact .inl ⟨h.symm, rfl⟩
  | kv :: kvs, [], i, r, hm, h => absurd hm.1 (by simp)
  | kv :: kvs, e :: es, i, r, hm, h => by
    have h0 := hm.2 0 kv e rfl rfl
    have hm' : ME hp L β kvs es := ⟨by simpa using hm.1, fun j x y hx hy => hm.2 (j + 1) x y (by simpa using hx) (by simpa using hy)⟩
    unfold kfind at h
    split at h
    · rename_i hkd
      obtain ⟨ek, ev, eb⟩ := e
      obtain ⟨k1, k2⟩ := kv
      simp only [Bool.and_eq_true] at hkd
      obtain ⟨hk', hd⟩ := hkd
      cases k1 <;> simp [keyOf] at hk'
      rename_i ds
      have hd : kdL cs ds = true := hd
      obtain ⟨h01, h02⟩ := h0
      simp only at h01
      cases h01 with
      | agg _ us hl2 hx2 =>
      have hvu : RL hp L β ds us.toList := ⟨by simpa using hl2, fun i c u h1 h2 => hx2 i c u h1 (by simpa using h2)⟩
      have hrun := heq ds us hk' hd hvu
      have hke : keq (.agg cs) (.agg ds) = keqL cs ds := rfl
      rw [hke] at h
      split at h
      · rename_i hq
        cases h
        exact .inr ⟨0, _, _, rfl, rfl, rfl, by rw [show us = vs from by apply Array.ext'; exact (keqL_eq hk hk' hd hv hvu hq).symm], by simp [Instr.findAsking, hrun, hq, Result.andThen], h02⟩
      · rename_i hq
        have hq' : keqL cs ds = false := by simpa using hq
        rcases find_st w heq hk hv kvs es (i + 1) r hm' h with ⟨r1, r2⟩ | ⟨j, kv', e', r1, r2, r3, r4, r5, r6⟩
        · exact .inl ⟨r1, by simp [Instr.findAsking, hrun, hq', r2, Result.andThen]⟩
        · exact .inr ⟨j + 1, kv', e', by rw [r1]; simp; omega, by simpa using r2, by simpa using r3, r4, by simp [Instr.findAsking, hrun, hq', r5, Result.andThen]; omega, r6⟩
    · cases h
theorem kfind_ok {kt : TypeId} {k : MK} {key : AV} {ck : Value} (hmk : mkOf P kt = some k) (hk : keyOf k key = true) (hv : VR hp L β key ck) (w : World) (kvs : List (AV × AV)) (es : List MapEntry) (r : Option (Nat × AV)) (hm : ME hp L β kvs es) (h : kfind k key kvs 0 = some r) :
    (r = none ∧ (Instr.findKey kt ck es).run P w = .ok none w) ∨
    (∃ j kv e, r = some (0 + j, kv.2) ∧ kvs[j]? = some kv ∧ es[j]? = some e ∧ e.key = ck ∧ (Instr.findKey kt ck es).run P w = .ok (some (0 + j, e.val)) w ∧ VR hp L β kv.2 e.val) := by
  cases k with
  | one k =>
    have hd := mkOf_one hmk
    rcases kfind1_ok hk hv kvs es 0 r hm h with ⟨h1, h2⟩ | ⟨j, kv, e, h1, h2, h3, h4, h5, h6⟩
    · exact .inl ⟨h1, run_findKey hd h2⟩
    · exact .inr ⟨j, kv, e, h1, h2, h3, h4, run_findKey hd h5, h6⟩
  | st ks =>
    cases key <;> simp [keyOf] at hk
    rename_i cs
    cases hv with
    | agg _ vs hl hx =>
    have hvr : RL hp L β cs vs.toList := ⟨by simpa using hl, fun i c u h1 h2 => hx i c u h1 (by simpa using h2)⟩
    rcases mkOf_st hmk with ⟨fs, n, hu, hf, _, hsz⟩ | ⟨n, et, k0, hu, hz, hsk, rfl⟩
    · have hfk : (Instr.findKey kt (.agg vs) es).run P w = (Instr.findAsking kt (.agg vs) es 0).run P w := by
        cases es with
        | nil => simp [Instr.findKey, run_underlying hu, Instr.findNow, Instr.findAsking, Result.andThen]
        | cons e es => simp [Instr.findKey, run_underlying hu, Instr.findNow, Instr.sameNow, Result.andThen]
      rw [hfk]
      exact find_st w (fun ds us hd hkd hu2 => (eqf_ok (P := P) (w := w) (hp := hp) (L := L) (β := β) 2 kt ks hf Op.maxDepth cs ds _ (by decide) (keqL_eqCells hk hd hkd hvr hu2)).2 vs us ⟨some n, (by simp [aggOf, hu, hsz]), rfl⟩ hvr hu2) hk hvr kvs es 0 r hm h
    · have hfk : (Instr.findKey kt (.agg vs) es).run P w = (Instr.findAsking kt (.agg vs) es 0).run P w := by
        cases es with
        | nil => simp [Instr.findKey, run_underlying hu, Instr.findNow, Instr.findAsking, Result.andThen]
        | cons e es => simp [Instr.findKey, run_underlying hu, Instr.findNow, Instr.sameNow, Result.andThen]
      rw [hfk]
      refine find_st w (fun ds us hd hkd hu2 => ?_) hk hvr kvs es 0 r hm h
      obtain ⟨i, hi, hi1⟩ : ∃ i, P.info? et = some i ∧ i.size = 1 := by
        unfold szOf at hz
        rw [Option.map_eq_some_iff] at hz
        exact hz
      have hce : P.cellsOf et = 1 := by simp [Program.cellsOf, hi, hi1]
      have := run_equalIn_array (P := P) w 9999 vs us hu hi
      rw [hce, List.range_eq_range'] at this
      show (Op.equalIn (9999 + 1) kt (.agg vs) (.agg us)).run P w = _
      rw [this]
      simpa using eq_items hvr hu2 w hsk n 0 (by simpa using hk) (by simpa using hd) (by simpa using hkd)
end
section
variable {P : Program} {own : Nat → Prop} {β : Bl} {h : AH} {w : World}
theorem mapAt_some {id : Nat} {kvs : List (AV × AV)} (hc : h.mapAt id = some kvs) : h.H.get id = some (.map kvs) := by
  unfold AH.mapAt at hc
  split at hc
  · rename_i cs' hg; cases hc; exact hg
  · cases hc

/-- A live map, as the heap has it. -/
theorem map_obj (hs : SimH own β h.H h.nx w) {id b base : Nat} {kvs : List (AV × AV)} (hc : h.mapAt id = some kvs) (hβ : β id = some (b, base)) :
    ∃ es, w.heap[b]? = some (.map es kvs.length) ∧ es.size = kvs.length ∧ base = 0 ∧
      (∀ (i : Nat) (kv : AV × AV) (e : MapEntry), kvs[i]? = some kv → es[i]? = some e → VR w.heap (LL own β h.H) β kv.1 e.key ∧ VR w.heap (LL own β h.H) β kv.2 e.val ∧ e.born = i) := by
  obtain ⟨b', base', h1, _, h0, es, h2, h3, h4⟩ := hs.obj id _ (mapAt_some hc)
  rw [hβ] at h1; cases h1
  exact ⟨es, h2, h3, h0, h4⟩

theorem ME.of {kvs : List (AV × AV)} {es : Array MapEntry} (h1 : es.size = kvs.length) (h2 : ∀ (i : Nat) (kv : AV × AV) (e : MapEntry), kvs[i]? = some kv → es[i]? = some e → VR w.heap (LL own β h.H) β kv.1 e.key ∧ VR w.heap (LL own β h.H) β kv.2 e.val ∧ e.born = i) :
    ME w.heap (LL own β h.H) β kvs es.toList :=
  ⟨by simpa using h1, fun i kv e hk he => by have := h2 i kv e hk (by simpa using he); exact ⟨this.1, this.2.1⟩⟩

/-- A live map is written. -/
theorem map_write (hs : SimH own β h.H h.nx w) {id b base : Nat} {kvs kvs' : List (AV × AV)} {es es' : Array MapEntry} (hc : h.mapAt id = some kvs) (hβ : β id = some (b, base)) (hb : w.heap[b]? = some (.map es kvs.length)) (hbase : base = 0)
    (hsz : es'.size = kvs'.length) (hr : ∀ (i : Nat) (kv : AV × AV) (e : MapEntry), kvs'[i]? = some kv → es'[i]? = some e → VR w.heap (LL own β h.H) β kv.1 e.key ∧ VR w.heap (LL own β h.H) β kv.2 e.val ∧ e.born = i) :
    SimH own β (h.set id (.map kvs')).H (h.set id (.map kvs')).nx { w with heap := w.heap.setIfInBounds b (.map es' kvs'.length) } ∧ Trans own β h w β (h.set id (.map kvs')) { w with heap := w.heap.setIfInBounds b (.map es' kvs'.length) } := by
  subst hbase
  have hidne : id ≠ h.nx := fun he => by rw [hs.fresh id (by omega)] at hβ; cases hβ
  have hst := heap_set (o' := .map es' kvs'.length) hb
  have hw := hs.writeAs (w' := { w with heap := w.heap.setIfInBounds b (.map es' kvs'.length) }) (mapAt_some hc) hβ id 0 (.inl ⟨rfl, rfl⟩) (.map kvs') (by simp) hst.2
    (fun c1 e1 fz hcc => by rw [hb] at hcc; cases hcc) rfl rfl rfl
    (fun L' β' hl' => ⟨rfl, es', hst.1, hsz, fun i kv e hk he => ⟨(hr i kv e hk he).1.later hl', (hr i kv e hk he).2.1.later hl', (hr i kv e hk he).2.2⟩⟩)
  rw [upd_self β hβ, if_neg hidne] at hw
  have hcg : ∀ j, (h.H.put id (.map kvs')).get j = ((h.H.del id).put id (.map kvs')).get j := by
    intro j
    by_cases hj : j = id
    · subst hj; rw [PM.get_put_same, PM.get_put_same]
    · rw [PM.get_put_ne _ _ hj, PM.get_put_ne _ _ hj, PM.get_del_ne _ hj]
  exact ⟨hw.1.congr hcg, hw.2.congr (fun _ => rfl) hcg⟩

theorem mkmap_ok (hs : SimH own β h.H h.nx w) {s : Sem Value} (hr : s.run P w = .ok (.map (some w.heap.size)) (w.alloc (.map #[] 0))) :
    OpOk P own β h w (do pure (.value (← s))) (.mapv h.nx) (h.add (.map [])) := by
  have hn := hs.newObj (w' := w.alloc (.map #[] 0)) h.nx (hs.fresh _ (Nat.le_refl _)) (.map []) (.map #[] 0) rfl rfl rfl rfl
    (fun hp' L' β' hl hb => ⟨rfl, #[], hb, rfl, fun i kv e hk => by simp at hk⟩)
  have hmx : max h.nx (h.nx + 1) = h.nx + 1 := by omega
  rw [hmx] at hn
  refine ⟨.map (some w.heap.size), _, _, .inl ?_, hn.1, ?_, hn.2.1 (Nat.le_refl _)⟩
  · simp only [Sem.run_bind, hr, Result.andThen_ok, Sem.run_pure]
  · exact .mapv _ _ 0 (upd_same _ _ _ _)

theorem newT_row {H : Hp} {nx : Nat} (hs : SimH own β H nx w) (r : Nat) (hr : β r = none) {t : TypeId} {z : List AV} (hq : zeroOf P t = some z) : ∃ v : Value, (do pure (Next.value (← Instr.alloc t true (.tuple #[]))) : Sem Next).run P w = .ok (.value (.pointer (some ⟨w.heap.size, 0, none⟩))) { w with heap := w.heap.push (.cells v.cells t) } ∧
    SimH own (upd β r w.heap.size 0) (H.put r (.typ (2 * t + 1) z)) (max nx (r + 1)) { w with heap := w.heap.push (.cells v.cells t) } ∧ (nx ≤ r → Trans own β ⟨H, nx⟩ w (upd β r w.heap.size 0) ⟨H.put r (.typ (2 * t + 1) z), max nx (r + 1)⟩ { w with heap := w.heap.push (.cells v.cells t) }) ∧ Trans own β ⟨H, 0⟩ w (upd β r w.heap.size 0) ⟨H.put r (.typ (2 * t + 1) z), 0⟩ { w with heap := w.heap.push (.cells v.cells t) } := by
  obtain ⟨v, h1, h2⟩ := zeroOf_some (P := P) (w := w) hq (hp := w.heap) (L := LL own β H) (β := β)
  have hl : z.length = v.cells.size := by simpa using h2.1
  refine ⟨v, ?_, hs.newObj (w' := { w with heap := w.heap.push (.cells v.cells t) }) r hr (.typ (2 * t + 1) z) (.cells v.cells t) rfl rfl rfl rfl
    (fun hp' L' β' hl' hb => ⟨rfl, v.cells, by rw [half_odd]; exact hb, ⟨by omega, fun _ => by omega⟩, fun i c u hc hu => (h2.2 i c u hc (by simpa using hu)).later hl'⟩)⟩
  simp only [Instr.alloc, newVar, Sem.run_bind, h1, Result.andThen_ok, Sem.run_pure]
  rfl
theorem newT_ok (hs : SimH own β h.H h.nx w) {t : TypeId} {z : List AV} (hq : zeroOf P t = some z) :
    OpOk P own β h w (do pure (.value (← Instr.alloc t true (.tuple #[])))) (.ptr h.nx 0) (h.add (.typ (2 * t + 1) z)) := by
  obtain ⟨v, h1, h2, h3, _⟩ := newT_row hs h.nx (hs.fresh _ (Nat.le_refl _)) hq
  have hmx : max h.nx (h.nx + 1) = h.nx + 1 := by omega
  rw [hmx] at h2 h3
  exact ⟨_, _, _, .inl h1, h2, .ptr _ 0 _ 0 (upd_same _ _ _ _), h3 (Nat.le_refl _)⟩
theorem ifeq_ok (hs : SimH own β h.H h.nx w) {t : TypeId} {ms : Array (String × TypeId)} (hu : P.underlying t = some (.interface ms)) {neg : Bool} {x v : AV} {h' : AH} {cx : Value} {ox : Operand} (ha : kX h (.eqif neg) [x] = some (v, h')) (hv : VR w.heap (LL own β h.H) β x cx) :
    OpOk P own β h w (do pure (Next.value (← (do eqGuard (if neg then .neq else .eql) t ox (.const .nilIface) cx .nilIface; binOp (if neg then .neq else .eql) t cx .nilIface : Sem Value)))) v h' := by
  have e1 : ∀ n, (Op.equalIn (n + 1) t .nilIface .nilIface).run P w = .ok true w := fun n => by simp [Op.equalIn, run_underlying hu]
  have e2 : ∀ n t2 u, (Op.equalIn (n + 1) t (.iface t2 u) .nilIface).run P w = .ok false w := fun n t2 u => by simp [Op.equalIn, run_underlying hu]
  have e3 : (Op.equal t .nilIface .nilIface).run P w = .ok true w := e1 9999
  have e4 : ∀ t2 u, (Op.equal t (.iface t2 u) .nilIface).run P w = .ok false w := fun t2 u => e2 9999 t2 u
  cases x <;> simp only [kX] at ha <;> try (cases ha; done)
  · cases ha
    cases hv
    refine .val hs (cv := .bool (!neg)) ?_ (.bool _)
    cases neg <;> simp [eqGuard, binOp, e3]
  · cases ha
    cases hv
    refine .val hs (cv := .bool neg) ?_ (.bool _)
    cases neg <;> simp [eqGuard, binOp, e4]
theorem VR.mapv_inv {hp : Array Obj} {L : Nat → Prop} {β : Bl} {id : Nat} {v : Value} (hv : VR hp L β (.mapv id) v) : ∃ b base, v = .map (some b) ∧ β id = some (b, base) := by
  cases hv with | mapv _ b base hb => exact ⟨b, base, rfl, hb⟩

theorem mapset_ok (hs : SimH own β h.H h.nx w) {t e : TypeId} {k : MK} {id : Nat} {key x : AV} {cm ck cx : Value} {kvs : List (AV × AV)} {r : Option (Nat × AV)} (ht : mapOf P t = some (k, e)) (hk : keyOf k key = true) (hc : h.mapAt id = some kvs) (hf : kfind k key kvs 0 = some r)
    (hm : VR w.heap (LL own β h.H) β (.mapv id) cm) (hvk : VR w.heap (LL own β h.H) β key ck) (hvx : VR w.heap (LL own β h.H) β x cx) :
    OpOk P own β h w (do Instr.mapUpdate t cm ck cx; pure .skip) .undef (h.set id (.map (match r with | some r => kvs.set r.1 (key, x) | none => kvs ++ [(key, x)]))) := by
  obtain ⟨b, base, rfl, hβ⟩ := hm.mapv_inv
  obtain ⟨kt, hu, hmk⟩ := mapOf_some ht
  obtain ⟨es, hb, hsz, hbase, hen⟩ := map_obj hs hc hβ
  have hck := fun e w => key_check (e := e) (w := w) hmk hk hvk
  have hst := fun w => key_stay (P := P) (w := w) hk hvk
  rcases kfind_ok hmk hk hvk w kvs es.toList r (.of hsz hen) hf with ⟨rfl, h1⟩ | ⟨j, kv, en, rfl, h1, h2, h3, h4, h5⟩
  · have hw := map_write hs (kvs' := kvs ++ [(key, x)]) (es' := es.push { key := ck, val := cx, born := kvs.length }) hc hβ hb hbase (by simp [hsz]) (fun i kv e hk he => by
      rcases Nat.lt_trichotomy i kvs.length with hi | hi | hi
      · rw [List.getElem?_append_left hi] at hk
        rw [Array.getElem?_push, if_neg (by omega)] at he
        exact hen i kv e hk he
      · subst hi
        rw [List.getElem?_append_right (Nat.le_refl _)] at hk
        simp at hk; subst hk
        rw [← hsz, Array.getElem?_push_size] at he
        cases he
        exact ⟨hvk, hvx, hsz⟩
      · have : (kvs ++ [(key, x)])[i]? = none := List.getElem?_eq_none (by simp; omega)
        rw [this] at hk; cases hk)
    refine ⟨Go.undef, _, β, .inr ⟨?_, rfl⟩, hw.1, .undef _, hw.2⟩
    simp [Instr.mapUpdate, run_underlying hu, run_getObj_map hb, hck, h1, run_setObj_map _ hb, Result.andThen]
  · have hj : es[j]? = some en := by simpa using h2
    have hw := map_write hs (kvs' := kvs.set (0 + j) (key, x)) (es' := es.modify j fun e => { e with key := ck, val := cx }) hc hβ hb hbase (by simp [hsz]) (fun i kv' e hk he => by
      rw [Nat.zero_add, List.getElem?_set] at hk
      rw [Array.getElem?_modify] at he
      by_cases hij : j = i
      · subst hij
        rw [if_pos rfl, hj] at he
        cases he
        rw [if_pos rfl] at hk
        split at hk
        · cases hk
          exact ⟨hvk, hvx, (hen j kv en h1 hj).2.2⟩
        · cases hk
      · rw [if_neg hij] at hk he
        exact hen i kv' e hk he)
    refine ⟨Go.undef, _, β, .inr ⟨?_, rfl⟩, hw.1, .undef _, hw.2⟩
    rw [Nat.zero_add] at h4
    simp [Instr.mapUpdate, run_underlying hu, run_getObj_map hb, hck, h4, hj, h3, hst, run_setObj_map _ hb, Result.andThen]

theorem mapget_ok (hs : SimH own β h.H h.nx w) {t e : TypeId} {k : MK} {ok : Bool} {m key z : AV} {cm ck : Value} {kvs : List (AV × AV)} {r : Option (Nat × AV)} (ht : mapOf P t = some (k, e)) (hz : zeroAV P e = some z) (hk : keyOf k key = true) (hc : amap h m = some kvs) (hf : kfind k key kvs 0 = some r)
    (hm : VR w.heap (LL own β h.H) β m cm) (hvk : VR w.heap (LL own β h.H) β key ck) :
    OpOk P own β h w (do pure (.value (← Instr.lookup t cm ck ok))) (match r with | some r => if ok then .tup [r.2, .bool true] else r.2 | none => if ok then .tup [z, .bool false] else z) h := by
  obtain ⟨kt, hu, hmk⟩ := mapOf_some ht
  have hck := fun e w => key_check (e := e) (w := w) hmk hk hvk
  have hst := fun w => key_stay (P := P) (w := w) hk hvk
  obtain ⟨zv, hzr, hzc⟩ := zeroAV_run hz w
  have htup : ∀ (a : AV) (v : Value) (q : Bool), VR w.heap (LL own β h.H) β a v → VR w.heap (LL own β h.H) β (.tup [a, .bool q]) (.tuple #[v, .bool q]) := fun a v q hv => by
    refine .tup _ _ rfl (fun i c u hcc huu => ?_)
    match i with
    | 0 => simp at hcc huu; subst hcc; subst huu; exact hv
    | 1 => simp at hcc huu; subst hcc; subst huu; exact .bool _
    | n + 2 => simp at hcc
  have key : ∃ es : Array MapEntry, ME w.heap (LL own β h.H) β kvs es.toList ∧ ∀ q : Option (Nat × Value), (Instr.findKey kt ck es.toList).run P w = .ok q w →
      (Instr.lookup t cm ck ok).run P w = .ok (match q with | some q => if ok then .tuple #[q.2, .bool true] else q.2 | none => if ok then .tuple #[zv, .bool false] else zv) w := by
    unfold amap at hc
    split at hc
    · cases hc
      cases hm
      refine ⟨#[], ⟨rfl, fun i kv e hk => by simp at hk⟩, fun q hq => ?_⟩
      have hq' : (Instr.findKey kt ck []).run P w = .ok q w := hq
      cases q <;> simp [Instr.lookup, run_underlying hu, hck, hq', hzr, Result.andThen]
    · rename_i id
      obtain ⟨b, base, rfl, hβ⟩ := hm.mapv_inv
      obtain ⟨es, hb, hsz, hbase, hen⟩ := map_obj hs hc hβ
      refine ⟨es, .of hsz hen, fun q hq => ?_⟩
      cases q <;> simp [Instr.lookup, run_underlying hu, run_getObj_map hb, hck, hq, hzr, Result.andThen]
    · cases hc
  obtain ⟨es, hme, hrun⟩ := key
  rcases kfind_ok hmk hk hvk w kvs es.toList r hme hf with ⟨rfl, h1⟩ | ⟨j, kv, en, rfl, h1, h2, h3, h4, h5⟩
  · refine .val hs (hrun _ h1) ?_
    cases ok
    · exact cVal_ok hzc
    · exact htup _ _ _ (cVal_ok hzc)
  · refine .val hs (hrun _ h4) ?_
    cases ok
    · exact h5
    · exact htup _ _ _ h5

theorem maplen_ok (hs : SimH own β h.H h.nx w) {t ty : TypeId} {q : MK × TypeId} {m : AV} {cm : Value} {kvs : List (AV × AV)} (ht : mapOf P t = some q) (hc : amap h m = some kvs) (hm : VR w.heap (LL own β h.H) β m cm) :
    OpOk P own β h w (do pure (.value (← Builtin.len_ #[t] ty #[cm]))) (.int .i64 kvs.length) h := by
  obtain ⟨k, e⟩ := q
  obtain ⟨kt, hu, hmk⟩ := mapOf_some ht
  refine .val hs (cv := .int .i64 kvs.length) ?_ (.int _ _)
  unfold amap at hc
  split at hc
  · cases hc
    cases hm
    simp [Builtin.len_, run_underlying hu, Result.andThen, goInt]
  · rename_i id
    obtain ⟨b, base, rfl, hβ⟩ := hm.mapv_inv
    obtain ⟨es, hb, hsz, hbase, hen⟩ := map_obj hs hc hβ
    simp [Builtin.len_, run_underlying hu, run_getObj_map hb, Result.andThen, goInt, hsz]
  · cases hc

theorem mapent_ok (hs : SimH own β h.H h.nx w) {t e : TypeId} {k : MK} {id : Nat} {key z : AV} {cm ck : Value} {kvs : List (AV × AV)} {r : Option (Nat × AV)} (ht : mapOf P t = some (k, e)) (hz : zeroAV P e = some z) (hk : keyOf k key = true) (hc : h.mapAt id = some kvs) (hf : kfind k key kvs 0 = some r)
    (hm : VR w.heap (LL own β h.H) β (.mapv id) cm) (hvk : VR w.heap (LL own β h.H) β key ck) :
    OpOk P own β h w (do pure (.value (← Instr.mapEntry t cm ck))) (match r with | some r => .tup [r.2, .int .i64 r.1] | none => .tup [z, .int .i64 kvs.length])
      (match r with | some _ => h | none => h.set id (.map (kvs ++ [(key, z)]))) := by
  obtain ⟨b, base, rfl, hβ⟩ := hm.mapv_inv
  obtain ⟨kt, hu, hmk⟩ := mapOf_some ht
  obtain ⟨es, hb, hsz, hbase, hen⟩ := map_obj hs hc hβ
  obtain ⟨zv, hzr, hzc⟩ := zeroAV_run hz w
  have hck := fun e w => key_check (e := e) (w := w) hmk hk hvk
  have hst := fun w => key_stay (P := P) (w := w) hk hvk
  have htup : ∀ (hp' : Array Obj) (L' : Nat → Prop) (β' : Bl) (a : AV) (v : Value) (n : Int), VR hp' L' β' a v → VR hp' L' β' (.tup [a, .int .i64 n]) (.tuple #[v, .int .i64 n]) := fun hp' L' β' a v q hv => by
    refine .tup _ _ rfl (fun i c u hcc huu => ?_)
    match i with
    | 0 => simp at hcc huu; subst hcc; subst huu; exact hv
    | 1 => simp at hcc huu; subst hcc; subst huu; exact .int _ _
    | n + 2 => simp at hcc
  rcases kfind_ok hmk hk hvk w kvs es.toList r (.of hsz hen) hf with ⟨rfl, h1⟩ | ⟨j, kv, en, rfl, h1, h2, h3, h4, h5⟩
  · have hw := map_write hs (kvs' := kvs ++ [(key, z)]) (es' := es.push { key := ck, val := zv, born := kvs.length }) hc hβ hb hbase (by simp [hsz]) (fun i kv e hk he => by
      rcases Nat.lt_trichotomy i kvs.length with hi | hi | hi
      · rw [List.getElem?_append_left hi] at hk
        rw [Array.getElem?_push, if_neg (by omega)] at he
        exact hen i kv e hk he
      · subst hi
        rw [List.getElem?_append_right (Nat.le_refl _)] at hk
        simp at hk; subst hk
        rw [← hsz, Array.getElem?_push_size] at he
        cases he
        exact ⟨hvk, cVal_ok hzc, hsz⟩
      · have : (kvs ++ [(key, z)])[i]? = none := List.getElem?_eq_none (by simp; omega)
        rw [this] at hk; cases hk)
    refine ⟨.tuple #[zv, .int .i64 kvs.length], _, β, .inl ?_, hw.1, htup _ _ _ _ _ _ (cVal_ok hzc), hw.2⟩
    simp [Instr.mapEntry, run_underlying hu, run_getObj_map hb, hck, h1, hzr, run_setObj_map _ hb, Result.andThen, goInt]
  · have hj : es[j]? = some en := by simpa using h2
    rw [Nat.zero_add] at h4
    have hmod : (es.modify j fun e => { e with key := ck }) = es := by
      apply Array.ext_getElem?
      intro i
      rw [Array.getElem?_modify]
      split
      · rename_i hij
        subst hij
        rw [hj, Option.map_some, ← h3]
      · rfl
    have hset : w.heap.setIfInBounds b (.map es kvs.length) = w.heap := by
      apply Array.ext_getElem?
      intro i
      rw [Array.getElem?_setIfInBounds]
      split
      · rename_i hij
        subst hij
        rw [hb, if_pos (lt_of_get hb)]
      · rfl
    refine .val hs (cv := .tuple #[en.val, .int .i64 j]) ?_ ?_
    · have hbn := (hen j kv en h1 hj).2.2
      simp [Instr.mapEntry, run_underlying hu, run_getObj_map hb, hck, h4, hj, h3, hst, run_setObj_map _ hb, hmod, hset, Result.andThen, goInt, hbn]
    · have := htup _ _ _ kv.2 en.val (j : Int) h5
      simpa using this

theorem entst_ok (hs : SimH own β h.H h.nx w) {t : TypeId} {ik : IntKind} {n : Int} {id : Nat} {x : AV} {kv : AV × AV} {cm ci cx : Value} {kvs : List (AV × AV)} (hc : h.mapAt id = some kvs) (hn : 0 ≤ n) (hkv : kvs[n.toNat]? = some kv)
    (hm : VR w.heap (LL own β h.H) β (.mapv id) cm) (hvi : VR w.heap (LL own β h.H) β (.int ik n) ci) (hvx : VR w.heap (LL own β h.H) β x cx) :
    OpOk P own β h w (do Instr.entryStore t cm ci cx; pure .skip) .undef (h.set id (.map (kvs.set n.toNat (kv.1, x)))) := by
  obtain ⟨b, base, rfl, hβ⟩ := hm.mapv_inv
  obtain ⟨es, hb, hsz, hbase, hen⟩ := map_obj hs hc hβ
  cases hvi
  have hlt : n.toNat < kvs.length := (List.getElem?_eq_some_iff.1 hkv).1
  have hfi : es.findIdx? (fun e => (e.born : Int) == n) = some n.toNat := by
    rw [Array.findIdx?_eq_some_iff_getElem]
    refine ⟨by omega, ?_, fun j hj => ?_⟩
    · have := (hen n.toNat kv es[n.toNat] hkv (Array.getElem?_eq_getElem (by omega))).2.2
      simp [this]; omega
    · have := (hen j kvs[j] es[j] (List.getElem?_eq_getElem (by omega)) (Array.getElem?_eq_getElem (by omega))).2.2
      simp [this]; omega
  have hw := map_write hs (kvs' := kvs.set n.toNat (kv.1, x)) (es' := es.modify n.toNat fun e => { e with val := cx }) hc hβ hb hbase (by simp [hsz]) (fun i kv' e hk he => by
    rw [List.getElem?_set] at hk
    rw [Array.getElem?_modify] at he
    by_cases hij : n.toNat = i
    · subst hij
      rw [if_pos rfl] at he
      rw [if_pos rfl, if_pos hlt] at hk
      cases hq : es[n.toNat]? with
      | none => rw [hq] at he; cases he
      | some e0 =>
        rw [hq] at he
        cases he
        cases hk
        have := hen n.toNat kv e0 hkv hq
        exact ⟨this.1, hvx, this.2.2⟩
    · rw [if_neg hij] at hk he
      exact hen i kv' e hk he)
  refine ⟨Go.undef, _, β, .inr ⟨?_, rfl⟩, hw.1, .undef _, hw.2⟩
  simp [Instr.entryStore, run_getObj_map hb, asInt, asIntOf, hfi, run_setObj_map _ hb, Result.andThen]
end
section
variable {P : Program} {own : Nat → Prop} {β : Bl} {h : AH} {w : World}
theorem capz_ok (hs : SimH own β h.H h.nx w) {t ty e : TypeId} (ht : P.underlying t = some (.slice e)) {cs : Value} (hv : VR w.heap (LL own β h.H) β .nilsl cs) :
    OpOk P own β h w (do pure (.value (← Builtin.cap_ #[t] ty #[cs]))) (.int .i64 0) h := by
  cases hv
  exact .val hs (cv := .int .i64 0) (by simp [Builtin.cap_, run_underlying ht, Result.andThen, goInt]) (.int _ _)
theorem slpa_ok (hs : SimH own β h.H h.nx w) {t e : TypeId} {n z id off : Nat} {cs : List AV} {cx : Value} (ha : P.underlying t = some (.array n e)) (hz : szOf P e = some z)
    (hc : h.cellsAt id = some cs) (hl : off + n * z ≤ cs.length) (hn : n ≤ 4611686018427387904) (hv : VR w.heap (LL own β h.H) β (.ptr id off) cx) :
    OpOk P own β h w (do pure (.value (← Instr.sliceAt t cx none none none))) (.rsl id off n z) h := by
  obtain ⟨b, base, cur, e', hg, hβ, hb, hlen, hr⟩ := hs.row hc
  cases hv with
  | ptr _ _ b' base' hβ' =>
    rw [hβ] at hβ'; cases hβ'
    refine .val hs (cv := .slice (some ⟨b, base + off, none⟩) n n) ?_ (VR.rsl id off n z b base n cur e' (0, 0) hβ hb (Nat.le_refl _) (by simp only [maxLen]; omega) (by omega))
    have h0 : (if n = 0 then (⟨b, base + off, none⟩ : Addr) else Addr.add ⟨b, base + off, none⟩ 0) = ⟨b, base + off, none⟩ := by
      split <;> simp [Addr.add]
    simp [Instr.sliceAt, Instr.sliceBounds, run_underlying ha, szOf_some hz, Instr.sureAddr, Result.andThen, h0]
theorem appz_ok (hs : SimH own β h.H h.nx w) {t u ty e : TypeId} {k : IntKind} {z bytes : Nat} {zero : List AV} {n : Int} {cs cx : Value} (ht : P.underlying t = some (.slice e)) (hu : P.underlying u = some (.int k)) (hz : zeroOf P e = some zero) (hsz : szOf P e = some z) (hzl : zero.length = z) (hz0 : z ≠ 0) (hby : byOf P e = some bytes)
    (hn : 0 < n) (hr : roomy n.toNat bytes = true) (hvs : VR w.heap (LL own β h.H) β .nilsl cs) (hvx : VR w.heap (LL own β h.H) β (.int .i64 n) cx) :
    OpOk P own β h w (do pure (.value (← Builtin.append_ #[t, u] ty #[cs, cx]))) (.rsl h.nx 0 n.toNat z) (h.add (.cells (repl n.toNat zero))) := by
  obtain ⟨m, rfl⟩ : ∃ m : Nat, n = m := ⟨n.toNat, by omega⟩
  rw [Int.toNat_natCast] at hr ⊢
  cases hvs
  cases hvx
  obtain ⟨i, zv, hi, hiz, hzc⟩ := zeroOf_info hz
  obtain ⟨zv', hzv, hzR⟩ := zeroOf_some (P := P) (w := w) hz (hp := w.heap) (L := LL own β h.H) (β := β)
  have hzz : zv = zv' := by simp [zeroValue, typeInfo, hi, hiz] at hzv; exact hzv
  subst hzz
  have hisz : i.size = z := by simp [szOf, hi] at hsz; exact hsz
  have hiby : i.bytes = bytes := by simp [byOf, hi] at hby; exact hby
  subst hiby
  obtain ⟨r1, r2⟩ := roomy_spec hr
  have hm0 : 0 < m := by omega
  have hR := repl_RL hzR (by omega) m
  have hzcs : Builtin.zeroCells zv.cells m = ((Array.range (m * zero.length)).map fun i => zv.cells[i % zv.cells.size]!) := by
    unfold Builtin.zeroCells; rw [hzc]
  rw [← hzcs] at hR
  obtain ⟨β', g1, g2, g3⟩ := grow_ok (e := e) (i := i) hs (hzc.trans hzl) m 0 r2 (as := repl m zero) (vs := Builtin.zeroCells zv.cells m) hR (by simp [repl, hzl])
  refine ⟨_, _, β', .inl ?_, g1, g2, g3⟩
  have h63' : ¬ (9223372036854775807 < (m : Int)) := by omega
  have h48 : ¬ (281474976710656 < (m : Int) * (i.bytes : Int)) := by
    have : ((m * i.bytes : Nat) : Int) ≤ 140737488355328 := by omega
    rw [Int.natCast_mul] at this
    omega
  have h48' : ¬ (281474976710656 < Builtin.nextslicecap m 0 * i.bytes) := by
    have := growslice_fits (need := m) (old := 0) (bytes := i.bytes) (by omega) r1
    omega
  have hw : IntKind.i64.wrap (m : Int) = m := wrap64_of (by omega) (by omega)
  have hneg : ¬ ((m : Int) < 0) := by omega
  have hms : ¬ (m * i.size = 0) := by
    intro h; rcases Nat.mul_eq_zero.1 h with h | h <;> omega
  have hm1 : ¬ (m = 0) := by omega
  have his0 : ¬ (i.size = 0) := by omega
  simp [Builtin.append_, run_underlying ht, run_underlying hu, sizeOf, typeInfo, zeroValue, hi, hiz, asInt, asIntOf, hw, hneg, h48, h63', h48', hm1, his0, Question.forced, newRow, grownCap, Builtin.firstCells, Result.andThen]
  rw [if_neg hms]
  rfl
end
section
variable {P : Program} {nt : Nat} {ds : List Deferred} {own : Nat → Prop} {β : Bl} {T : Tm} {h : AH} {a : Act} {w : World}
theorem mop_ok (cl : Handler) (hs : Sim nt ds own β T h a w) {o : Oper} {ao : AOp} {v : AV} {h' : AH} (hc : cM P o.op = some ao) (ha : aop cl T h ao = some (v, h')) : OpOk P own β h w (execOp a.eval o) v h' := by
  have hp := hs.hp
  unfold cM at hc
  split at hc
  · rename_i t x ty hop
    split at hc
    · rename_i ms y hu hy
      cases hc
      have hv := cOpd_ok hs hy
      simp only [aop, List.map_cons, List.map_nil] at ha
      generalize y.ev T = yv at ha hv
      simp only [execOp, hop]
      exact ifeq_ok hp hu (neg := false) (ox := x) ha hv
    · cases hc
  · rename_i t x ty hop
    split at hc
    · rename_i ms y hu hy
      cases hc
      have hv := cOpd_ok hs hy
      simp only [aop, List.map_cons, List.map_nil] at ha
      generalize y.ev T = yv at ha hv
      simp only [execOp, hop]
      exact ifeq_ok hp hu (neg := true) (ox := x) ha hv
    · cases hc
  · rename_i t hop
    simp only [execOp, hop]
    split at hc
    · simp only [Option.map_eq_some_iff] at hc; obtain ⟨z, hz, rfl⟩ := hc
      simp only [aop, List.map_nil, kX] at ha
      cases ha
      exact newT_ok hp hz
    · cases hc
  · -- makeMap
    rename_i t hop
    simp only [execOp, hop]
    cases hc
    simp only [aop, List.map_nil, kX] at ha
    cases ha
    exact mkmap_ok hp (by simp [Instr.makeMap, Result.andThen])
  · rename_i t r hop
    simp only [execOp, hop, Option.map_some]
    split at hc
    · rename_i kt e y hu hy
      cases hc
      have hv := cOpd_ok hs hy
      simp only [aop, List.map_cons, List.map_nil] at ha
      generalize y.ev T = yv at ha hv
      generalize a.eval r = rv at hv ⊢
      cases yv <;> simp only [kX] at ha <;> try (cases ha; done)
      cases ha
      cases hv
      exact mkmap_ok hp (by simp [Instr.makeMap, run_underlying hu, asInt, asIntOf, Result.andThen])
    · cases hc
  case h_6 | h_7 =>
    rename_i t m k x hop
    simp only [execOp, hop]
    split at hc
    · rename_i q m' k' x' hq hm hk hx
      cases hc
      obtain ⟨sk, e⟩ := q
      have hvm := cOpd_ok hs hm
      have hvk := cOpd_ok hs hk
      have hvx := cOpd_ok hs hx
      simp only [aop, List.map_cons, List.map_nil] at ha
      generalize m'.ev T = mv at ha hvm
      generalize k'.ev T = kv at ha hvk
      generalize x'.ev T = xv at ha hvx
      cases mv <;> simp only [kX] at ha <;> try (cases ha; done)
      split at ha
      · rename_i hko
        split at ha
        · rename_i kvs hkvs
          split at ha
          · rename_i r hf
            cases ha
            exact mapset_ok hp hq hko hkvs hf hvm hvk hvx
          · rename_i hf
            cases ha
            exact mapset_ok hp hq hko hkvs hf hvm hvk hvx
          · cases ha
        · cases ha
      · cases ha
    · cases hc
  case h_8 =>
    rename_i t m k ok hop
    simp only [execOp, hop]
    split at hc
    · rename_i q m' k' hq hm hk
      split at hc
      · rename_i z hz
        cases hc
        obtain ⟨sk, e⟩ := q
        have hvm := cOpd_ok hs hm
        have hvk := cOpd_ok hs hk
        simp only [aop, List.map_cons, List.map_nil] at ha
        generalize m'.ev T = mv at ha hvm
        generalize k'.ev T = kv at ha hvk
        simp only [kX] at ha
        split at ha
        · rename_i hko
          split at ha
          · rename_i kvs hkvs
            split at ha
            · rename_i r hf
              cases ha
              exact mapget_ok hp hq hz hko hkvs hf hvm hvk
            · rename_i hf
              cases ha
              exact mapget_ok hp hq hz hko hkvs hf hvm hvk
            · cases ha
          · cases ha
        · cases ha
      · cases hc
    · cases hc
  case h_9 =>
    rename_i t m k hop
    simp only [execOp, hop]
    split at hc
    · rename_i q m' k' hq hm hk
      split at hc
      · rename_i z hz
        cases hc
        obtain ⟨sk, e⟩ := q
        have hvm := cOpd_ok hs hm
        have hvk := cOpd_ok hs hk
        simp only [aop, List.map_cons, List.map_nil] at ha
        generalize m'.ev T = mv at ha hvm
        generalize k'.ev T = kv at ha hvk
        cases mv <;> simp only [kX] at ha <;> try (cases ha; done)
        split at ha
        · rename_i hko
          split at ha
          · rename_i kvs hkvs
            split at ha
            · rename_i r hf
              cases ha
              exact mapent_ok hp hq hz hko hkvs hf hvm hvk
            · rename_i hf
              cases ha
              exact mapent_ok hp hq hz hko hkvs hf hvm hvk
            · cases ha
          · cases ha
        · cases ha
      · cases hc
    · cases hc
  case h_10 =>
    rename_i t m i x hop
    simp only [execOp, hop]
    split at hc
    · rename_i m' i' x' hm hi hx
      cases hc
      have hvm := cOpd_ok hs hm
      have hvi := cOpd_ok hs hi
      have hvx := cOpd_ok hs hx
      simp only [aop, List.map_cons, List.map_nil] at ha
      generalize m'.ev T = mv at ha hvm
      generalize i'.ev T = iv at ha hvi
      generalize x'.ev T = xv at ha hvx
      cases mv <;> simp only [kX] at ha <;> try (cases ha; done)
      cases iv <;> simp only at ha <;> try (cases ha; done)
      split at ha
      · rename_i kvs hkvs
        split at ha
        · rename_i hn
          split at ha
          · rename_i e he
            cases ha
            exact entst_ok hp hkvs hn he hvm hvi hvx
          · cases ha
        · cases ha
      · cases ha
    · cases hc
  case h_11 =>
    rename_i c hop
    split at hc
    · rename_i hcal
      split at hc
      · rename_i x t hxs hts
        split at hc
        · rename_i q y hq hy
          cases hc
          have hv := cOpd_ok hs hy
          simp only [aop, List.map_cons, List.map_nil, kX] at ha
          split at ha
          · rename_i kvs hkvs
            cases ha
            have hx : c.args = #[x] := by rw [← Array.toArray_toList (xs := c.args), hxs]
            have htt : c.argTypes = #[t] := by rw [← Array.toArray_toList (xs := c.argTypes), hts]
            have hlen := maplen_ok (P := P) (ty := o.type) hp hq hkvs hv
            obtain ⟨cv, w', β', hrun, r1, r2, r3⟩ := hlen
            refine ⟨cv, w', β', ?_, r1, r2, r3⟩
            simpa [execOp, hop, resolve, hcal, invoke, builtin, hx, htt] using hrun
          · cases ha
        · cases hc
      · cases hc
    · rename_i hcal
      split at hc
      · rename_i x t hxs hts
        split at hc
        · rename_i e y hu hy
          cases hc
          have hv := cOpd_ok hs hy
          simp only [aop, List.map_cons, List.map_nil] at ha
          generalize y.ev T = yv at ha hv
          cases yv <;> simp only [kX] at ha <;> try (cases ha; done)
          cases ha
          have hx : c.args = #[x] := by rw [← Array.toArray_toList (xs := c.args), hxs]
          have htt : c.argTypes = #[t] := by rw [← Array.toArray_toList (xs := c.argTypes), hts]
          obtain ⟨cv, w', β', hrun, r1, r2, r3⟩ := capz_ok (P := P) (ty := o.type) hp hu hv
          refine ⟨cv, w', β', ?_, r1, r2, r3⟩
          simpa [execOp, hop, resolve, hcal, invoke, builtin, hx, htt] using hrun
        · cases hc
      · cases hc
    · rename_i hcal
      split at hc
      · rename_i s x t u hxs hts
        split at hc
        · rename_i e k s' x' ht hu hs' hx'
          split at hc
          · rename_i zero z by' hzo hsz hby
            split at hc
            · rename_i hcond
              cases hc
              have hvs := cOpd_ok hs hs'
              have hvx := cOpd_ok hs hx'
              simp only [aop, List.map_cons, List.map_nil] at ha
              generalize s'.ev T = sv at ha hvs
              generalize x'.ev T = xv at ha hvx
              unfold kX at ha
              split at ha <;> try (cases ha; done)
              all_goals (rename_i heq1 heq2; cases heq1)
              cases heq2
              split at ha
              · rename_i hn
                split at ha
                · rename_i hr
                  cases ha
                  have hx : c.args = #[s, x] := by rw [← Array.toArray_toList (xs := c.args), hxs]
                  have htt : c.argTypes = #[t, u] := by rw [← Array.toArray_toList (xs := c.argTypes), hts]
                  obtain ⟨cv, w', β', hrun, r1, r2, r3⟩ := appz_ok (P := P) (ty := o.type) hp ht hu hzo hsz hcond.1 hcond.2 hby hn hr hvs hvx
                  refine ⟨cv, w', β', ?_, r1, r2, r3⟩
                  simpa [execOp, hop, resolve, hcal, invoke, builtin, hx, htt] using hrun
                · cases ha
              · cases ha
            · cases hc
          · cases hc
        · cases hc
      · cases hc
    · cases hc
  case h_12 =>
    rename_i t x hop
    simp only [execOp, hop, Option.map_none]
    split at hc
    · rename_i n e y ha' hy
      split at hc
      · rename_i z hz
        cases hc
        have hv := cOpd_ok hs hy
        simp only [aop, List.map_cons, List.map_nil] at ha
        generalize y.ev T = yv at ha hv
        cases yv <;> simp only [kX] at ha <;> try (cases ha; done)
        split at ha
        · rename_i cs hcs
          split at ha
          · rename_i hcond
            cases ha
            simp only [Bool.and_eq_true, Nat.ble_eq] at hcond
            exact slpa_ok hp ha' hz hcs hcond.1 hcond.2 hv
          · cases ha
        · cases ha
      · cases hc
    · cases hc
  · cases hc
end
section
variable {P : Program} {own : Nat → Prop} {β : Bl} {T : Tm} {a : Act} {w : World}
theorem mkmap_at {H : Hp} {nx : Nat} (hs : SimH own β H nx w) (r : Nat) (hr : β r = none) {s : Sem Value} (hrun : s.run P w = .ok (.map (some w.heap.size)) (w.alloc (.map #[] 0))) :
    OpAt P own β H nx w (do pure (.value (← s))) (.mapv r) (.map []) r := by
  have hn := hs.newObj (w' := w.alloc (.map #[] 0)) r hr (.map []) (.map #[] 0) rfl rfl rfl rfl
    (fun hp' L' β' hl hb => ⟨rfl, #[], hb, rfl, fun i kv e hk => by simp at hk⟩)
  refine ⟨.map (some w.heap.size), _, ?_, hn.1, .mapv _ _ 0 (upd_same _ _ _ _), hn.2⟩
  simp only [Sem.run_bind, hrun, Result.andThen_ok, Sem.run_pure]
theorem alloc_opX {H : Hp} {nx : Nat} (hs : SimH own β H nx w) (hρ : ∀ x y, cOpd x = some y → VR w.heap (LL own β H) β (y.ev T) (a.eval x)) {o : Oper} {ao : AOp} {ob : AObj} {mk : Nat → AV} (hc : cOpX P o.op = ao) (ha : aalloc T ao = some (ob, mk)) (r : Nat) (hr : β r = none) :
    OpAt P own β H nx w (execOp a.eval o) (mk r) ob r := by
  unfold cOpX at hc
  split at hc
  · rename_i ao' h1; subst hc; exact alloc_op hs hρ h1 ha r hr
  · split at hc
    · rename_i ao' h1
      subst hc
      unfold cX at h1
      repeat' (split at h1)
      all_goals first | (cases h1; done) | (cases h1; simp [aalloc, xal] at ha; done)
    · split at hc
      · rename_i ao' h1
        subst hc
        unfold cM at h1
        split at h1
        · split at h1
          · cases h1; simp [aalloc, xal] at ha
          · cases h1
        · split at h1
          · cases h1; simp [aalloc, xal] at ha
          · cases h1
        · rename_i t hop
          split at h1
          · simp only [Option.map_eq_some_iff] at h1; obtain ⟨z, hz, rfl⟩ := h1
            simp only [execOp, hop]
            simp only [aalloc, List.map_nil, xal] at ha
            cases ha
            obtain ⟨v, k1, k2, k3⟩ := newT_row hs r hr hz
            exact ⟨_, _, k1, k2, .ptr _ 0 _ 0 (upd_same _ _ _ _), k3⟩
          · cases h1
        · rename_i t hop
          cases h1
          simp only [execOp, hop]
          simp only [aalloc, List.map_nil, xal] at ha
          cases ha
          exact mkmap_at hs r hr (by simp [Instr.makeMap, Result.andThen])
        · rename_i t r' hop
          simp only [execOp, hop, Option.map_some]
          split at h1
          · rename_i kt e y hu hy
            cases h1
            have hv := hρ _ _ hy
            simp only [aalloc, List.map_cons, List.map_nil] at ha
            generalize y.ev T = yv at ha hv
            generalize a.eval r' = rv at hv ⊢
            cases yv <;> simp only [xal] at ha <;> try (cases ha; done)
            cases ha
            cases hv
            exact mkmap_at hs r hr (by simp [Instr.makeMap, run_underlying hu, asInt, asIntOf, Result.andThen])
          · cases h1
        all_goals (repeat' (split at h1))
        all_goals first | (cases h1; done) | (cases h1; simp [aalloc, xal] at ha; done)
      · subst hc; simp [aalloc] at ha
end
end Go.Eng
end
