/- Operations on maps: makes, look-ups, writes, lengths. Further operations: conversions between strings and slices of letters or bytes. Draw regions of the abstract interpreter. Operations of a region, in the order of the text and in every other order that is let; definitions, and the first of the two. -/
import Derived.Test.YtoibclpbkjbnbaaGreatEngI
import Derived.MapKept
import Derived.Laws.Cover4
import Derived.Laws.IdiomStrings
import Derived.Laws.BytesArg
set_option linter.unusedSimpArgs false
set_option linter.unusedVariables false
set_option linter.unnecessarySimpa false
noncomputable section
namespace Go.Eng
open MapKept
def dOf : SK → TypeDesc
  | .bool => .bool
  | .int k => .int k
  | .str => .string

section
variable {P : Program}
theorem skOf_some {t : TypeId} {k : SK} (h : skOf P t = some k) : P.underlying t = some (dOf k) := by
  unfold skOf at h
  split at h <;> first | (cases h; done) | (cases h; assumption)
theorem mapOf_some {t e : TypeId} {k : SK} (h : mapOf P t = some (k, e)) : ∃ kt, P.underlying t = some (.map kt e) ∧ P.underlying kt = some (dOf k) := by
  unfold mapOf at h
  split at h
  · rename_i kt e' hu
    simp only [Option.map_eq_some_iff] at h
    obtain ⟨s, hs, he⟩ := h
    cases he
    exact ⟨kt, hu, skOf_some hs⟩
  · cases h
theorem zeroAV_run {t : TypeId} {z : AV} (h : zeroAV P t = some z) (w : World) : ∃ v, (zeroValue t).run P w = .ok v w ∧ cVal v = some z := by
  unfold zeroAV at h
  split at h
  · rename_i i hi
    split at h
    · rename_i v hv
      exact ⟨v, by simp [zeroValue, typeInfo, hi, hv], h⟩
    · cases h
  · cases h
end
section
variable {hp : Array Obj} {L : Nat → Prop} {β : Bl}
theorem keyOf_isKey {k : SK} {a : AV} {v : Value} (h : keyOf k a = true) (hv : VR hp L β a v) : IsKey (dOf k) v := by
  cases k <;> cases a <;> simp [keyOf] at h <;> cases hv <;> simp [dOf, IsKey]
  exact h
theorem keq_spec {k : SK} {a b : AV} {x y : Value} (ha : keyOf k a = true) (hb : keyOf k b = true) (va : VR hp L β a x) (vb : VR hp L β b y) :
    Instr.sameNow (dOf k) x y = some (keq a b) ∧ (keq a b = true → x = y) := by
  cases k <;> cases a <;> simp [keyOf] at ha <;> cases b <;> simp [keyOf] at hb <;> cases va <;> cases vb
  · refine ⟨rfl, fun h => ?_⟩
    simp [keq] at h; rw [h]
  · subst ha; subst hb
    refine ⟨by simp [Instr.sameNow, dOf, keq], fun h => ?_⟩
    simp [keq] at h; rw [h]
  · rename_i s t
    refine ⟨?_, fun h => ?_⟩
    · show some ((⟨s.toArray⟩ : ByteArray) == ⟨t.toArray⟩) = some (s == t)
      congr 1
      rw [Bool.eq_iff_iff, bytes_beq]
      simp
    · simp [keq] at h; rw [h]

/-- entries -/
def ME (hp : Array Obj) (L : Nat → Prop) (β : Bl) (kvs : List (AV × AV)) (es : List MapEntry) : Prop :=
  es.length = kvs.length ∧ ∀ (i : Nat) (kv : AV × AV) (e : MapEntry), kvs[i]? = some kv → es[i]? = some e → VR hp L β kv.1 e.key ∧ VR hp L β kv.2 e.val
theorem kfind_ok {k : SK} {key : AV} {ckey : Value} (hk : keyOf k key = true) (hv : VR hp L β key ckey) : ∀ (kvs : List (AV × AV)) (es : List MapEntry) (i : Nat) (r : Option (Nat × AV)), ME hp L β kvs es → kfind k key kvs i = some r →
    (r = none ∧ Instr.findNow (dOf k) ckey es i = some none) ∨
    (∃ j kv e, r = some (i + j, kv.2) ∧ kvs[j]? = some kv ∧ es[j]? = some e ∧ e.key = ckey ∧ Instr.findNow (dOf k) ckey es i = some (some (i + j, e.val)) ∧ VR hp L β kv.2 e.val)
  | [], es, i, r, hm, h => by
    have : es = [] := List.length_eq_zero_iff.1 hm.1
    subst this
    simp [kfind] at h
    exact .inl ⟨h.symm, rfl⟩
  | kv :: kvs, [], i, r, hm, h => absurd hm.1 (by simp)
  | kv :: kvs, e :: es, i, r, hm, h => by
    have h0 := hm.2 0 kv e rfl rfl
    have hm' : ME hp L β kvs es := ⟨by simpa using hm.1, fun j x y hx hy => hm.2 (j + 1) x y (by simpa using hx) (by simpa using hy)⟩
    unfold kfind at h
    split at h
    · rename_i hk'
      obtain ⟨q1, q2⟩ := keq_spec hk hk' hv h0.1
      split at h
      · rename_i hq
        cases h
        exact .inr ⟨0, kv, e, rfl, rfl, rfl, (q2 hq).symm, by simp [Instr.findNow, q1, hq], h0.2⟩
      · rename_i hq
        have hq' : keq key kv.1 = false := by simpa using hq
        rcases kfind_ok hk hv kvs es (i + 1) r hm' h with ⟨r1, r2⟩ | ⟨j, kv', e', r1, r2, r3, r4, r5, r6⟩
        · exact .inl ⟨r1, by simp [Instr.findNow, q1, hq', r2]⟩
        · exact .inr ⟨j + 1, kv', e', by rw [r1]; simp; omega, by simpa using r2, by simpa using r3, r4, by simp [Instr.findNow, q1, hq', r5]; omega, r6⟩
    · cases h
end
section
variable {P : Program} {own : Nat → Prop} {β : Bl} {h : AH} {w : World}
theorem mapAt_some {id : Nat} {kvs : List (AV × AV)} (hc : h.mapAt id = some kvs) : h.H.get id = some (.map kvs) := by
  unfold AH.mapAt at hc
  split at hc
  · rename_i cs' hg; cases hc; exact hg
  · cases hc

/-- A live map, as the heap has it. -/
theorem map_obj (hs : SimH own β h.H h.nx w) {id b base : Nat} {kvs : List (AV × AV)} (hc : h.mapAt id = some kvs) (hβ : β id = some (b, base)) :
    ∃ es, w.heap[b]? = some (.map es kvs.length) ∧ es.size = kvs.length ∧ base = 0 ∧
      (∀ (i : Nat) (kv : AV × AV) (e : MapEntry), kvs[i]? = some kv → es[i]? = some e → VR w.heap (LL own β h.H) β kv.1 e.key ∧ VR w.heap (LL own β h.H) β kv.2 e.val ∧ e.born = i) := by
  obtain ⟨b', base', h1, _, h0, es, h2, h3, h4⟩ := hs.obj id _ (mapAt_some hc)
  rw [hβ] at h1; cases h1
  exact ⟨es, h2, h3, h0, h4⟩

theorem ME.of {kvs : List (AV × AV)} {es : Array MapEntry} (h1 : es.size = kvs.length) (h2 : ∀ (i : Nat) (kv : AV × AV) (e : MapEntry), kvs[i]? = some kv → es[i]? = some e → VR w.heap (LL own β h.H) β kv.1 e.key ∧ VR w.heap (LL own β h.H) β kv.2 e.val ∧ e.born = i) :
    ME w.heap (LL own β h.H) β kvs es.toList :=
  ⟨by simpa using h1, fun i kv e hk he => by have := h2 i kv e hk (by simpa using he); exact ⟨this.1, this.2.1⟩⟩

/-- A live map is written. -/
theorem map_write (hs : SimH own β h.H h.nx w) {id b base : Nat} {kvs kvs' : List (AV × AV)} {es es' : Array MapEntry} (hc : h.mapAt id = some kvs) (hβ : β id = some (b, base)) (hb : w.heap[b]? = some (.map es kvs.length)) (hbase : base = 0)
    (hsz : es'.size = kvs'.length) (hr : ∀ (i : Nat) (kv : AV × AV) (e : MapEntry), kvs'[i]? = some kv → es'[i]? = some e → VR w.heap (LL own β h.H) β kv.1 e.key ∧ VR w.heap (LL own β h.H) β kv.2 e.val ∧ e.born = i) :
    SimH own β (h.set id (.map kvs')).H (h.set id (.map kvs')).nx { w with heap := w.heap.setIfInBounds b (.map es' kvs'.length) } ∧ Trans own β h w β (h.set id (.map kvs')) { w with heap := w.heap.setIfInBounds b (.map es' kvs'.length) } := by
  subst hbase
  have hidne : id ≠ h.nx := fun he => by rw [hs.fresh id (by omega)] at hβ; cases hβ
  have hst := heap_set (o' := .map es' kvs'.length) hb
  have hw := hs.writeAs (w' := { w with heap := w.heap.setIfInBounds b (.map es' kvs'.length) }) (mapAt_some hc) hβ id 0 (.inl ⟨rfl, rfl⟩) (.map kvs') (by simp) hst.2
    (fun c1 e1 fz hcc => by rw [hb] at hcc; cases hcc) rfl rfl rfl
    (fun L' β' hl' => ⟨rfl, es', hst.1, hsz, fun i kv e hk he => ⟨(hr i kv e hk he).1.later hl', (hr i kv e hk he).2.1.later hl', (hr i kv e hk he).2.2⟩⟩)
  rw [upd_self β hβ, if_neg hidne] at hw
  have hcg : ∀ j, (h.H.put id (.map kvs')).get j = ((h.H.del id).put id (.map kvs')).get j := by
    intro j
    by_cases hj : j = id
    · subst hj; rw [PM.get_put_same, PM.get_put_same]
    · rw [PM.get_put_ne _ _ hj, PM.get_put_ne _ _ hj, PM.get_del_ne _ hj]
  exact ⟨hw.1.congr hcg, hw.2.congr (fun _ => rfl) hcg⟩

theorem mkmap_ok (hs : SimH own β h.H h.nx w) {s : Sem Value} (hr : s.run P w = .ok (.map (some w.heap.size)) (w.alloc (.map #[] 0))) :
    OpOk P own β h w (do pure (.value (← s))) (.mapv h.nx) (h.add (.map [])) := by
  have hn := hs.newObj (w' := w.alloc (.map #[] 0)) h.nx (hs.fresh _ (Nat.le_refl _)) (.map []) (.map #[] 0) rfl rfl rfl rfl
    (fun hp' L' β' hl hb => ⟨rfl, #[], hb, rfl, fun i kv e hk => by simp at hk⟩)
  have hmx : max h.nx (h.nx + 1) = h.nx + 1 := by omega
  rw [hmx] at hn
  refine ⟨.map (some w.heap.size), _, _, .inl ?_, hn.1, ?_, hn.2.1 (Nat.le_refl _)⟩
  · simp only [Sem.run_bind, hr, Result.andThen_ok, Sem.run_pure]
  · exact .mapv _ _ 0 (upd_same _ _ _ _)

theorem VR.mapv_inv {hp : Array Obj} {L : Nat → Prop} {β : Bl} {id : Nat} {v : Value} (hv : VR hp L β (.mapv id) v) : ∃ b base, v = .map (some b) ∧ β id = some (b, base) := by
  cases hv with | mapv _ b base hb => exact ⟨b, base, rfl, hb⟩

theorem mapset_ok (hs : SimH own β h.H h.nx w) {t e : TypeId} {k : SK} {id : Nat} {key x : AV} {cm ck cx : Value} {kvs : List (AV × AV)} {r : Option (Nat × AV)} (ht : mapOf P t = some (k, e)) (hk : keyOf k key = true) (hc : h.mapAt id = some kvs) (hf : kfind k key kvs 0 = some r)
    (hm : VR w.heap (LL own β h.H) β (.mapv id) cm) (hvk : VR w.heap (LL own β h.H) β key ck) (hvx : VR w.heap (LL own β h.H) β x cx) :
    OpOk P own β h w (do Instr.mapUpdate t cm ck cx; pure .skip) .undef (h.set id (.map (match r with | some r => kvs.set r.1 (key, x) | none => kvs ++ [(key, x)]))) := by
  obtain ⟨b, base, rfl, hβ⟩ := hm.mapv_inv
  obtain ⟨kt, hu, hd⟩ := mapOf_some ht
  obtain ⟨es, hb, hsz, hbase, hen⟩ := map_obj hs hc hβ
  have hik := keyOf_isKey hk hvk
  rcases kfind_ok hk hvk kvs es.toList 0 r (.of hsz hen) hf with ⟨rfl, h1⟩ | ⟨j, kv, en, rfl, h1, h2, h3, h4, h5⟩
  · have hw := map_write hs (kvs' := kvs ++ [(key, x)]) (es' := es.push { key := ck, val := cx, born := kvs.length }) hc hβ hb hbase (by simp [hsz]) (fun i kv e hk he => by
      rcases Nat.lt_trichotomy i kvs.length with hi | hi | hi
      · rw [List.getElem?_append_left hi] at hk
        rw [Array.getElem?_push, if_neg (by omega)] at he
        exact hen i kv e hk he
      · subst hi
        rw [List.getElem?_append_right (Nat.le_refl _)] at hk
        simp at hk; subst hk
        rw [← hsz, Array.getElem?_push_size] at he
        cases he
        exact ⟨hvk, hvx, hsz⟩
      · have : (kvs ++ [(key, x)])[i]? = none := List.getElem?_eq_none (by simp; omega)
        rw [this] at hk; cases hk)
    refine ⟨Go.undef, _, β, .inr ⟨?_, rfl⟩, hw.1, .undef _, hw.2⟩
    simp [Instr.mapUpdate, run_underlying hu, run_getObj_map hb, run_checkKey hd hik, run_findKey hd h1, run_setObj_map _ hb, Result.andThen]
  · have hj : es[j]? = some en := by simpa using h2
    have hw := map_write hs (kvs' := kvs.set (0 + j) (key, x)) (es' := es.modify j fun e => { e with key := ck, val := cx }) hc hβ hb hbase (by simp [hsz]) (fun i kv' e hk he => by
      rw [Nat.zero_add, List.getElem?_set] at hk
      rw [Array.getElem?_modify] at he
      by_cases hij : j = i
      · subst hij
        rw [if_pos rfl, hj] at he
        cases he
        rw [if_pos rfl] at hk
        split at hk
        · cases hk
          exact ⟨hvk, hvx, (hen j kv en h1 hj).2.2⟩
        · cases hk
      · rw [if_neg hij] at hk he
        exact hen i kv' e hk he)
    refine ⟨Go.undef, _, β, .inr ⟨?_, rfl⟩, hw.1, .undef _, hw.2⟩
    rw [Nat.zero_add] at h4
    simp [Instr.mapUpdate, run_underlying hu, run_getObj_map hb, run_checkKey hd hik, run_findKey hd h4, hj, h3, run_keyThatStays hik, run_setObj_map _ hb, Result.andThen]

theorem mapget_ok (hs : SimH own β h.H h.nx w) {t e : TypeId} {k : SK} {ok : Bool} {m key z : AV} {cm ck : Value} {kvs : List (AV × AV)} {r : Option (Nat × AV)} (ht : mapOf P t = some (k, e)) (hz : zeroAV P e = some z) (hk : keyOf k key = true) (hc : amap h m = some kvs) (hf : kfind k key kvs 0 = some r)
    (hm : VR w.heap (LL own β h.H) β m cm) (hvk : VR w.heap (LL own β h.H) β key ck) :
    OpOk P own β h w (do pure (.value (← Instr.lookup t cm ck ok))) (match r with | some r => if ok then .tup [r.2, .bool true] else r.2 | none => if ok then .tup [z, .bool false] else z) h := by
  obtain ⟨kt, hu, hd⟩ := mapOf_some ht
  have hik := keyOf_isKey hk hvk
  obtain ⟨zv, hzr, hzc⟩ := zeroAV_run hz w
  have htup : ∀ (a : AV) (v : Value) (q : Bool), VR w.heap (LL own β h.H) β a v → VR w.heap (LL own β h.H) β (.tup [a, .bool q]) (.tuple #[v, .bool q]) := fun a v q hv => by
    refine .tup _ _ rfl (fun i c u hcc huu => ?_)
    match i with
    | 0 => simp at hcc huu; subst hcc; subst huu; exact hv
    | 1 => simp at hcc huu; subst hcc; subst huu; exact .bool _
    | n + 2 => simp at hcc
  have key : ∃ es : Array MapEntry, ME w.heap (LL own β h.H) β kvs es.toList ∧ ∀ q : Option (Nat × Value), Instr.findNow (dOf k) ck es.toList 0 = some q →
      (Instr.lookup t cm ck ok).run P w = .ok (match q with | some q => if ok then .tuple #[q.2, .bool true] else q.2 | none => if ok then .tuple #[zv, .bool false] else zv) w := by
    unfold amap at hc
    split at hc
    · cases hc
      cases hm
      refine ⟨#[], ⟨rfl, fun i kv e hk => by simp at hk⟩, fun q hq => ?_⟩
      have hq' : Instr.findNow (dOf k) ck [] 0 = some q := hq
      cases q <;> simp [Instr.lookup, run_underlying hu, run_checkKey hd hik, run_findKey hd hq', hzr, Result.andThen]
    · rename_i id
      obtain ⟨b, base, rfl, hβ⟩ := hm.mapv_inv
      obtain ⟨es, hb, hsz, hbase, hen⟩ := map_obj hs hc hβ
      refine ⟨es, .of hsz hen, fun q hq => ?_⟩
      cases q <;> simp [Instr.lookup, run_underlying hu, run_getObj_map hb, run_checkKey hd hik, run_findKey hd hq, hzr, Result.andThen]
    · cases hc
  obtain ⟨es, hme, hrun⟩ := key
  rcases kfind_ok hk hvk kvs es.toList 0 r hme hf with ⟨rfl, h1⟩ | ⟨j, kv, en, rfl, h1, h2, h3, h4, h5⟩
  · refine .val hs (hrun _ h1) ?_
    cases ok
    · exact cVal_ok hzc
    · exact htup _ _ _ (cVal_ok hzc)
  · refine .val hs (hrun _ h4) ?_
    cases ok
    · exact h5
    · exact htup _ _ _ h5

theorem maplen_ok (hs : SimH own β h.H h.nx w) {t ty : TypeId} {q : SK × TypeId} {m : AV} {cm : Value} {kvs : List (AV × AV)} (ht : mapOf P t = some q) (hc : amap h m = some kvs) (hm : VR w.heap (LL own β h.H) β m cm) :
    OpOk P own β h w (do pure (.value (← Builtin.len_ #[t] ty #[cm]))) (.int .i64 kvs.length) h := by
  obtain ⟨k, e⟩ := q
  obtain ⟨kt, hu, hd⟩ := mapOf_some ht
  refine .val hs (cv := .int .i64 kvs.length) ?_ (.int _ _)
  unfold amap at hc
  split at hc
  · cases hc
    cases hm
    simp [Builtin.len_, run_underlying hu, Result.andThen, goInt]
  · rename_i id
    obtain ⟨b, base, rfl, hβ⟩ := hm.mapv_inv
    obtain ⟨es, hb, hsz, hbase, hen⟩ := map_obj hs hc hβ
    simp [Builtin.len_, run_underlying hu, run_getObj_map hb, Result.andThen, goInt, hsz]
  · cases hc

theorem mapent_ok (hs : SimH own β h.H h.nx w) {t e : TypeId} {k : SK} {id : Nat} {key z : AV} {cm ck : Value} {kvs : List (AV × AV)} {r : Option (Nat × AV)} (ht : mapOf P t = some (k, e)) (hz : zeroAV P e = some z) (hk : keyOf k key = true) (hc : h.mapAt id = some kvs) (hf : kfind k key kvs 0 = some r)
    (hm : VR w.heap (LL own β h.H) β (.mapv id) cm) (hvk : VR w.heap (LL own β h.H) β key ck) :
    OpOk P own β h w (do pure (.value (← Instr.mapEntry t cm ck))) (match r with | some r => .tup [r.2, .int .i64 r.1] | none => .tup [z, .int .i64 kvs.length])
      (match r with | some _ => h | none => h.set id (.map (kvs ++ [(key, z)]))) := by
  obtain ⟨b, base, rfl, hβ⟩ := hm.mapv_inv
  obtain ⟨kt, hu, hd⟩ := mapOf_some ht
  obtain ⟨es, hb, hsz, hbase, hen⟩ := map_obj hs hc hβ
  obtain ⟨zv, hzr, hzc⟩ := zeroAV_run hz w
  have hik := keyOf_isKey hk hvk
  have htup : ∀ (hp' : Array Obj) (L' : Nat → Prop) (β' : Bl) (a : AV) (v : Value) (n : Int), VR hp' L' β' a v → VR hp' L' β' (.tup [a, .int .i64 n]) (.tuple #[v, .int .i64 n]) := fun hp' L' β' a v q hv => by
    refine .tup _ _ rfl (fun i c u hcc huu => ?_)
    match i with
    | 0 => simp at hcc huu; subst hcc; subst huu; exact hv
    | 1 => simp at hcc huu; subst hcc; subst huu; exact .int _ _
    | n + 2 => simp at hcc
  rcases kfind_ok hk hvk kvs es.toList 0 r (.of hsz hen) hf with ⟨rfl, h1⟩ | ⟨j, kv, en, rfl, h1, h2, h3, h4, h5⟩
  · have hw := map_write hs (kvs' := kvs ++ [(key, z)]) (es' := es.push { key := ck, val := zv, born := kvs.length }) hc hβ hb hbase (by simp [hsz]) (fun i kv e hk he => by
      rcases Nat.lt_trichotomy i kvs.length with hi | hi | hi
      · rw [List.getElem?_append_left hi] at hk
        rw [Array.getElem?_push, if_neg (by omega)] at he
        exact hen i kv e hk he
      · subst hi
        rw [List.getElem?_append_right (Nat.le_refl _)] at hk
        simp at hk; subst hk
        rw [← hsz, Array.getElem?_push_size] at he
        cases he
        exact ⟨hvk, cVal_ok hzc, hsz⟩
      · have : (kvs ++ [(key, z)])[i]? = none := List.getElem?_eq_none (by simp; omega)
        rw [this] at hk; cases hk)
    refine ⟨.tuple #[zv, .int .i64 kvs.length], _, β, .inl ?_, hw.1, htup _ _ _ _ _ _ (cVal_ok hzc), hw.2⟩
    simp [Instr.mapEntry, run_underlying hu, run_getObj_map hb, run_checkKey hd hik, run_findKey hd h1, hzr, run_setObj_map _ hb, Result.andThen, goInt]
  · have hj : es[j]? = some en := by simpa using h2
    rw [Nat.zero_add] at h4
    have hmod : (es.modify j fun e => { e with key := ck }) = es := by
      apply Array.ext_getElem?
      intro i
      rw [Array.getElem?_modify]
      split
      · rename_i hij
        subst hij
        rw [hj, Option.map_some, ← h3]
      · rfl
    have hset : w.heap.setIfInBounds b (.map es kvs.length) = w.heap := by
      apply Array.ext_getElem?
      intro i
      rw [Array.getElem?_setIfInBounds]
      split
      · rename_i hij
        subst hij
        rw [hb, if_pos (lt_of_get hb)]
      · rfl
    refine .val hs (cv := .tuple #[en.val, .int .i64 j]) ?_ ?_
    · have hbn := (hen j kv en h1 hj).2.2
      simp [Instr.mapEntry, run_underlying hu, run_getObj_map hb, run_checkKey hd hik, run_findKey hd h4, hj, h3, run_keyThatStays hik, run_setObj_map _ hb, hmod, hset, Result.andThen, goInt, hbn]
    · have := htup _ _ _ kv.2 en.val (j : Int) h5
      simpa using this

theorem entst_ok (hs : SimH own β h.H h.nx w) {t : TypeId} {ik : IntKind} {n : Int} {id : Nat} {x : AV} {kv : AV × AV} {cm ci cx : Value} {kvs : List (AV × AV)} (hc : h.mapAt id = some kvs) (hn : 0 ≤ n) (hkv : kvs[n.toNat]? = some kv)
    (hm : VR w.heap (LL own β h.H) β (.mapv id) cm) (hvi : VR w.heap (LL own β h.H) β (.int ik n) ci) (hvx : VR w.heap (LL own β h.H) β x cx) :
    OpOk P own β h w (do Instr.entryStore t cm ci cx; pure .skip) .undef (h.set id (.map (kvs.set n.toNat (kv.1, x)))) := by
  obtain ⟨b, base, rfl, hβ⟩ := hm.mapv_inv
  obtain ⟨es, hb, hsz, hbase, hen⟩ := map_obj hs hc hβ
  cases hvi
  have hlt : n.toNat < kvs.length := (List.getElem?_eq_some_iff.1 hkv).1
  have hfi : es.findIdx? (fun e => (e.born : Int) == n) = some n.toNat := by
    rw [Array.findIdx?_eq_some_iff_getElem]
    refine ⟨by omega, ?_, fun j hj => ?_⟩
    · have := (hen n.toNat kv es[n.toNat] hkv (Array.getElem?_eq_getElem (by omega))).2.2
      simp [this]; omega
    · have := (hen j kvs[j] es[j] (List.getElem?_eq_getElem (by omega)) (Array.getElem?_eq_getElem (by omega))).2.2
      simp [this]; omega
  have hw := map_write hs (kvs' := kvs.set n.toNat (kv.1, x)) (es' := es.modify n.toNat fun e => { e with val := cx }) hc hβ hb hbase (by simp [hsz]) (fun i kv' e hk he => by
    rw [List.getElem?_set] at hk
    rw [Array.getElem?_modify] at he
    by_cases hij : n.toNat = i
    · subst hij
      rw [if_pos rfl] at he
      rw [if_pos rfl, if_pos hlt] at hk
      cases hq : es[n.toNat]? with
      | none => rw [hq] at he; cases he
      | some e0 =>
        rw [hq] at he
        cases he
        cases hk
        have := hen n.toNat kv e0 hkv hq
        exact ⟨this.1, hvx, this.2.2⟩
    · rw [if_neg hij] at hk he
      exact hen i kv' e hk he)
  refine ⟨Go.undef, _, β, .inr ⟨?_, rfl⟩, hw.1, .undef _, hw.2⟩
  simp [Instr.entryStore, run_getObj_map hb, asInt, asIntOf, hfi, run_setObj_map _ hb, Result.andThen]
end
section
variable {P : Program} {nt : Nat} {ds : List Deferred} {own : Nat → Prop} {β : Bl} {T : Tm} {h : AH} {a : Act} {w : World}
theorem mop_ok (cl : Handler) (hs : Sim nt ds own β T h a w) {o : Oper} {ao : AOp} {v : AV} {h' : AH} (hc : cM P o.op = some ao) (ha : aop cl T h ao = some (v, h')) : OpOk P own β h w (execOp a.eval o) v h' := by
  have hp := hs.hp
  unfold cM at hc
  split at hc
  · -- makeMap
    rename_i t hop
    simp only [execOp, hop]
    cases hc
    simp only [aop, List.map_nil, kX] at ha
    cases ha
    exact mkmap_ok hp (by simp [Instr.makeMap, Result.andThen])
  · rename_i t r hop
    simp only [execOp, hop, Option.map_some]
    split at hc
    · rename_i kt e y hu hy
      cases hc
      have hv := cOpd_ok hs hy
      simp only [aop, List.map_cons, List.map_nil] at ha
      generalize y.ev T = yv at ha hv
      generalize a.eval r = rv at hv ⊢
      cases yv <;> simp only [kX] at ha <;> try (cases ha; done)
      cases ha
      cases hv
      exact mkmap_ok hp (by simp [Instr.makeMap, run_underlying hu, asInt, asIntOf, Result.andThen])
    · cases hc
  case h_3 | h_4 =>
    rename_i t m k x hop
    simp only [execOp, hop]
    split at hc
    · rename_i q m' k' x' hq hm hk hx
      cases hc
      obtain ⟨sk, e⟩ := q
      have hvm := cOpd_ok hs hm
      have hvk := cOpd_ok hs hk
      have hvx := cOpd_ok hs hx
      simp only [aop, List.map_cons, List.map_nil] at ha
      generalize m'.ev T = mv at ha hvm
      generalize k'.ev T = kv at ha hvk
      generalize x'.ev T = xv at ha hvx
      cases mv <;> simp only [kX] at ha <;> try (cases ha; done)
      split at ha
      · rename_i hko
        split at ha
        · rename_i kvs hkvs
          split at ha
          · rename_i r hf
            cases ha
            exact mapset_ok hp hq hko hkvs hf hvm hvk hvx
          · rename_i hf
            cases ha
            exact mapset_ok hp hq hko hkvs hf hvm hvk hvx
          · cases ha
        · cases ha
      · cases ha
    · cases hc
  case h_5 =>
    rename_i t m k ok hop
    simp only [execOp, hop]
    split at hc
    · rename_i q m' k' hq hm hk
      split at hc
      · rename_i z hz
        cases hc
        obtain ⟨sk, e⟩ := q
        have hvm := cOpd_ok hs hm
        have hvk := cOpd_ok hs hk
        simp only [aop, List.map_cons, List.map_nil] at ha
        generalize m'.ev T = mv at ha hvm
        generalize k'.ev T = kv at ha hvk
        simp only [kX] at ha
        split at ha
        · rename_i hko
          split at ha
          · rename_i kvs hkvs
            split at ha
            · rename_i r hf
              cases ha
              exact mapget_ok hp hq hz hko hkvs hf hvm hvk
            · rename_i hf
              cases ha
              exact mapget_ok hp hq hz hko hkvs hf hvm hvk
            · cases ha
          · cases ha
        · cases ha
      · cases hc
    · cases hc
  case h_6 =>
    rename_i t m k hop
    simp only [execOp, hop]
    split at hc
    · rename_i q m' k' hq hm hk
      split at hc
      · rename_i z hz
        cases hc
        obtain ⟨sk, e⟩ := q
        have hvm := cOpd_ok hs hm
        have hvk := cOpd_ok hs hk
        simp only [aop, List.map_cons, List.map_nil] at ha
        generalize m'.ev T = mv at ha hvm
        generalize k'.ev T = kv at ha hvk
        cases mv <;> simp only [kX] at ha <;> try (cases ha; done)
        split at ha
        · rename_i hko
          split at ha
          · rename_i kvs hkvs
            split at ha
            · rename_i r hf
              cases ha
              exact mapent_ok hp hq hz hko hkvs hf hvm hvk
            · rename_i hf
              cases ha
              exact mapent_ok hp hq hz hko hkvs hf hvm hvk
            · cases ha
          · cases ha
        · cases ha
      · cases hc
    · cases hc
  case h_7 =>
    rename_i t m i x hop
    simp only [execOp, hop]
    split at hc
    · rename_i m' i' x' hm hi hx
      cases hc
      have hvm := cOpd_ok hs hm
      have hvi := cOpd_ok hs hi
      have hvx := cOpd_ok hs hx
      simp only [aop, List.map_cons, List.map_nil] at ha
      generalize m'.ev T = mv at ha hvm
      generalize i'.ev T = iv at ha hvi
      generalize x'.ev T = xv at ha hvx
      cases mv <;> simp only [kX] at ha <;> try (cases ha; done)
      cases iv <;> simp only at ha <;> try (cases ha; done)
      split at ha
      · rename_i kvs hkvs
        split at ha
        · rename_i hn
          split at ha
          · rename_i e he
            cases ha
            exact entst_ok hp hkvs hn he hvm hvi hvx
          · cases ha
        · cases ha
      · cases ha
    · cases hc
  case h_8 =>
    rename_i c hop
    split at hc
    · rename_i hcal
      split at hc
      · rename_i x t hxs hts
        split at hc
        · rename_i q y hq hy
          cases hc
          have hv := cOpd_ok hs hy
          simp only [aop, List.map_cons, List.map_nil, kX] at ha
          split at ha
          · rename_i kvs hkvs
            cases ha
            have hx : c.args = #[x] := by rw [← Array.toArray_toList (xs := c.args), hxs]
            have htt : c.argTypes = #[t] := by rw [← Array.toArray_toList (xs := c.argTypes), hts]
            have hlen := maplen_ok (P := P) (ty := o.type) hp hq hkvs hv
            obtain ⟨cv, w', β', hrun, r1, r2, r3⟩ := hlen
            refine ⟨cv, w', β', ?_, r1, r2, r3⟩
            simpa [execOp, hop, resolve, hcal, invoke, builtin, hx, htt] using hrun
          · cases ha
        · cases hc
      · cases hc
    · cases hc
  · cases hc
end
end Go.Eng
end
noncomputable section
namespace Go.Eng
theorem runesFrom_asc (l : List UInt8) (hl : ∀ b ∈ l, b.toNat < 128) : ∀ (bound i : Nat) (acc : Array Value), i ≤ l.length → l.length - i ≤ bound →
    Conv.runesFrom ⟨l.toArray⟩ bound i acc = acc ++ ((l.drop i).map fun b => Value.int .i32 (b.toNat : Int)).toArray := by
  intro bound
  induction bound with
  | zero =>
    intro i acc hi hb
    have : l.drop i = [] := List.drop_eq_nil_of_le (by omega)
    simp [Conv.runesFrom, this]
  | succ n ih =>
    intro i acc hi hb
    unfold Conv.runesFrom
    have hs : (⟨l.toArray⟩ : ByteArray).size = l.length := bytes_size l
    by_cases h : i < l.length
    · rw [if_pos (by rw [hs]; exact h)]
      have hget : ((⟨l.toArray⟩ : ByteArray).get! (i + 0)) = l[i] := by
        simp [ByteArray.get!, getElem!_def, List.getElem?_eq_getElem h]
      have hd : Utf8.decode ⟨l.toArray⟩ i = (l[i].toNat, 1) := by
        unfold Utf8.decode
        simp only [hget]
        rw [if_pos (hl _ (List.getElem_mem h))]
      rw [hd]
      simp only
      rw [ih (i + 1) _ (by omega) (by omega), List.drop_eq_getElem_cons h, List.map_cons]
      generalize (List.map (fun b => Value.int IntKind.i32 (b.toNat : Int)) (List.drop (i + 1) l)) = r
      simp
    · rw [if_neg (by rw [hs]; exact h)]
      have : l.drop i = [] := List.drop_eq_nil_of_le (by omega)
      simp [this]

theorem asc_spec {l : List UInt8} (h : asc l = true) : ∀ b ∈ l, b.toNat < 128 := by
  intro b hb
  have := List.all_eq_true.1 h b hb
  simpa [Nat.blt_eq] using this

section
variable {hp : Array Obj} {L : Nat → Prop} {β : Bl}
theorem runesOf_RL : ∀ (l : List UInt8), RL hp L β (runesOf l) (l.map fun b => Value.int .i32 (b.toNat : Int))
  | [] => RL.nil
  | b :: l => RL.cons (.int _ _) (runesOf_RL l)
theorem runesOf_length : ∀ (l : List UInt8), (runesOf l).length = l.length
  | [] => rfl
  | _ :: l => by simp [runesOf, runesOf_length l]

theorem ascI_RL : ∀ {cs : List AV} {s : List UInt8} {vs : List Value}, ascI cs = some s → RL hp L β cs vs → ∃ ns : List Int, vs = ns.map (Value.int .i32) ∧ runesBytes ns = ⟨s.toArray⟩
  | [], s, vs, h, hR => by
    simp [ascI] at h; subst h
    have : vs = [] := by have := hR.1; simp at this; exact List.length_eq_zero_iff.1 this.symm
    subst this
    exact ⟨[], rfl, rfl⟩
  | c :: cs, s, vs, h, hR => by
    match vs, hR with
    | [], hR => exact absurd hR.1 (by simp)
    | v :: vs, hR =>
    have hv := hR.head
    have hR' := hR.tail
    unfold ascI at h
    split at h
    · cases ‹_ :: _ = []›
    · rename_i n r he
      cases he
      split at h
      · rename_i hn
        split at h
        · rename_i l hl
          cases h
          obtain ⟨ns, h1, h2⟩ := ascI_RL hl hR'
          cases hv
          refine ⟨n :: ns, by simp [h1], ?_⟩
          have henc : Utf8.encode n = ⟨#[UInt8.ofNat n.toNat]⟩ := by
            have hv : Utf8.valid n = true := by unfold Utf8.valid; simp; omega
            unfold Utf8.encode
            simp only [hv, if_true]
            rw [if_pos (by omega)]
          have hcons : ∀ (ns : List Int) (x : ByteArray), ns.foldl (fun r n => r ++ Utf8.encode n) x = x ++ ns.foldl (fun r n => r ++ Utf8.encode n) ByteArray.empty := by
            intro ns
            induction ns with
            | nil => intro x; simp
            | cons m ns ih => intro x; rw [List.foldl_cons, ih, List.foldl_cons, ih (ByteArray.empty ++ _)]; simp [ByteArray.append_assoc]
          unfold runesBytes at h2 ⊢
          rw [List.foldl_cons, hcons, h2, henc]
          simp only [ByteArray.empty_append]
          have := bytes_append [UInt8.ofNat n.toNat] l
          simpa using this
        · cases h
      · cases h
    · cases h

theorem bytesI_RL : ∀ {cs : List AV} {s : List UInt8} {vs : List Value}, bytesI cs = some s → RL hp L β cs vs → ∃ ns : List Int, vs = ns.map (Value.int .u8) ∧ (ns.map fun n => UInt8.ofNat n.toNat) = s
  | [], s, vs, h, hR => by
    simp [bytesI] at h; subst h
    have : vs = [] := by have := hR.1; simp at this; exact List.length_eq_zero_iff.1 this.symm
    subst this
    exact ⟨[], rfl, rfl⟩
  | c :: cs, s, vs, h, hR => by
    match vs, hR with
    | [], hR => exact absurd hR.1 (by simp)
    | v :: vs, hR =>
    have hv := hR.head
    have hR' := hR.tail
    unfold bytesI at h
    split at h
    · cases ‹_ :: _ = []›
    · rename_i n r he
      cases he
      split at h
      · rename_i l hl
        cases h
        obtain ⟨ns, h1, h2⟩ := bytesI_RL hl hR'
        cases hv
        exact ⟨n :: ns, by simp [h1], by simp [h2]⟩
      · cases h
    · cases h
end
section
variable {P : Program} {own : Nat → Prop} {β : Bl} {h : AH} {w : World}
theorem load_of_src {a : Addr} {m cap : Nat} {vs : List Value} (hl : vs.length = m * 1) (hf : ∀ n, n ≤ m → ∀ w', w'.heap = w.heap → (Builtin.firstCells 1 n (.slice (some a) m cap)).run P w' = .ok (vs.take (n * 1)).toArray w') :
    (loadCells a m).run P w = .ok vs.toArray w := by
  have := hf m (Nat.le_refl _) w rfl
  rw [List.take_of_length_le (by omega)] at this
  simpa [Builtin.firstCells] using this

theorem s2r_ok (hs : SimH own β h.H h.nx w) {src dst e : TypeId} {s : List UInt8} (h1 : P.underlying src = some .string) (h2 : P.underlying dst = some (.slice e)) (h3 : P.underlying e = some (.int .i32))
    (ha : asc s = true) (hn : s.length ≤ 1000000) : OpOk P own β h w (do pure (.value (← convert src dst (.string ⟨s.toArray⟩)))) (.rsl h.nx 0 s.length 1) (h.add (.cells (runesOf s))) := by
  have hr : Conv.runesFrom ⟨s.toArray⟩ (⟨s.toArray⟩ : ByteArray).size 0 #[] = (s.map fun b => Value.int .i32 (b.toNat : Int)).toArray := by
    rw [runesFrom_asc s (asc_spec ha) _ 0 #[] (Nat.zero_le _) (by rw [bytes_size]; omega)]; simp
  have hrun := run_runes_of_string (P := P) w src dst e ⟨s.toArray⟩ h1 h2 h3 (by rw [hr]; simp; omega)
  rw [hr] at hrun
  obtain ⟨β', g1, g2, g3⟩ := grow_ok (w := w) hs (e := e) (z := 1) (i := default) (zv := .int .i32 0) rfl s.length 0 (by omega) (as := runesOf s) (vs := (s.map fun b => Value.int .i32 (b.toNat : Int)).toArray) (by simpa using runesOf_RL s) (by rw [runesOf_length]; omega)
  have hz : Builtin.zeroCells (Value.int .i32 0).cells (grownCap w s.length 0 e - s.length) = Array.replicate (grownCap w s.length 0 e - s.length) (.int .i32 0) := by
    have hcl : (Value.int .i32 0).cells = #[Value.int .i32 0] := rfl
    rw [hcl]
    apply Array.ext
    · simp [Builtin.zeroCells]
    · intro i h1 h2
      simp [Builtin.zeroCells, Nat.mod_one]
  rw [hz] at g1 g2 g3
  refine ⟨_, _, β', .inl ?_, g1, g2, g3⟩
  simp only [Sem.run_bind, hrun, Result.andThen_ok, Sem.run_pure]
  simp

theorem r2s_ok (hs : SimH own β h.H h.nx w) {src dst e : TypeId} {x : AV} {cx : Value} {cs : List AV} {m : Nat} {s : List UInt8} (h1 : P.underlying src = some (.slice e)) (h2 : P.underlying dst = some .string) (h3 : P.underlying e = some (.int .i32))
    (hx : VR w.heap (LL own β h.H) β x cx) (hc : acells h 1 x = some cs) (hm : alen x = some m) (ha : ascI cs = some s) : OpOk P own β h w (do pure (.value (← convert src dst cx))) (.str s) h := by
  obtain ⟨a, cap, vs, rfl, _, hR, hl, hf⟩ := src_ok (P := P) hs hc hm hx
  obtain ⟨ns, rfl, hb⟩ := ascI_RL ha hR
  refine .still hs (cv := .string ⟨s.toArray⟩) ?_ (.str s)
  simp only [Sem.run_bind, run_convert_runes_string w src dst e a m cap h1 h3 h2]
  cases a with
  | none =>
    have : m = 0 := by
      cases hx <;> simp [alen] at hm <;> omega
    subst this
    have : ns = [] := by simpa using hl
    subst this
    have : (⟨s.toArray⟩ : ByteArray) = .empty := hb.symm
    rw [this]
    rfl
  | some ad =>
    rw [run_runesToString w ad m cap ns (load_of_src hl hf), hb]
    simp

theorem b2s_ok (hs : SimH own β h.H h.nx w) {src dst e : TypeId} {x : AV} {cx : Value} {cs : List AV} {m : Nat} {s : List UInt8} (h1 : P.underlying src = some (.slice e)) (h2 : P.underlying dst = some .string) (h3 : P.underlying e = some (.int .u8))
    (hx : VR w.heap (LL own β h.H) β x cx) (hc : acells h 1 x = some cs) (hm : alen x = some m) (ha : bytesI cs = some s) : OpOk P own β h w (do pure (.value (← convert src dst cx))) (.str s) h := by
  obtain ⟨a, cap, vs, rfl, _, hR, hl, hf⟩ := src_ok (P := P) hs hc hm hx
  obtain ⟨ns, rfl, hb⟩ := bytesI_RL ha hR
  refine .still hs (cv := .string ⟨s.toArray⟩) ?_ (.str s)
  simp only [Sem.run_bind, run_convert_bytes_string w src dst e a m cap h1 h3 h2]
  cases a with
  | none =>
    have : m = 0 := by
      cases hx <;> simp [alen] at hm <;> omega
    subst this
    have : ns = [] := by simpa using hl
    subst this
    simp at hb
    subst hb
    rfl
  | some ad =>
    rw [run_bytesToString w ad m cap ns (load_of_src hl hf), foldl_push_bytes, hb]
    have he0 : ByteArray.empty.data = #[] := rfl
    rw [he0]
    simp
end
section
variable {P : Program} {nt : Nat} {ds : List Deferred} {own : Nat → Prop} {β : Bl} {T : Tm} {h : AH} {a : Act} {w : World}
theorem xop_ok (cl : Handler) (hs : Sim nt ds own β T h a w) {o : Oper} {ao : AOp} {v : AV} {h' : AH} (hc : cX P o.op = some ao) (ha : aop cl T h ao = some (v, h')) : OpOk P own β h w (execOp a.eval o) v h' := by
  have hp := hs.hp
  unfold cX at hc
  split at hc
  case h_2 => cases hc
  rename_i src dst x hop
  simp only [execOp, hop]
  split at hc
  · rename_i e h1 h2
    split at hc
    · rename_i y h3 hy
      cases hc
      have hv := cOpd_ok hs hy
      simp only [aop, List.map_cons, List.map_nil] at ha
      generalize y.ev T = yv at ha hv
      generalize a.eval x = xv at hv
      unfold kX at ha
      split at ha <;> try (cases ‹XK.s2r = _›)
      · rename_i s he
        cases he
        split at ha
        · rename_i hcond
          cases ha
          simp only [Bool.and_eq_true, Nat.ble_eq] at hcond
          cases hv
          exact s2r_ok hp h1 h2 h3 hcond.1 hcond.2
        · cases ha
      · cases ha
    · cases hc
  · rename_i e h1 h2
    split at hc
    · rename_i y h3 hy
      cases hc
      have hv := cOpd_ok hs hy
      simp only [aop, List.map_cons, List.map_nil] at ha
      generalize y.ev T = yv at ha hv
      generalize a.eval x = xv at hv
      simp only [kX] at ha
      split at ha
      · rename_i cs m q1 q2
        split at ha
        · rename_i s q3
          cases ha
          exact r2s_ok hp h1 h2 h3 hv q1 q2 q3
        · cases ha
      · cases ha
    · rename_i y h3 hy
      cases hc
      have hv := cOpd_ok hs hy
      simp only [aop, List.map_cons, List.map_nil] at ha
      generalize y.ev T = yv at ha hv
      generalize a.eval x = xv at hv
      simp only [kX] at ha
      split at ha
      · rename_i cs m q1 q2
        split at ha
        · rename_i s q3
          cases ha
          exact b2s_ok hp h1 h2 h3 hv q1 q2 q3
        · cases ha
      · cases ha
    · cases hc
  · cases hc

theorem op_okX (cl : Handler) (hs : Sim nt ds own β T h a w) {o : Oper} {ao : AOp} {v : AV} {h' : AH} (hc : cOpX P o.op = ao) (ha : aop cl T h ao = some (v, h')) (hnc : ∀ f args, ao ≠ .call f args) :
    OpOk P own β h w (execOp a.eval o) v h' := by
  unfold cOpX at hc
  split at hc
  · rename_i ao' h1
    subst hc
    exact op_ok cl hs h1 ha hnc
  · split at hc
    · rename_i ao' h1
      subst hc
      exact xop_ok cl hs h1 ha
    · split at hc
      · rename_i ao' h1
        subst hc
        exact mop_ok cl hs h1 ha
      · subst hc
        simp [aop] at ha
end
end Go.Eng
end
noncomputable section
namespace Go.Eng
/-- A way to know what calls do. -/
def HOk (P : Program) (cl : Handler) : Prop :=
  ∀ f args h v h', cl f args h = some (v, h') →
    (∃ fn, P.funcs[f]? = some fn ∧ fn.body.isSome = true ∧ fn.name ≠ "runtime.NumGoroutine") ∧
    ∀ (own : Nat → Prop) (β : Bl) (w : World) (cargs : Array Value), SimH own β h.H h.nx w → RL w.heap (LL own β h.H) β args cargs.toList →
      Calls P f cargs w fun e w' => ∃ cv β', e = .returned cv ∧ SimH own β' h'.H h'.nx w' ∧ VR w'.heap (LL own β' h'.H) β' v cv ∧ Trans own β h w β' h' w'

def tput (T : Tm) (d : Option Nat) (v : AV) : Tm :=
  match d with
  | some d => T.put d v
  | none => T

def skipped : AV := .tup []

theorem cEq_call {P : Program} {neg : Bool} {t : TypeId} {a b f : Opd} {args : List Opd} (hc : cEq P neg t a b = some (.call f args)) : False := by
  unfold cEq at hc
  split at hc <;> first | (cases hc; done) | skip
  split at hc
  · cases hc
  · simp at hc

theorem cOp_call {P : Program} {op : Op} {f : Opd} {args : List Opd} (hc : cOp P op = some (.call f args)) : ∃ c fo, op = .call c ∧ c.callee = .value fo ∧ cOpd fo = some f ∧ cOpds c.args.toList = some args := by
  cases op <;> simp only [cOp] at hc <;> try (cases hc; done)
  case call c =>
    refine ⟨c, ?_⟩
    split at hc
    · rename_i fo hco
      simp only [bind, Option.bind_eq_some_iff, pure, Option.some.injEq] at hc
      obtain ⟨f', hf', as', has', he⟩ := hc
      cases he
      exact ⟨fo, rfl, hco, hf', has'⟩
    all_goals first | (cases hc; done) | skip
    all_goals (repeat' (split at hc)) <;> simp [bind, Option.bind_eq_some_iff] at hc
    all_goals (obtain ⟨_, _, _, _, hc⟩ := hc; split at hc <;> simp at hc)
  case binOp op t x y ty =>
    simp only [bind, Option.bind_eq_some_iff] at hc
    obtain ⟨_, _, _, _, hc⟩ := hc
    cases op <;> simp at hc
    · exact (cEq_call hc).elim
    · exact (cEq_call hc).elim
  all_goals (repeat' (split at hc)) <;> simp [bind, Option.bind_eq_some_iff] at hc
  case load t x =>
    obtain ⟨n, _, hc⟩ := hc
    cases n <;> simp [Option.bind_eq_some_iff] at hc

theorem cX_form {P : Program} {op : Op} {ao : AOp} (hc : cX P op = some ao) : ∃ k as, ao = .xo k as := by
  unfold cX at hc
  repeat' (split at hc)
  all_goals first | (cases hc; done) | (cases hc; exact ⟨_, _, rfl⟩)
theorem cM_form {P : Program} {op : Op} {ao : AOp} (hc : cM P op = some ao) : ∃ k as, ao = .xo k as := by
  unfold cM at hc
  repeat' (split at hc)
  all_goals first | (cases hc; done) | (cases hc; exact ⟨_, _, rfl⟩)
theorem cOpX_call {P : Program} {op : Op} {f : Opd} {args : List Opd} (hc : cOpX P op = .call f args) : cOp P op = some (.call f args) := by
  unfold cOpX at hc
  split at hc
  · rename_i ao h1; subst hc; exact h1
  · split at hc
    · rename_i ao h1
      obtain ⟨k, as, rfl⟩ := cX_form h1
      cases hc
    · split at hc
      · rename_i ao h1
        obtain ⟨k, as, rfl⟩ := cM_form h1
        cases hc
      · cases hc
theorem cOpX_alloc {P : Program} {op : Op} {ao : AOp} (hc : cOpX P op = ao) (hA : aA ao = true) : cOp P op = some ao := by
  unfold cOpX at hc
  split at hc
  · rename_i ao h1; subst hc; exact h1
  · split at hc
    · rename_i ao h1
      obtain ⟨k, as, rfl⟩ := cX_form h1
      subst hc
      simp [aA] at hA
    · split at hc
      · rename_i ao h1
        obtain ⟨k, as, rfl⟩ := cM_form h1
        subst hc
        simp [aA] at hA
      · subst hc
        simp [aA] at hA

section
variable {P : Program} {nt : Nat} {ds : List Deferred} {own : Nat → Prop} {β : Bl} {T : Tm} {h : AH} {a : Act} {w : World}
theorem op_wp {cl : Handler} (hcl : HOk P cl) (hs : Sim nt ds own β T h a w) {o : Oper} {ao : AOp} {v : AV} {h' : AH} (hc : cOpX P o.op = ao) (ha : aop cl T h ao = some (v, h'))
    {K : Act → World → Prop} {Q : Exit → Act → World → Prop}
    (hK : ∀ cv w' β', SimH own β' h'.H h'.nx w' → VR w'.heap (LL own β' h'.H) β' v cv → Trans own β h w β' h' w' → K (a.put o.dst cv) w') : o.wp P a w K Q := by
  by_cases hcall : ∃ f args, ao = .call f args
  · obtain ⟨f, args, rfl⟩ := hcall
    -- a call of a Go function
    have hop := cOp_call (cOpX_call hc)
    obtain ⟨c, fo, hop, hco, hf, has⟩ := hop
    simp only [aop, kMov, kPick, kNew, kBox, kBuild, kBuildSl, kLd1, kLdn, kSt, kNilchk, kArith, kEqs, kEqn, kEqf, kUn, kConvI, kFld, kFldA, kIdxA, kIdxArrA, kIdx, kIdxS, kSl, kSlS, kLen, kLenS, kConvS, kLenc, kApp, kCopy, kMnmx, kExt, kMkf, kMksl, kCall, ← afillT_eq] at ha
    have hfv := cOpd_ok hs hf
    cases hfe : f.ev T <;> rw [hfe] at ha hfv <;> (try simp only at ha) <;> try (cases ha; done)
    rename_i fn first captured
    cases fn <;> (try simp only at ha) <;> try (cases ha; done)
    rename_i g
    obtain ⟨⟨fn, hfn, hbody, hname⟩, hcalls⟩ := hcl g _ h v h' ha
    generalize hce : a.eval fo = cf at hfv
    cases hfv
    rename_i f2 c2 hl1 h1 hl2 h2
    have hR : RL w.heap (LL own β h.H) β (first ++ args.map (·.ev T) ++ captured) (f2 ++ c.args.map a.eval ++ c2).toList := by
      have r1 : RL w.heap (LL own β h.H) β first f2.toList := ⟨by simpa using hl1, fun i c v hc hv => h1 i c v hc (by simpa using hv)⟩
      have r2 : RL w.heap (LL own β h.H) β captured c2.toList := ⟨by simpa using hl2, fun i c v hc hv => h2 i c v hc (by simpa using hv)⟩
      have r3 := cOpds_ok hs has
      have := (r1.append r3).append r2
      simpa using this
    have hrun : (execOp a.eval o).run P w = .ok (.enter g (f2 ++ c.args.map a.eval ++ c2)) w := by
      have hb : fn.body.isNone = false := by cases hq : fn.body <;> simp_all
      simp only [execOp, hop, resolve, hco, hce, Deferred.ofValue, Sem.run_bind, Sem.run_pure, Result.andThen_ok, invoke, callFunc, run_program, hfn]
      simp [hname, hb]
    unfold Oper.wp
    rw [hrun]
    show Calls P g _ w _
    refine (hcalls own β w _ hs.hp hR).mono ?_
    rintro e w' ⟨cv, β', rfl, h3, h4, h5⟩
    exact hK cv w' β' h3 h4 h5
  · obtain ⟨cv, w', β', hrun, h1, h2, h3⟩ := op_okX cl hs hc ha (fun f args he => hcall ⟨f, args, he⟩)
    have hk := hK cv w' β' h1 h2 h3
    unfold Oper.wp
    rcases hrun with hrun | ⟨hrun, rfl⟩
    · rw [hrun]; exact hk
    · rw [hrun]; exact hk
end
end Go.Eng
end
noncomputable section
namespace Go.Eng
/-- is the operation wanted? -/
def gd (T : Tm) : Option (Nat × Bool) → Option Bool
  | none => some true
  | some (t, b) => match T.get t with
    | some (.bool c) => some (c == b)
    | some (.tup []) => some false
    | _ => none

def aops (cl : Handler) : List AOpr → Tm → AH → Option (Tm × AH)
  | [], T, h => some (T, h)
  | o :: r, T, h =>
    match gd T o.guard with
    | some true => match aop cl T h o.op with
      | some (v, h') => aops cl r (tput T o.dst v) h'
      | none => none
    | some false => aops cl r (tput T o.dst skipped) h
    | none => none

def cDst (nt : Nat) : Option Nat → Bool
  | none => true
  | some d => Nat.blt d nt
def cOpr (P : Program) (nt : Nat) (ops : Array Oper) (o : Oper) : Option AOpr :=
    if cDst nt o.dst then
      match o.guard with
      | none => some ⟨o.dst, cOpX P o.op, none⟩
      | some (j, b) => match (ops[j]?).bind (·.dst) with
        | some t => some ⟨o.dst, cOpX P o.op, some (t, b)⟩
        | none => none
    else none
def cOprs (P : Program) (nt : Nat) (ops : Array Oper) : List Oper → Option (List AOpr)
  | [] => some []
  | o :: r => match cOpr P nt ops o, cOprs P nt ops r with
    | some x, some l => some (x :: l)
    | _, _ => none

section
variable {P : Program} {nt : Nat} {ds : List Deferred} {own : Nat → Prop} {β : Bl} {T : Tm} {h : AH} {a : Act} {w : World}
theorem Sim.put (hs : Sim nt ds own β T h a w) {w' : World} {β' : Bl} {h' : AH} {v : AV} {cv : Value} {d : Option Nat} (hd : cDst nt d = true) (h1 : SimH own β' h'.H h'.nx w') (h2 : VR w'.heap (LL own β' h'.H) β' v cv) (h3 : Trans own β h w β' h' w') :
    Sim nt ds own β' (tput T d v) h' (a.put d cv) w' := by
  have old : ∀ t u, T.get t = some u → VR w'.heap (LL own β' h'.H) β' u (a.tmps.getD t Go.undef) := fun t u hu => (hs.tm t u hu).later h3.later
  cases d with
  | none => exact ⟨h1, hs.sz, old, hs.df⟩
  | some d =>
    have hd' : d < nt := by simpa [cDst] using hd
    refine ⟨h1, by simp [Act.put, hs.sz], fun t u hu => ?_, hs.df⟩
    simp only [tput] at hu
    by_cases ht : t = d
    · subst ht
      rw [Tm.get_put_same] at hu; cases hu
      have : t < a.tmps.size := by rw [hs.sz]; exact hd'
      simpa [Act.put, this] using h2
    · rw [Tm.get_put_ne _ _ ht] at hu
      have := old t u hu
      simpa [Act.put, Array.getElem?_setIfInBounds_ne (Ne.symm ht)] using this

theorem gd_wanted (hs : Sim nt ds own β T h a w) {ops : Array Oper} {o : Oper} {ao : AOpr} (hc : cOpr P nt ops o = some ao) {b : Bool} (hg : gd T ao.guard = some b) : Region.wanted o (yielded ops a.tmps) = b := by
  unfold cOpr at hc
  split at hc
  case isFalse => cases hc
  split at hc
  · rename_i hgd
    cases hc
    simp [gd] at hg
    simp [Region.wanted, hgd, hg]
  · rename_i j want hgd
    split at hc
    · rename_i t ht
      cases hc
      simp only [gd] at hg
      have hy : yielded ops a.tmps j = match a.tmps[t]? with | some (.bool b) => some b | _ => none := by unfold yielded; rw [ht]; rfl
      cases hT : T.get t with
      | none => simp [hT] at hg
      | some u =>
        have hv := hs.tm t u hT
        cases u <;> simp [hT] at hg
        · rename_i c
          have : a.tmps[t]? = some (.bool c) := by
            generalize hz : a.tmps.getD t Go.undef = z at hv
            cases hv
            by_cases hlt : t < a.tmps.size
            · simp [hlt] at hz ⊢; exact hz
            · simp [hlt, Go.undef] at hz
          simp only [Region.wanted, hgd, hy, this]
          rw [← hg]
          cases c <;> cases want <;> rfl
        · rename_i vs
          cases vs with
          | cons x y => simp at hg
          | nil =>
            simp at hg
            obtain ⟨cs, hcs, hR⟩ := VR.tup_inv hv
            have hne : ∀ q, a.tmps[t]? ≠ some (.bool q) := by
              intro q hq
              have : a.tmps.getD t Go.undef = .bool q := by simp [hq]
              rw [this] at hcs; cases hcs
            have hyn : yielded ops a.tmps j = none := by
              rw [hy]
              split
              · rename_i q hq; exact absurd hq (hne q)
              · rfl
            simp only [Region.wanted, hgd, hyn]
            rw [hg]; rfl
    · cases hc

theorem cOpr_spec {ops : Array Oper} {o : Oper} {ao : AOpr} (hc : cOpr P nt ops o = some ao) : cOpX P o.op = ao.op ∧ cDst nt o.dst = true ∧ ao.dst = o.dst := by
  unfold cOpr at hc
  split at hc
  · rename_i hd
    split at hc
    · cases hc; exact ⟨rfl, hd, rfl⟩
    · split at hc
      · cases hc; exact ⟨rfl, hd, rfl⟩
      · cases hc
  · cases hc

/-- The operations in the order of the text. -/
theorem aops_wp {cl : Handler} (hcl : HOk P cl) {ops : Array Oper} {Q : Exit → Act → World → Prop} : ∀ (l : List Oper) (al : List AOpr) (T : Tm) (h : AH) (T' : Tm) (h' : AH) (a : Act) (w : World) (β : Bl), cOprs P nt ops l = some al → aops cl al T h = some (T', h') → Sim nt ds own β T h a w →
    (∀ β' a' w', Sim nt ds own β' T' h' a' w' → Trans own β h w β' h' w' → Q .normal a' w') → wpList P ops Q l a w
  | [], al, T, h, T', h', a, w, β, hc, ha, hs, hQ => by
    simp [cOprs] at hc; subst hc
    simp [aops] at ha; obtain ⟨rfl, rfl⟩ := ha
    exact hQ β a w hs (.refl _ _ _ _)
  | o :: l, al, T, h, T', h', a, w, β, hc, ha, hs, hQ => by
    unfold cOprs at hc
    split at hc
    · rename_i ao al' h1 h2
      cases hc
      obtain ⟨q1, q2, q3⟩ := cOpr_spec h1
      unfold aops at ha
      cases hg : gd T ao.guard with
      | none => simp [hg] at ha
      | some b =>
        have hw := gd_wanted hs h1 hg
        unfold wpList
        rw [hw]
        cases b with
        | true =>
          simp only [hg] at ha
          cases hop : aop cl T h ao.op with
          | none => simp [hop] at ha
          | some r =>
            obtain ⟨v, h2'⟩ := r
            simp only [hop] at ha
            rw [if_pos rfl]
            refine .inl (op_wp hcl hs q1 hop fun cv w' β' g1 g2 g3 => ?_)
            rw [q3] at ha
            refine aops_wp hcl l al' _ h2' T' h' _ w' β' h2 ha (hs.put q2 g1 g2 g3) fun β'' a'' w'' k1 k2 => hQ β'' a'' w'' k1 (g3.trans k2)
        | false =>
          simp only [hg] at ha
          rw [if_neg (by simp)]
          rw [q3] at ha
          refine aops_wp hcl l al' _ h T' h' _ w β h2 ha (hs.put q2 hs.hp (?_ : VR _ _ _ skipped Go.undef) (.refl _ _ _ _)) fun β'' a'' w'' k1 k2 => hQ β'' a'' w'' k1 k2
          exact .tup [] #[] rfl (fun i c v hc => by simp at hc)
    · cases hc
end
end Go.Eng
end
