/- Each abstract operation stands for the model's operation: values. Each abstract operation stands for the model's operation: stores, composite values, arithmetic, comparisons. -/
import Derived.Test.YtfegfialedlfcaaGreatDoorEngC
import Derived.Laws.StructEq
import Derived.Laws.Strings
import Derived.Laws.Pointers
set_option linter.unusedSimpArgs false
set_option linter.unusedVariables false
set_option linter.unnecessarySimpa false
noncomputable section
namespace Go.Eng
/-- Lists of related values. -/
def RL (hp : Array Obj) (L : Nat → Prop) (β : Bl) (as : List AV) (vs : List Value) : Prop :=
  as.length = vs.length ∧ ∀ (i : Nat) (c : AV) (v : Value), as[i]? = some c → vs[i]? = some v → VR hp L β c v

section
variable {hp : Array Obj} {L : Nat → Prop} {β : Bl}
theorem RL.nil : RL hp L β [] [] := ⟨rfl, fun i c v h => by simp at h⟩
theorem RL.cons {a : AV} {v : Value} {as : List AV} {vs : List Value} (h : VR hp L β a v) (hs : RL hp L β as vs) : RL hp L β (a :: as) (v :: vs) := by
  refine ⟨by simp [hs.1], fun i c x hc hx => ?_⟩
  cases i with
  | zero => simp at hc hx; subst hc; subst hx; exact h
  | succ i => simp at hc hx; exact hs.2 i c x hc hx
theorem RL.head {a : AV} {v : Value} {as : List AV} {vs : List Value} (h : RL hp L β (a :: as) (v :: vs)) : VR hp L β a v := h.2 0 a v (by simp) (by simp)
theorem RL.tail {a : AV} {v : Value} {as : List AV} {vs : List Value} (h : RL hp L β (a :: as) (v :: vs)) : RL hp L β as vs :=
  ⟨by have := h.1; simp at this; exact this, fun i c x hc hx => h.2 (i + 1) c x (by simpa using hc) (by simpa using hx)⟩
theorem RL.take {as : List AV} {vs : List Value} (h : RL hp L β as vs) (n : Nat) : RL hp L β (as.take n) (vs.take n) :=
  ⟨by simp [h.1], fun i c x hc hx => h.2 i c x (by rw [List.getElem?_take] at hc; split at hc <;> simp_all) (by rw [List.getElem?_take] at hx; split at hx <;> simp_all)⟩
theorem RL.drop {as : List AV} {vs : List Value} (h : RL hp L β as vs) (n : Nat) : RL hp L β (as.drop n) (vs.drop n) :=
  ⟨by simp [h.1], fun i c x hc hx => h.2 (n + i) c x (by rwa [List.getElem?_drop] at hc) (by rwa [List.getElem?_drop] at hx)⟩
theorem RL.append {as bs : List AV} {vs us : List Value} (h : RL hp L β as vs) (k : RL hp L β bs us) : RL hp L β (as ++ bs) (vs ++ us) := by
  refine ⟨by simp [h.1, k.1], fun i c x hc hx => ?_⟩
  rw [List.getElem?_append] at hc hx
  rw [← h.1] at hx
  split at hc
  · rename_i hi; rw [if_pos hi] at hx; exact h.2 i c x hc hx
  · rename_i hi; rw [if_neg hi] at hx; exact k.2 _ c x hc hx
theorem RL.later {as : List AV} {vs : List Value} {hp' : Array Obj} {L' : Nat → Prop} {β' : Bl} (hl : Later hp L β hp' L' β') (h : RL hp L β as vs) : RL hp' L' β' as vs :=
  ⟨h.1, fun i c v hc hv => (h.2 i c v hc hv).later hl⟩
theorem RL.agg {as : List AV} {vs : Array Value} (h : RL hp L β as vs.toList) : VR hp L β (.agg as) (.agg vs) :=
  .agg as vs (by simpa using h.1) fun i c v hc hv => h.2 i c v hc (by simpa using hv)
theorem RL.tup {as : List AV} {vs : Array Value} (h : RL hp L β as vs.toList) : VR hp L β (.tup as) (.tuple vs) :=
  .tup as vs (by simpa using h.1) fun i c v hc hv => h.2 i c v hc (by simpa using hv)
theorem RL.get {as : List AV} {vs : List Value} (h : RL hp L β as vs) {i : Nat} {c : AV} (hc : as[i]? = some c) : ∃ v, vs[i]? = some v ∧ VR hp L β c v := by
  have hi : i < vs.length := by rw [← h.1]; exact (List.getElem?_eq_some_iff.1 hc).1
  exact ⟨vs[i], by simp [hi], h.2 i c _ hc (by simp [hi])⟩
theorem RL.ones {as : List AV} {vs : List Value} (h : RL hp L β as vs) (ho : Eng.ones as = true) : ∀ v ∈ vs, v.oneCell' = true := by
  intro v hv
  obtain ⟨i, hi, rfl⟩ := List.getElem_of_mem hv
  have hia : i < as.length := by rw [h.1]; exact hi
  have h1 : as[i].one = true := List.all_eq_true.1 ho _ (List.getElem_mem hia)
  exact (h.2 i as[i] vs[i] (by simp [hia]) (by simp [hi])).one h1

theorem cScalar_ok {v : Value} {a : AV} (h : cScalar v = some a) : VR hp L β a v := by
  unfold cScalar at h
  split at h <;> cases h
  case h_1 => exact .bool _
  case h_2 => exact .int _ _
  case h_3 s => have := VR.str (hp := hp) (L := L) (β := β) s.data.toList; simpa using this
  case h_4 => exact .nilptr
  case h_5 => exact .nilsl
  case h_6 => exact .nilmap
  case h_7 => exact .nilfunc
  case h_8 => exact .nilif
theorem cVals_ok : ∀ {vs : List Value} {as : List AV}, cVals vs = some as → RL hp L β as vs
  | [], as, h => by simp [cVals] at h; subst h; exact .nil
  | v :: vs, as, h => by
    unfold cVals at h
    split at h
    · rename_i a as' h1 h2
      cases h
      exact .cons (cScalar_ok h1) (cVals_ok h2)
    · cases h
theorem cVal_ok {v : Value} {a : AV} (h : cVal v = some a) : VR hp L β a v := by
  unfold cVal at h
  split at h
  · rename_i cs
    cases hq : cVals cs.toList with
    | none => simp [hq] at h
    | some as => simp [hq] at h; subst h; exact RL.agg (cVals_ok hq)
  · exact cScalar_ok h
end
structure Sim (nt : Nat) (ds : List Deferred) (own : Nat → Prop) (β : Bl) (T : Tm) (h : AH) (a : Act) (w : World) : Prop where
  hp : SimH own β h.H h.nx w
  sz : a.tmps.size = nt
  tm : ∀ t v, T.get t = some v → VR w.heap (LL own β h.H) β v (a.tmps.getD t Go.undef)
  df : a.defers = ds

section
variable {nt : Nat} {ds : List Deferred} {own : Nat → Prop} {β : Bl} {T : Tm} {h : AH} {a : Act} {w : World}
theorem cOpd_ok (hs : Sim nt ds own β T h a w) {x : Operand} {y : Opd} (hx : cOpd x = some y) : VR w.heap (LL own β h.H) β (y.ev T) (a.eval x) := by
  cases x with
  | tmp t =>
    simp [cOpd] at hx; subst hx
    simp only [Opd.ev, Act.eval]
    cases hg : T.get t with
    | none => exact .undef _
    | some v => exact hs.tm t v hg
  | const v =>
    simp [cOpd] at hx
    obtain ⟨b, hb, rfl⟩ := hx
    exact cVal_ok hb
  | global g =>
    simp [cOpd] at hx; subst hx
    exact .gptr g 0
  | func f =>
    simp [cOpd] at hx; subst hx
    exact .func _ [] [] #[] #[] rfl rfl (fun i c v h => by simp at h) (fun i c v h => by simp at h)
theorem cOpds_ok (hs : Sim nt ds own β T h a w) : ∀ {xs : List Operand} {ys : List Opd}, cOpds xs = some ys → RL w.heap (LL own β h.H) β (ys.map (·.ev T)) (xs.map a.eval)
  | [], ys, hx => by simp [cOpds] at hx; subst hx; exact .nil
  | x :: xs, ys, hx => by
    unfold cOpds at hx
    split at hx
    · rename_i y ys' h1 h2
      cases hx
      exact .cons (cOpd_ok hs h1) (cOpds_ok hs h2)
    · cases hx
end
/-- An operation that ends in a value: what it does to the world and to the objects. -/
def OpOk (P : Program) (own : Nat → Prop) (β : Bl) (h : AH) (w : World) (s : Sem Next) (v : AV) (h' : AH) : Prop :=
  ∃ cv w' β', (s.run P w = .ok (.value cv) w' ∨ (s.run P w = .ok .skip w' ∧ cv = Go.undef)) ∧ SimH own β' h'.H h'.nx w' ∧ VR w'.heap (LL own β' h'.H) β' v cv ∧ Trans own β h w β' h' w'

section
variable {P : Program} {own : Nat → Prop} {β : Bl} {h : AH} {w : World}
theorem OpOk.still {s : Sem Next} {v : AV} {cv : Value} (hs : SimH own β h.H h.nx w) (hr : s.run P w = .ok (.value cv) w) (hv : VR w.heap (LL own β h.H) β v cv) : OpOk P own β h w s v h :=
  ⟨cv, w, β, .inl hr, hs, hv, .refl _ _ _ _⟩

theorem cellsAt_some {id : Nat} {cs : List AV} (hc : h.cellsAt id = some cs) : h.H.get id = some (.cells cs) := by
  unfold AH.cellsAt at hc
  split at hc
  · rename_i cs' hg; cases hc; exact hg
  · cases hc

theorem add_lit' (b o n : Nat) : (⟨b, o, none⟩ : Addr).add n = ⟨b, o + n, none⟩ := by
  unfold Addr.add; split <;> simp_all

/-- What a live row of cells is in the world. -/
theorem SimH.row (hs : SimH own β h.H h.nx w) {id : Nat} {cs : List AV} (hc : h.cellsAt id = some cs) :
    ∃ b base cur e, h.H.get id = some (.cells cs) ∧ β id = some (b, base) ∧ w.heap[b]? = some (.cells cur e (0, 0)) ∧ base + cs.length ≤ cur.size ∧
      ∀ (i : Nat) (c : AV) (v : Value), cs[i]? = some c → cur[base + i]? = some v → VR w.heap (LL own β h.H) β c v := by
  have hg := cellsAt_some hc
  obtain ⟨b, base, h1, _, cur, e, h2, h3, h4⟩ := hs.obj id _ hg
  exact ⟨b, base, cur, e, hg, h1, h2, h3, h4⟩

/-- What a listed variable is in the world. -/
theorem SimH.glob (hs : SimH own β h.H h.nx w) {g : Nat} {cs : List AV} (hc : h.globAt g = some cs) :
    ∃ cur e fz, w.heap[g]? = some (.cells cur e fz) ∧ cs.length ≤ cur.size ∧ ∀ (i : Nat) (c : AV) (v : Value), cs[i]? = some c → cur[i]? = some v → VR w.heap (LL own β h.H) β c v := by
  unfold AH.globAt at hc
  split at hc
  · rename_i g' cs' hg
    split at hc
    · rename_i hgg
      cases hc
      subst hgg
      obtain ⟨b, base, h1, _, h0, h5, cur, e, fz, h2, h3, h4⟩ := hs.obj _ _ hg
      subst h5
      exact ⟨cur, e, fz, h2, Nat.le_of_eq h3, h4⟩
    · cases hc
  · cases hc

theorem cut_some {cs as : List AV} {off n : Nat} (hc : cut cs off n = some as) : off + n ≤ cs.length ∧ as = (cs.drop off).take n := by
  unfold cut at hc
  split at hc
  · cases hc; exact ⟨by assumption, rfl⟩
  · cases hc
theorem splice_some {cs new as : List AV} {off : Nat} (hc : splice cs off new = some as) : off + new.length ≤ cs.length ∧ as = cs.take off ++ new ++ cs.drop (off + new.length) := by
  unfold splice at hc
  split at hc
  · cases hc; exact ⟨by assumption, rfl⟩
  · cases hc

/-- Cells of a row that is known: those from o on, n of them. -/
theorem row_RL {hp : Array Obj} {L : Nat → Prop} {β : Bl} {cs : List AV} {cur : Array Value} {o : Nat} (hl : o + cs.length ≤ cur.size) (hr : ∀ (i : Nat) (c : AV) (v : Value), cs[i]? = some c → cur[o + i]? = some v → VR hp L β c v) :
    RL hp L β cs ((cur.toList.drop o).take cs.length) :=
  ⟨by simp; omega, fun i c v hc hv => hr i c v hc (by
    rw [List.getElem?_take] at hv
    split at hv
    · rw [List.getElem?_drop] at hv; simpa using hv
    · cases hv)⟩
theorem row_cells {b o n : Nat} {cur : Array Value} {e : TypeId} {fz : Nat × Nat} (hb : w.heap[b]? = some (.cells cur e fz)) :
    ∀ (j : Nat) (v : Value), ((cur.toList.drop o).take n)[j]? = some v → w.cell? ((⟨b, o, none⟩ : Addr).add j) = some v := by
  intro j v hv
  rw [add_lit', cell_of_row w b _ cur e fz hb]
  rw [List.getElem?_take] at hv
  split at hv
  · rw [List.getElem?_drop] at hv; simpa using hv
  · cases hv

/-- n cells from an address on: what a load of them gives. -/
theorem aloadn_ok (hs : SimH own β h.H h.nx w) {n : Nat} {av : AV} {cv : Value} {as : List AV} (hl : aloadn h n av = some as) (hv : VR w.heap (LL own β h.H) β av cv) :
    ∃ ad vs, cv = .pointer (some ad) ∧ RL w.heap (LL own β h.H) β as vs ∧ vs.length = n ∧ ∀ (j : Nat) (v : Value), vs[j]? = some v → w.cell? (ad.add j) = some v := by
  cases hv <;> simp only [aloadn] at hl <;> try cases hl
  case ptr id off b base hβ =>
    cases hc : h.cellsAt id with
    | none => simp [hc] at hl
    | some cs =>
      simp only [hc] at hl
      obtain ⟨h1, rfl⟩ := cut_some hl
      obtain ⟨b', base', cur, e, hg, hβ', hb, hlen, hr⟩ := hs.row hc
      rw [hβ] at hβ'; cases hβ'
      have hR := ((row_RL hlen hr).drop off).take n
      have heq : (((cur.toList.drop base).take cs.length).drop off).take n = (cur.toList.drop (base + off)).take n := by
        rw [List.drop_take, List.take_take, List.drop_drop, Nat.min_eq_left (by omega)]
      rw [heq] at hR
      refine ⟨_, _, rfl, hR, ?_, row_cells hb⟩
      have := hR.1
      simp at this ⊢
      omega
  case gptr g off =>
    cases hc : h.globAt g with
    | none => simp [hc] at hl
    | some cs =>
      simp only [hc] at hl
      obtain ⟨h1, rfl⟩ := cut_some hl
      obtain ⟨cur, e, fz, hb, hlen, hr⟩ := hs.glob hc
      have hR := ((row_RL (cs := cs) (cur := cur) (o := 0) (by omega) (fun i c v hc hv => hr i c v hc (by rwa [Nat.zero_add] at hv))).drop off).take n
      have heq : (((cur.toList.drop 0).take cs.length).drop off).take n = (cur.toList.drop off).take n := by
        rw [List.drop_zero, List.drop_take, List.take_take, Nat.min_eq_left (by omega)]
      rw [heq] at hR
      refine ⟨_, _, rfl, hR, ?_, row_cells hb⟩
      have := hR.1
      simp at this ⊢
      omega
  case pptr cs b o cur e fz hb hL hlen hr =>
    obtain ⟨h1, rfl⟩ := cut_some hl
    have hR := ((row_RL hlen hr).drop 0).take n
    have heq : (((cur.toList.drop o).take cs.length).drop 0).take n = (cur.toList.drop o).take n := by
      rw [List.drop_zero, List.take_take, Nat.min_eq_left (by omega)]
    rw [heq] at hR
    refine ⟨_, _, rfl, hR, ?_, row_cells hb⟩
    have := hR.1
    simp at this ⊢
    omega

theorem aload1_ok (hs : SimH own β h.H h.nx w) {av : AV} {cv : Value} {x : AV} (hl : aload1 h av = some x) (hv : VR w.heap (LL own β h.H) β av cv) :
    ∃ ad v, cv = .pointer (some ad) ∧ VR w.heap (LL own β h.H) β x v ∧ w.cell? ad = some v := by
  have h1 : aloadn h 1 av = some [x] := by
    cases av <;> simp only [aload1] at hl <;> try cases hl
    case ptr id off =>
      simp only [aloadn]
      cases hc : h.cellsAt id with
      | none => simp [hc] at hl
      | some cs =>
        simp only [hc] at hl ⊢
        obtain ⟨hlt, hx⟩ := List.getElem?_eq_some_iff.1 hl
        unfold cut
        rw [if_pos (by omega)]
        congr 1
        rw [List.drop_eq_getElem_cons hlt]
        simp [hx]
    case gptr g off =>
      simp only [aloadn]
      cases hc : h.globAt g with
      | none => simp [hc] at hl
      | some cs =>
        simp only [hc] at hl ⊢
        obtain ⟨hlt, hx⟩ := List.getElem?_eq_some_iff.1 hl
        unfold cut
        rw [if_pos (by omega)]
        congr 1
        rw [List.drop_eq_getElem_cons hlt]
        simp [hx]
    case pptr cs =>
      simp only [aloadn]
      cases cs with
      | nil => simp at hl
      | cons c cs => simp at hl; subst hl; simp [cut]
  obtain ⟨ad, vs, h2, h3, h4, h5⟩ := aloadn_ok hs h1 hv
  match vs, h4 with
  | [v], _ => exact ⟨ad, v, h2, h3.head, by have := h5 0 v (by simp); simpa [Addr.add] using this⟩

theorem aggOf_none {t : TypeId} (hq : aggOf P t = some none) : (isAgg t).run P w = .ok false w := by
  unfold aggOf at hq
  cases hu : P.underlying t with
  | none => simp [hu] at hq
  | some d =>
    simp only [isAgg, Sem.run_bind, run_underlying hu, Result.andThen_ok]
    cases d <;> simp [hu] at hq <;> rfl
theorem szOf_some {t : TypeId} {n : Nat} (hq : szOf P t = some n) : (sizeOf t).run P w = .ok n w := by
  unfold szOf at hq
  cases hi : P.info? t with
  | none => simp [hi] at hq
  | some i => simp [hi] at hq; simp [sizeOf, typeInfo, hi, hq]
theorem aggOf_some {t : TypeId} {n : Nat} (hq : aggOf P t = some (some n)) : (isAgg t).run P w = .ok true w ∧ (sizeOf t).run P w = .ok n w := by
  unfold aggOf at hq
  cases hu : P.underlying t with
  | none => simp [hu] at hq
  | some d =>
    simp only [isAgg, Sem.run_bind, run_underlying hu, Result.andThen_ok]
    cases d <;> simp [hu] at hq
    all_goals exact ⟨rfl, szOf_some hq⟩

theorem load1_ok (hs : SimH own β h.H h.nx w) {t : TypeId} {av : AV} {cv : Value} {x : AV} (hq : aggOf P t = some none) (hl : aload1 h av = some x) (hv : VR w.heap (LL own β h.H) β av cv) :
    ∃ v, (Instr.loadAt t cv).run P w = .ok v w ∧ VR w.heap (LL own β h.H) β x v := by
  obtain ⟨ad, v, rfl, h1, h2⟩ := aload1_ok hs hl hv
  refine ⟨v, ?_, h1⟩
  simp only [Instr.loadAt, Instr.sureAddr, Sem.run_bind, Sem.run_pure, Result.andThen_ok, loadVar, aggOf_none hq]
  simp [h2]
theorem loadn_ok (hs : SimH own β h.H h.nx w) {t : TypeId} {n : Nat} {av : AV} {cv : Value} {as : List AV} (hq : aggOf P t = some (some n)) (hl : aloadn h n av = some as) (hv : VR w.heap (LL own β h.H) β av cv) :
    ∃ v, (Instr.loadAt t cv).run P w = .ok v w ∧ VR w.heap (LL own β h.H) β (.agg as) v := by
  obtain ⟨ad, vs, rfl, h1, h2, h3⟩ := aloadn_ok hs hl hv
  obtain ⟨q1, q2⟩ := aggOf_some (w := w) hq
  refine ⟨.agg vs.toArray, ?_, RL.agg (by simpa using h1)⟩
  have hld := run_loadCells_list (P := P) w ad vs h3
  rw [h2] at hld
  simp only [Instr.loadAt, Instr.sureAddr, Sem.run_bind, Sem.run_pure, Result.andThen_ok, loadVar, q1, q2, hld, if_true]
end
end Go.Eng
end
noncomputable section
namespace Go.Eng
theorem getElem?_splice {α : Type} (l new : List α) (off i : Nat) (h : off + new.length ≤ l.length) :
    (l.take off ++ new ++ l.drop (off + new.length))[i]? = if i < off then l[i]? else if i < off + new.length then new[i - off]? else l[i]? := by
  rw [List.append_assoc, List.getElem?_append, List.getElem?_append, List.getElem?_take, List.getElem?_drop, List.length_take, Nat.min_eq_left (by omega)]
  by_cases h1 : i < off
  · simp [h1]
  · by_cases h2 : i < off + new.length
    · have : i - off < new.length := by omega
      simp [h1, h2, this]
    · have h3 : ¬ (i - off < new.length) := by omega
      simp only [h1, h2, h3, if_false]
      congr 1
      omega

section
variable {hp : Array Obj} {L : Nat → Prop} {β : Bl}
theorem RL.splice {as bs : List AV} {vs us : List Value} (h : RL hp L β as vs) (k : RL hp L β bs us) (off : Nat) : RL hp L β (as.take off ++ bs ++ as.drop (off + bs.length)) (vs.take off ++ us ++ vs.drop (off + us.length)) := by
  rw [← k.1]
  exact ((h.take off).append k).append (h.drop _)

theorem stow_cells {x : AV} {v : Value} (hx : stow x = true) (h : VR hp L β x v) : RL hp L β x.cells v.cells.toList := by
  cases h <;> simp only [AV.cells, Value.cells] <;> first
    | (simp [stow, AV.one] at hx; done)
    | (refine RL.cons ?_ RL.nil; constructor <;> assumption)
    | skip
  case agg cs vs hl h => exact ⟨by simpa using hl, fun i c v hc hv => h i c v hc (by simpa using hv)⟩
end
section
variable {P : Program} {own : Nat → Prop} {β : Bl} {h : AH} {w : World}
/-- A store into an owned row: cells 'new' from 'off' on. -/
theorem storeRow_ok (hs : SimH own β h.H h.nx w) {id off : Nat} {cs cs' new : List AV} {vs : List Value} {b base : Nat} (hc : h.cellsAt id = some cs) (hβ : β id = some (b, base)) (hsp : splice cs off new = some cs') (hv : RL w.heap (LL own β h.H) β new vs)
    (ho : ones new = true) : ∃ w', (storeCells ⟨b, base + off, none⟩ vs).run P w = .ok () w' ∧ SimH own β (h.set id (.cells cs')).H (h.set id (.cells cs')).nx w' ∧ Trans own β h w β (h.set id (.cells cs')) w' := by
  obtain ⟨h1, rfl⟩ := splice_some hsp
  obtain ⟨b', base', cur, e, hg, hβ', hb, hlen, hr⟩ := hs.row hc
  rw [hβ] at hβ'; cases hβ'
  have hlv : new.length = vs.length := hv.1
  have hst := run_storeCells_at P b (base + off) e vs 0 cur w hb (by omega) (hv.ones ho)
  simp only [Nat.add_zero] at hst
  refine ⟨_, hst, ?_⟩
  have hsz : (cur.toList.take (base + off) ++ vs ++ cur.toList.drop (base + off + vs.length)).toArray.size = cur.size := by simp; omega
  refine hs.writeCells hg hβ hb rfl hsz (by simp; omega) fun i c v hc' hv' => ?_
  rw [getElem?_splice _ _ _ _ h1] at hc'
  have hv2 : (cur.toList.take (base + off) ++ vs ++ cur.toList.drop (base + off + vs.length))[base + i]? = some v := by simpa using hv'
  rw [getElem?_splice _ _ _ _ (by simp; omega)] at hv2
  split at hc'
  · rw [if_pos (by omega)] at hv2; exact hr i c v hc' (by simpa using hv2)
  · rw [if_neg (by omega)] at hv2
    split at hc'
    · rw [if_pos (by omega)] at hv2
      exact hv.2 _ c v hc' (by rw [show base + i - (base + off) = i - off by omega] at hv2; exact hv2)
    · rw [if_neg (by omega)] at hv2; exact hr i c v hc' (by simpa using hv2)

theorem store_ok (hs : SimH own β h.H h.nx w) {t : TypeId} {n id off : Nat} {cs cs' : List AV} {x : AV} {cv cx : Value} (hq : szOf P t = some n) (hx : stow x = true) (hn : x.cells.length = n) (ho : ones x.cells = true)
    (hc : h.cellsAt id = some cs) (hsp : splice cs off x.cells = some cs') (hv : VR w.heap (LL own β h.H) β (.ptr id off) cv) (hvx : VR w.heap (LL own β h.H) β x cx) :
    ∃ w', (Instr.storeAt t cv cx).run P w = .ok () w' ∧ SimH own β (h.set id (.cells cs')).H (h.set id (.cells cs')).nx w' ∧ Trans own β h w β (h.set id (.cells cs')) w' := by
  cases hv
  rename_i b base hβ
  have hR := stow_cells hx hvx
  obtain ⟨w', h1, h2, h3⟩ := storeRow_ok (P := P) hs hc hβ hsp hR ho
  refine ⟨w', ?_, h2, h3⟩
  have hl : cx.cells.size = n := by have := hR.1; simp at this; omega
  simp only [Instr.storeAt, Instr.sureAddr, Sem.run_bind, Sem.run_pure, Result.andThen_ok, storeVar, szOf_some hq, hl]
  simp [h1]

/-- An operation that makes a new object, under a number r that is free. -/
def OpAt (P : Program) (own : Nat → Prop) (β : Bl) (H : Hp) (nx : Nat) (w : World) (s : Sem Next) (v : AV) (ob : AObj) (r : Nat) : Prop :=
  ∃ cv w', s.run P w = .ok (.value cv) w' ∧ SimH own (upd β r w.heap.size 0) (H.put r ob) (max nx (r + 1)) w' ∧ VR w'.heap (LL own (upd β r w.heap.size 0) (H.put r ob)) (upd β r w.heap.size 0) v cv ∧
    (nx ≤ r → Trans own β ⟨H, nx⟩ w (upd β r w.heap.size 0) ⟨H.put r ob, max nx (r + 1)⟩ w') ∧ Trans own β ⟨H, 0⟩ w (upd β r w.heap.size 0) ⟨H.put r ob, 0⟩ w'
theorem OpAt.ok {s : Sem Next} {v : AV} {ob : AObj} (ho : OpAt P own β h.H h.nx w s v ob h.nx) : OpOk P own β h w s v (h.add ob) := by
  obtain ⟨cv, w', h1, h2, h3, h4, _⟩ := ho
  have hm : max h.nx (h.nx + 1) = h.nx + 1 := by omega
  have h4' := h4 (Nat.le_refl _)
  rw [hm] at h2 h4'
  exact ⟨cv, w', _, .inl h1, h2, h3, h4'⟩

/-- A new object made of known cells. -/
theorem new_ok {H : Hp} {nx : Nat} (hs : SimH own β H nx w) (r : Nat) (hr : β r = none) (t : TypeId) {cs : List AV} {cur : Array Value} (hR : RL w.heap (LL own β H) β cs cur.toList) :
    ∃ w', (newRow t cur).run P w = .ok ⟨w.heap.size, 0, none⟩ w' ∧ SimH own (upd β r w.heap.size 0) (H.put r (.cells cs)) (max nx (r + 1)) w' ∧ upd β r w.heap.size 0 r = some (w.heap.size, 0) ∧
      ((nx ≤ r → Trans own β ⟨H, nx⟩ w (upd β r w.heap.size 0) ⟨H.put r (.cells cs), max nx (r + 1)⟩ w') ∧ Trans own β ⟨H, 0⟩ w (upd β r w.heap.size 0) ⟨H.put r (.cells cs), 0⟩ w') ∧ w'.heap[w.heap.size]? = some (.cells cur t (0, 0)) := by
  have hl : cs.length = cur.size := by simpa using hR.1
  obtain ⟨h1, h2, h3⟩ := hs.newCells (w' := { w with heap := w.heap.push (.cells cur t) }) r hr cs cur t rfl rfl rfl rfl (by omega) (fun i c v hc hv => hR.2 i c v hc (by simpa using hv))
  exact ⟨_, rfl, h1, upd_same _ _ _ _, ⟨h2, h3⟩, by simp⟩

theorem zeroOf_some {t : TypeId} {z : List AV} (hq : zeroOf P t = some z) {hp : Array Obj} {L : Nat → Prop} {β : Bl} : ∃ v, (zeroValue t).run P w = .ok v w ∧ RL hp L β z v.cells.toList := by
  unfold zeroOf at hq
  split at hq
  · rename_i i hi
    split at hq
    · rename_i v hv
      exact ⟨v, by simp [zeroValue, typeInfo, hi, hv], cVals_ok hq⟩
    · cases hq
  · cases hq

theorem alloc_at {H : Hp} {nx : Nat} (hs : SimH own β H nx w) (r : Nat) (hr : β r = none) {t : TypeId} {z : List AV} (hq : zeroOf P t = some z) :
    OpAt P own β H nx w (do pure (.value (← Instr.alloc t true (.tuple #[])))) (.ptr r 0) (.cells z) r := by
  obtain ⟨v, h1, h2⟩ := zeroOf_some (P := P) (w := w) hq (hp := w.heap) (L := LL own β H) (β := β)
  obtain ⟨w', h3, h4, h5, h6, h7⟩ := new_ok (P := P) hs r hr t (cs := z) (cur := v.cells) h2
  refine ⟨_, w', ?_, h4, VR.ptr r 0 w.heap.size 0 h5, h6⟩
  simp only [Instr.alloc, newVar, Sem.run_bind, h1, Result.andThen_ok, h3, Sem.run_pure]

theorem box_at {H : Hp} {nx : Nat} (hs : SimH own β H nx w) (r : Nat) (hr : β r = none) (t : TypeId) {x : AV} {cx : Value} (hx : stow x = true) (hvx : VR w.heap (LL own β H) β x cx) :
    OpAt P own β H nx w (do pure (.value (← Instr.box t cx))) (.ptr r 0) (.cells x.cells) r := by
  obtain ⟨w', h3, h4, h5, h6, h7⟩ := new_ok (P := P) hs r hr t (cs := x.cells) (cur := cx.cells) (stow_cells hx hvx)
  refine ⟨_, w', ?_, h4, VR.ptr r 0 w.heap.size 0 h5, h6⟩
  simp only [Instr.box, newVar, Sem.run_bind, Result.andThen_ok, h3, Sem.run_pure]
end
/-! ### composite literals -/
theorem foldl_set (off : Nat) : ∀ (vs : List Value) (k : Nat) (cs : Array Value), off + k + vs.length ≤ cs.size →
    ((vs.zipIdx k).foldl (fun cs p => cs.setIfInBounds (off + p.2) p.1) cs).toList = cs.toList.take (off + k) ++ vs ++ cs.toList.drop (off + k + vs.length)
  | [], k, cs, h => by simp
  | v :: vs, k, cs, h => by
    simp only [List.length_cons] at h
    simp only [List.zipIdx_cons, List.foldl_cons]
    rw [foldl_set off vs (k + 1) (cs.setIfInBounds (off + k) v) (by simp; omega)]
    have e := list_seg_step cs.toList (off + k) v vs (by simp; omega)
    simpa [Array.toList_setIfInBounds, Nat.add_assoc] using e

theorem fill_ok {hp : Array Obj} {L : Nat → Prop} {β : Bl} {T : Tm} {ρ : Operand → Value} (place : Nat → Option (Nat × Nat)) (hρ : ∀ x y, cOpd x = some y → VR hp L β (y.ev T) (ρ x)) :
    ∀ (ps : List (Nat × Operand)) (aps : List (Nat × Nat × Opd)) (zero cs : List AV) (zv : Array Value), cParts place ps = some aps → afillT T zero aps = some cs → RL hp L β zero zv.toList →
      ∃ cv, Instr.fill place zv (ps.map fun p => (p.1, ρ p.2)) = some cv ∧ RL hp L β cs cv.toList
  | [], aps, zero, cs, zv, hp1, hf, hR => by
    simp [cParts] at hp1; subst hp1
    simp [afillT] at hf; subst hf
    exact ⟨zv, by simp [Instr.fill], hR⟩
  | (i, x) :: ps, aps, zero, cs, zv, hp1, hf, hR => by
    unfold cParts at hp1
    split at hp1
    · rename_i o s y l h1 h2 h3
      cases hp1
      unfold afillT at hf
      split at hf
      · rename_i hst
        simp only at hf
        split at hf
        · rename_i hlen
          cases hsp : Eng.splice zero o (y.ev T).cells with
          | none => simp [hsp] at hf
          | some cs1 =>
            simp only [hsp] at hf
            obtain ⟨hb, rfl⟩ := splice_some hsp
            have hx := stow_cells (show stow (y.ev T) = true from hst) (hρ x y h2)
            have hxl : (ρ x).cells.size = s := by have := hx.1; simp at this; omega
            have hzl : zv.size = zero.length := by have := hR.1; simp at this; omega
            have hfold : ((ρ x).cells.zipIdx.foldl (fun cs p => cs.setIfInBounds (o + p.2) p.1) zv).toList = zv.toList.take o ++ (ρ x).cells.toList ++ zv.toList.drop (o + (ρ x).cells.toList.length) := by
              rw [← Array.foldl_toList]
              have := foldl_set o (ρ x).cells.toList 0 zv (by simp; omega)
              simpa using this
            have hR2 := hR.splice hx o
            rw [← hfold] at hR2
            obtain ⟨cv, hc1, hc2⟩ := fill_ok place hρ ps l _ cs _ h3 hf hR2
            refine ⟨cv, ?_, hc2⟩
            simp only [List.map_cons, Instr.fill, h1, hxl]
            rw [if_neg (by simp; omega)]
            exact hc1
        · cases hf
      · cases hf
    · cases hp1

section
variable {P : Program} {own : Nat → Prop} {β : Bl} {h : AH} {w : World}
theorem run_mapM_list {α γ : Type} (f : α → Sem γ) (g : α → γ) : ∀ (l : List α), (∀ x ∈ l, (f x).run P w = .ok (g x) w) → (l.mapM f).run P w = .ok (l.map g) w
  | [], _ => by simp
  | x :: l, hl => by
    have h1 := hl x (by simp)
    have h2 := run_mapM_list f g l (fun y hy => hl y (by simp [hy]))
    rw [List.mapM_cons]
    simp only [Sem.run_bind, h1, Result.andThen_ok, h2, Sem.run_pure, List.map_cons]
theorem run_mapM_array {α γ : Type} (f : α → Sem γ) (g : α → γ) (a : Array α) (ha : ∀ x ∈ a.toList, (f x).run P w = .ok (g x) w) : (a.mapM f).run P w = .ok (a.map g) w := by
  have h1 := run_mapM_list (P := P) (w := w) f g a.toList ha
  have h2 : a.mapM f = (do let l ← a.toList.mapM f; pure l.toArray) := by
    rw [Array.mapM_eq_mapM_toList]
    rfl
  rw [h2]
  simp only [Sem.run_bind, h1, Result.andThen_ok, Sem.run_pure]
  simp only [List.map_toArray, Array.toArray_toList, ← Array.toList_map]

theorem build_struct_ok {T : Tm} {ρ : Operand → Value} (hρ : ∀ x y, cOpd x = some y → VR w.heap (LL own β h.H) β (y.ev T) (ρ x)) {t : TypeId} {fs : Array Field} {ps : Array (Nat × Operand)} {aps : List (Nat × Nat × Opd)} {zero cs : List AV}
    (hu : P.underlying t = some (.struct fs)) (hfs : fs.all (fun f => (P.info? f.type).isSome) = true) (hz : zeroOf P t = some zero) (hp1 : cParts (fieldPlaces P fs) ps.toList = some aps) (hf : afillT T zero aps = some cs) :
    ∃ v, (Instr.build t (ps.map fun (i, x) => (i, ρ x))).run P w = .ok v w ∧ VR w.heap (LL own β h.H) β (.agg cs) v := by
  obtain ⟨zv, h1, h2⟩ := zeroOf_some (P := P) (w := w) hz (hp := w.heap) (L := LL own β h.H) (β := β)
  obtain ⟨cv, h3, h4⟩ := fill_ok (fieldPlaces P fs) hρ ps.toList aps zero cs zv.cells hp1 hf h2
  refine ⟨.agg cv, ?_, RL.agg h4⟩
  have hm := run_mapM_array (P := P) (w := w) (fun f : Field => do pure (f.offset, ← sizeOf f.type)) (fun f => (f.offset, P.cellsOf f.type)) fs (by
    intro f hfm
    have hsm := Array.all_eq_true_iff_forall_mem.1 hfs f (by simpa using hfm)
    cases hi : P.info? f.type with
    | none => simp [hi] at hsm
    | some i => simp [sizeOf, typeInfo, hi, Program.cellsOf])
  have hplace : (fun i => (fs.map fun f => (f.offset, P.cellsOf f.type))[i]?) = fieldPlaces P fs := by
    funext i
    simp only [Array.getElem?_map, fieldPlaces]
    cases hi : fs[i]? with
    | none => rfl
    | some f =>
      have hsm := Array.all_eq_true_iff_forall_mem.1 hfs f (Array.mem_of_getElem? hi)
      cases hii : P.info? f.type with
      | none => simp [hii] at hsm
      | some j => simp [szOf, Program.cellsOf, hii]
  simp only [Instr.build, Sem.run_bind, h1, Result.andThen_ok, run_underlying hu, hm, hplace]
  have hl : (ps.map fun (i, x) => (i, ρ x)).toList = ps.toList.map fun p => (p.1, ρ p.2) := by simp
  rw [hl, h3]
  rfl

theorem build_array_ok {T : Tm} {ρ : Operand → Value} (hρ : ∀ x y, cOpd x = some y → VR w.heap (LL own β h.H) β (y.ev T) (ρ x)) {t e : TypeId} {n s : Nat} {ps : Array (Nat × Operand)} {aps : List (Nat × Nat × Opd)} {zero cs : List AV}
    (hu : P.underlying t = some (.array n e)) (hsz : szOf P e = some s) (hz : zeroOf P t = some zero) (hp1 : cParts (fun i => some (i * s, s)) ps.toList = some aps) (hf : afillT T zero aps = some cs) :
    ∃ v, (Instr.build t (ps.map fun (i, x) => (i, ρ x))).run P w = .ok v w ∧ VR w.heap (LL own β h.H) β (.agg cs) v := by
  obtain ⟨zv, h1, h2⟩ := zeroOf_some (P := P) (w := w) hz (hp := w.heap) (L := LL own β h.H) (β := β)
  obtain ⟨cv, h3, h4⟩ := fill_ok (fun i => some (i * s, s)) hρ ps.toList aps zero cs zv.cells hp1 hf h2
  refine ⟨.agg cv, ?_, RL.agg h4⟩
  simp only [Instr.build, Sem.run_bind, h1, Result.andThen_ok, run_underlying hu, szOf_some hsz]
  have hl : (ps.map fun (i, x) => (i, ρ x)).toList = ps.toList.map fun p => (p.1, ρ p.2) := by simp
  rw [hl, h3]
  rfl

/-- The zero cells of n elements. -/
theorem repl_RL {hp : Array Obj} {L : Nat → Prop} {β : Bl} {z : List AV} {zv : Array Value} (hR : RL hp L β z zv.toList) (h0 : 0 < z.length) (n : Nat) :
    RL hp L β (repl n z) ((Array.range (n * z.length)).map fun i => zv[i % zv.size]!).toList := by
  have hzs : zv.size = z.length := by have := hR.1; simp at this; omega
  have hlen : ∀ n, (repl n z).length = n * z.length := by
    intro n; unfold repl; simp
  have hget : ∀ n i c, (repl n z)[i]? = some c → z[i % z.length]? = some c := by
    intro n
    induction n with
    | zero => intro i c hc; simp [repl] at hc
    | succ n ih =>
      intro i c hc
      have : repl (n + 1) z = z ++ repl n z := by simp [repl, List.replicate_succ]
      rw [this, List.getElem?_append] at hc
      split at hc
      · rw [Nat.mod_eq_of_lt (by assumption)]; exact hc
      · have := ih _ c hc
        rwa [← Nat.mod_eq_sub_mod (by omega)] at this
  refine ⟨by simp [hlen], fun i c v hc hv => ?_⟩
  have hc' := hget n i c hc
  have hi : i < n * z.length := by rw [← hlen n]; exact (List.getElem?_eq_some_iff.1 hc).1
  have hm : i % z.length < z.length := Nat.mod_lt _ h0
  simp only [Array.toList_map, List.getElem?_map, Array.toList_range, List.getElem?_range hi, Option.map_some, Option.some.injEq] at hv
  refine hR.2 (i % z.length) c v hc' ?_
  have hmz : i % z.length < zv.size := by omega
  rw [hzs, getElem!_pos zv _ hmz] at hv
  simp [hmz, hv]

theorem buildSlice_at {H : Hp} {nx : Nat} (hs : SimH own β H nx w) (r : Nat) (hr : β r = none) {T : Tm} {ρ : Operand → Value} (hρ : ∀ x y, cOpd x = some y → VR w.heap (LL own β H) β (y.ev T) (ρ x)) {t e : TypeId} {len s : Nat} {ps : Array (Nat × Operand)} {aps : List (Nat × Nat × Opd)} {zero cs : List AV}
    (hu : P.underlying t = some (.slice e)) (hsz : szOf P e = some s) (hlim : ¬ (len * s > 2 ^ 24)) (hs0 : s ≠ 0) (hz : zeroOf P e = some zero) (hzl : zero.length = s) (hp1 : cParts (fun i => some (i * s, s)) ps.toList = some aps) (hf : afillT T (repl len zero) aps = some cs) :
    OpAt P own β H nx w (do pure (.value (← Instr.buildSlice t len (ps.map fun (i, x) => (i, ρ x))))) (.rsl r 0 len s) (.cells cs) r := by
  obtain ⟨zv, h1, h2⟩ := zeroOf_some (P := P) (w := w) hz (hp := w.heap) (L := LL own β H) (β := β)
  have hR := repl_RL h2 (by omega) len
  have hzvs : zv.cells.size = zero.length := by have := h2.1; simp at this; omega
  rw [hzl] at hR
  by_cases h0 : len * s = 0
  · -- no elements
    have hl0 : len = 0 := by rcases Nat.mul_eq_zero.1 h0 with h | h <;> omega
    subst hl0
    obtain ⟨cv, h3, h4⟩ := fill_ok (fun i => some (i * s, s)) hρ ps.toList aps (repl 0 zero) cs #[] hp1 hf (by simpa [repl] using RL.nil)
    obtain ⟨w', h5, h6, h7, h8, h9⟩ := new_ok (P := P) hs r hr e (cs := cs) (cur := cv) h4
    refine ⟨.slice (some ⟨w.heap.size, 0, none⟩) 0 0, w', ?_, h6, VR.rsl0 r 0 s w.heap.size 0 0 h7, h8⟩
    have hl : (ps.map fun (i, x) => (i, ρ x)).toList = ps.toList.map fun p => (p.1, ρ p.2) := by simp
    have hr0 : Array.map (fun _ => (default : Value)) (Array.range 0) = #[] := by apply Array.ext'; simp
    have h3' : Instr.fill (fun i => some (i * s, s)) #[] (ps.toList.map fun x => (x.1, ρ x.2)) = some cv := h3
    simp only [Instr.buildSlice, Sem.run_bind, run_underlying hu, Result.andThen_ok, szOf_some hsz, Nat.zero_mul, hl]
    simp [hr0, h3', h5]
  · obtain ⟨cv, h3, h4⟩ := fill_ok (fun i => some (i * s, s)) hρ ps.toList aps (repl len zero) cs _ hp1 hf hR
    obtain ⟨w', h5, h6, h7, h8, h9⟩ := new_ok (P := P) hs r hr e (cs := cs) (cur := cv) h4
    have hcs : cs.length = len * s := by
      have hfl : ∀ (aps : List (Nat × Nat × Opd)) (z cs : List AV), afillT T z aps = some cs → cs.length = z.length := by
        intro aps
        induction aps with
        | nil => intro z cs hf; simp [afillT] at hf; rw [hf]
        | cons p r ih =>
          intro z cs hf
          obtain ⟨o, sz, x⟩ := p
          unfold afillT at hf
          split at hf
          · simp only at hf
            split at hf
            · split at hf
              · rename_i cs1 hsp
                obtain ⟨hb, rfl⟩ := splice_some hsp
                rw [ih _ _ hf]; simp; omega
              · cases hf
            · cases hf
          · cases hf
      rw [hfl _ _ _ hf]; simp [repl, hzl]
    have hcvs : cv.size = len * s := by have := h4.1; simp at this; omega
    have hml : len ≤ maxLen := by
      have : len ≤ len * s := Nat.le_mul_of_pos_right _ (by omega)
      simp only [maxLen]; omega
    refine ⟨.slice (some ⟨w.heap.size, 0, none⟩) len len, w', ?_, h6, VR.rsl r 0 len s w.heap.size 0 len cv e _ h7 h9 (Nat.le_refl _) hml (by omega), h8⟩
    have hl : (ps.map fun (i, x) => (i, ρ x)).toList = ps.toList.map fun p => (p.1, ρ p.2) := by simp
    have hlim' : ¬ (2 ^ 24 < len * s) := by omega
    simp only [Instr.buildSlice, Sem.run_bind, run_underlying hu, Result.andThen_ok, szOf_some hsz, hl, gt_iff_lt, hlim', if_false, h0, h1, Sem.run_pure, Sem.run_ite]
    simp [h3, h5]
end
end Go.Eng
end
