/- Each abstract operation stands for the model's operation: stores, composite values, arithmetic, comparisons. -/
import Derived.Test.YtpnekpbehcbmkaaEngD
import Derived.Laws.StructEq
import Derived.Laws.Strings
import Derived.Laws.Pointers
set_option linter.unusedSimpArgs false
set_option linter.unusedVariables false
set_option linter.unnecessarySimpa false
namespace Go.Eng

theorem getElem?_splice {α : Type} (l new : List α) (off i : Nat) (h : off + new.length ≤ l.length) :
    (l.take off ++ new ++ l.drop (off + new.length))[i]? = if i < off then l[i]? else if i < off + new.length then new[i - off]? else l[i]? := by
  rw [List.append_assoc, List.getElem?_append, List.getElem?_append, List.getElem?_take, List.getElem?_drop, List.length_take, Nat.min_eq_left (by omega)]
  by_cases h1 : i < off
  · simp [h1]
  · by_cases h2 : i < off + new.length
    · have : i - off < new.length := by omega
      simp [h1, h2, this]
    · have h3 : ¬ (i - off < new.length) := by omega
      simp only [h1, h2, h3, if_false]
      congr 1
      omega

section
variable {hp : Array Obj} {L : Nat → Prop} {β : Bl}
theorem RL.splice {as bs : List AV} {vs us : List Value} (h : RL hp L β as vs) (k : RL hp L β bs us) (off : Nat) : RL hp L β (as.take off ++ bs ++ as.drop (off + bs.length)) (vs.take off ++ us ++ vs.drop (off + us.length)) := by
  rw [← k.1]
  exact ((h.take off).append k).append (h.drop _)

theorem stow_cells {x : AV} {v : Value} (hx : stow x = true) (h : VR hp L β x v) : RL hp L β x.cells v.cells.toList := by
  cases h <;> simp only [AV.cells, Value.cells] <;> first
    | (simp [stow, AV.one] at hx; done)
    | (refine RL.cons ?_ RL.nil; constructor <;> assumption)
    | skip
  case agg cs vs hl h => exact ⟨by simpa using hl, fun i c v hc hv => h i c v hc (by simpa using hv)⟩
end

section
variable {P : Program} {own : Nat → Prop} {β : Bl} {h : AH} {w : World}

/-- A store into an owned row: cells 'new' from 'off' on. -/
theorem storeRow_ok (hs : SimH own β h.H h.nx w) {id off : Nat} {cs cs' new : List AV} {vs : List Value} {b base : Nat} (hc : h.cellsAt id = some cs) (hβ : β id = some (b, base)) (hsp : splice cs off new = some cs') (hv : RL w.heap (LL own β h.H) β new vs)
    (ho : ones new = true) : ∃ w', (storeCells ⟨b, base + off, none⟩ vs).run P w = .ok () w' ∧ SimH own β (h.set id (.cells cs')).H (h.set id (.cells cs')).nx w' ∧ Trans own β h w β (h.set id (.cells cs')) w' := by
  obtain ⟨h1, rfl⟩ := splice_some hsp
  obtain ⟨b', base', cur, e, hg, hβ', hb, hlen, hr⟩ := hs.row hc
  rw [hβ] at hβ'; cases hβ'
  have hlv : new.length = vs.length := hv.1
  have hst := run_storeCells_at P b (base + off) e vs 0 cur w hb (by omega) (hv.ones ho)
  simp only [Nat.add_zero] at hst
  refine ⟨_, hst, ?_⟩
  have hsz : (cur.toList.take (base + off) ++ vs ++ cur.toList.drop (base + off + vs.length)).toArray.size = cur.size := by simp; omega
  refine hs.writeCells hg hβ hb rfl hsz (by simp; omega) fun i c v hc' hv' => ?_
  rw [getElem?_splice _ _ _ _ h1] at hc'
  have hv2 : (cur.toList.take (base + off) ++ vs ++ cur.toList.drop (base + off + vs.length))[base + i]? = some v := by simpa using hv'
  rw [getElem?_splice _ _ _ _ (by simp; omega)] at hv2
  split at hc'
  · rw [if_pos (by omega)] at hv2; exact hr i c v hc' (by simpa using hv2)
  · rw [if_neg (by omega)] at hv2
    split at hc'
    · rw [if_pos (by omega)] at hv2
      exact hv.2 _ c v hc' (by rw [show base + i - (base + off) = i - off by omega] at hv2; exact hv2)
    · rw [if_neg (by omega)] at hv2; exact hr i c v hc' (by simpa using hv2)

theorem store_ok (hs : SimH own β h.H h.nx w) {t : TypeId} {n id off : Nat} {cs cs' : List AV} {x : AV} {cv cx : Value} (hq : szOf P t = some n) (hx : stow x = true) (hn : x.cells.length = n) (ho : ones x.cells = true)
    (hc : h.cellsAt id = some cs) (hsp : splice cs off x.cells = some cs') (hv : VR w.heap (LL own β h.H) β (.ptr id off) cv) (hvx : VR w.heap (LL own β h.H) β x cx) :
    ∃ w', (Instr.storeAt t cv cx).run P w = .ok () w' ∧ SimH own β (h.set id (.cells cs')).H (h.set id (.cells cs')).nx w' ∧ Trans own β h w β (h.set id (.cells cs')) w' := by
  cases hv
  rename_i b base hβ
  have hR := stow_cells hx hvx
  obtain ⟨w', h1, h2, h3⟩ := storeRow_ok (P := P) hs hc hβ hsp hR ho
  refine ⟨w', ?_, h2, h3⟩
  have hl : cx.cells.size = n := by have := hR.1; simp at this; omega
  simp only [Instr.storeAt, Instr.sureAddr, Sem.run_bind, Sem.run_pure, Result.andThen_ok, storeVar, szOf_some hq, hl]
  simp [h1]

/-- An operation that makes a new object, under a number r that is free. -/
def OpAt (P : Program) (own : Nat → Prop) (β : Bl) (H : Hp) (nx : Nat) (w : World) (s : Sem Next) (v : AV) (cs : List AV) (r : Nat) : Prop :=
  ∃ cv w', s.run P w = .ok (.value cv) w' ∧ SimH own (upd β r w.heap.size 0) (H.put r (.cells cs)) (max nx (r + 1)) w' ∧ VR w'.heap (LL own (upd β r w.heap.size 0) (H.put r (.cells cs))) (upd β r w.heap.size 0) v cv ∧
    (nx ≤ r → Trans own β ⟨H, nx⟩ w (upd β r w.heap.size 0) ⟨H.put r (.cells cs), max nx (r + 1)⟩ w') ∧ Trans own β ⟨H, 0⟩ w (upd β r w.heap.size 0) ⟨H.put r (.cells cs), 0⟩ w'
theorem OpAt.ok {s : Sem Next} {v : AV} {cs : List AV} (ho : OpAt P own β h.H h.nx w s v cs h.nx) : OpOk P own β h w s v (h.add (.cells cs)) := by
  obtain ⟨cv, w', h1, h2, h3, h4, _⟩ := ho
  have hm : max h.nx (h.nx + 1) = h.nx + 1 := by omega
  have h4' := h4 (Nat.le_refl _)
  rw [hm] at h2 h4'
  exact ⟨cv, w', _, .inl h1, h2, h3, h4'⟩

/-- A new object made of known cells. -/
theorem new_ok {H : Hp} {nx : Nat} (hs : SimH own β H nx w) (r : Nat) (hr : β r = none) (t : TypeId) {cs : List AV} {cur : Array Value} (hR : RL w.heap (LL own β H) β cs cur.toList) :
    ∃ w', (newRow t cur).run P w = .ok ⟨w.heap.size, 0, none⟩ w' ∧ SimH own (upd β r w.heap.size 0) (H.put r (.cells cs)) (max nx (r + 1)) w' ∧ upd β r w.heap.size 0 r = some (w.heap.size, 0) ∧
      ((nx ≤ r → Trans own β ⟨H, nx⟩ w (upd β r w.heap.size 0) ⟨H.put r (.cells cs), max nx (r + 1)⟩ w') ∧ Trans own β ⟨H, 0⟩ w (upd β r w.heap.size 0) ⟨H.put r (.cells cs), 0⟩ w') ∧ w'.heap[w.heap.size]? = some (.cells cur t (0, 0)) := by
  have hl : cs.length = cur.size := by simpa using hR.1
  obtain ⟨h1, h2, h3⟩ := hs.newCells (w' := { w with heap := w.heap.push (.cells cur t) }) r hr cs cur t rfl rfl rfl rfl (by omega) (fun i c v hc hv => hR.2 i c v hc (by simpa using hv))
  exact ⟨_, rfl, h1, upd_same _ _ _ _, ⟨h2, h3⟩, by simp⟩

theorem zeroOf_some {t : TypeId} {z : List AV} (hq : zeroOf P t = some z) {hp : Array Obj} {L : Nat → Prop} {β : Bl} : ∃ v, (zeroValue t).run P w = .ok v w ∧ RL hp L β z v.cells.toList := by
  unfold zeroOf at hq
  split at hq
  · rename_i i hi
    split at hq
    · rename_i v hv
      exact ⟨v, by simp [zeroValue, typeInfo, hi, hv], cVals_ok hq⟩
    · cases hq
  · cases hq

theorem alloc_at {H : Hp} {nx : Nat} (hs : SimH own β H nx w) (r : Nat) (hr : β r = none) {t : TypeId} {z : List AV} (hq : zeroOf P t = some z) :
    OpAt P own β H nx w (do pure (.value (← Instr.alloc t true (.tuple #[])))) (.ptr r 0) z r := by
  obtain ⟨v, h1, h2⟩ := zeroOf_some (P := P) (w := w) hq (hp := w.heap) (L := LL own β H) (β := β)
  obtain ⟨w', h3, h4, h5, h6, h7⟩ := new_ok (P := P) hs r hr t (cs := z) (cur := v.cells) h2
  refine ⟨_, w', ?_, h4, VR.ptr r 0 w.heap.size 0 h5, h6⟩
  simp only [Instr.alloc, newVar, Sem.run_bind, h1, Result.andThen_ok, h3, Sem.run_pure]

theorem box_at {H : Hp} {nx : Nat} (hs : SimH own β H nx w) (r : Nat) (hr : β r = none) (t : TypeId) {x : AV} {cx : Value} (hx : stow x = true) (hvx : VR w.heap (LL own β H) β x cx) :
    OpAt P own β H nx w (do pure (.value (← Instr.box t cx))) (.ptr r 0) x.cells r := by
  obtain ⟨w', h3, h4, h5, h6, h7⟩ := new_ok (P := P) hs r hr t (cs := x.cells) (cur := cx.cells) (stow_cells hx hvx)
  refine ⟨_, w', ?_, h4, VR.ptr r 0 w.heap.size 0 h5, h6⟩
  simp only [Instr.box, newVar, Sem.run_bind, Result.andThen_ok, h3, Sem.run_pure]
end

/-! ### composite literals -/
theorem foldl_set (off : Nat) : ∀ (vs : List Value) (k : Nat) (cs : Array Value), off + k + vs.length ≤ cs.size →
    ((vs.zipIdx k).foldl (fun cs p => cs.setIfInBounds (off + p.2) p.1) cs).toList = cs.toList.take (off + k) ++ vs ++ cs.toList.drop (off + k + vs.length)
  | [], k, cs, h => by simp
  | v :: vs, k, cs, h => by
    simp only [List.length_cons] at h
    simp only [List.zipIdx_cons, List.foldl_cons]
    rw [foldl_set off vs (k + 1) (cs.setIfInBounds (off + k) v) (by simp; omega)]
    have e := list_seg_step cs.toList (off + k) v vs (by simp; omega)
    simpa [Array.toList_setIfInBounds, Nat.add_assoc] using e

theorem fill_ok {hp : Array Obj} {L : Nat → Prop} {β : Bl} {T : Tm} {ρ : Operand → Value} (place : Nat → Option (Nat × Nat)) (hρ : ∀ x y, cOpd x = some y → VR hp L β (y.ev T) (ρ x)) :
    ∀ (ps : List (Nat × Operand)) (aps : List (Nat × Nat × Opd)) (zero cs : List AV) (zv : Array Value), cParts place ps = some aps → afillT T zero aps = some cs → RL hp L β zero zv.toList →
      ∃ cv, Instr.fill place zv (ps.map fun p => (p.1, ρ p.2)) = some cv ∧ RL hp L β cs cv.toList
  | [], aps, zero, cs, zv, hp1, hf, hR => by
    simp [cParts] at hp1; subst hp1
    simp [afillT] at hf; subst hf
    exact ⟨zv, by simp [Instr.fill], hR⟩
  | (i, x) :: ps, aps, zero, cs, zv, hp1, hf, hR => by
    unfold cParts at hp1
    split at hp1
    · rename_i o s y l h1 h2 h3
      cases hp1
      unfold afillT at hf
      split at hf
      · rename_i hst
        simp only at hf
        split at hf
        · rename_i hlen
          cases hsp : Eng.splice zero o (y.ev T).cells with
          | none => simp [hsp] at hf
          | some cs1 =>
            simp only [hsp] at hf
            obtain ⟨hb, rfl⟩ := splice_some hsp
            have hx := stow_cells (show stow (y.ev T) = true from hst) (hρ x y h2)
            have hxl : (ρ x).cells.size = s := by have := hx.1; simp at this; omega
            have hzl : zv.size = zero.length := by have := hR.1; simp at this; omega
            have hfold : ((ρ x).cells.zipIdx.foldl (fun cs p => cs.setIfInBounds (o + p.2) p.1) zv).toList = zv.toList.take o ++ (ρ x).cells.toList ++ zv.toList.drop (o + (ρ x).cells.toList.length) := by
              rw [← Array.foldl_toList]
              have := foldl_set o (ρ x).cells.toList 0 zv (by simp; omega)
              simpa using this
            have hR2 := hR.splice hx o
            rw [← hfold] at hR2
            obtain ⟨cv, hc1, hc2⟩ := fill_ok place hρ ps l _ cs _ h3 hf hR2
            refine ⟨cv, ?_, hc2⟩
            simp only [List.map_cons, Instr.fill, h1, hxl]
            rw [if_neg (by simp; omega)]
            exact hc1
        · cases hf
      · cases hf
    · cases hp1

section
variable {P : Program} {own : Nat → Prop} {β : Bl} {h : AH} {w : World}

theorem run_mapM_list {α γ : Type} (f : α → Sem γ) (g : α → γ) : ∀ (l : List α), (∀ x ∈ l, (f x).run P w = .ok (g x) w) → (l.mapM f).run P w = .ok (l.map g) w
  | [], _ => by simp
  | x :: l, hl => by
    have h1 := hl x (by simp)
    have h2 := run_mapM_list f g l (fun y hy => hl y (by simp [hy]))
    rw [List.mapM_cons]
    simp only [Sem.run_bind, h1, Result.andThen_ok, h2, Sem.run_pure, List.map_cons]
theorem run_mapM_array {α γ : Type} (f : α → Sem γ) (g : α → γ) (a : Array α) (ha : ∀ x ∈ a.toList, (f x).run P w = .ok (g x) w) : (a.mapM f).run P w = .ok (a.map g) w := by
  have h1 := run_mapM_list (P := P) (w := w) f g a.toList ha
  have h2 : a.mapM f = (do let l ← a.toList.mapM f; pure l.toArray) := by
    rw [Array.mapM_eq_mapM_toList]
    rfl
  rw [h2]
  simp only [Sem.run_bind, h1, Result.andThen_ok, Sem.run_pure]
  simp only [List.map_toArray, Array.toArray_toList, ← Array.toList_map]

theorem build_struct_ok {T : Tm} {ρ : Operand → Value} (hρ : ∀ x y, cOpd x = some y → VR w.heap (LL own β h.H) β (y.ev T) (ρ x)) {t : TypeId} {fs : Array Field} {ps : Array (Nat × Operand)} {aps : List (Nat × Nat × Opd)} {zero cs : List AV}
    (hu : P.underlying t = some (.struct fs)) (hfs : fs.all (fun f => (P.info? f.type).isSome) = true) (hz : zeroOf P t = some zero) (hp1 : cParts (fieldPlaces P fs) ps.toList = some aps) (hf : afillT T zero aps = some cs) :
    ∃ v, (Instr.build t (ps.map fun (i, x) => (i, ρ x))).run P w = .ok v w ∧ VR w.heap (LL own β h.H) β (.agg cs) v := by
  obtain ⟨zv, h1, h2⟩ := zeroOf_some (P := P) (w := w) hz (hp := w.heap) (L := LL own β h.H) (β := β)
  obtain ⟨cv, h3, h4⟩ := fill_ok (fieldPlaces P fs) hρ ps.toList aps zero cs zv.cells hp1 hf h2
  refine ⟨.agg cv, ?_, RL.agg h4⟩
  have hm := run_mapM_array (P := P) (w := w) (fun f : Field => do pure (f.offset, ← sizeOf f.type)) (fun f => (f.offset, P.cellsOf f.type)) fs (by
    intro f hfm
    have hsm := Array.all_eq_true_iff_forall_mem.1 hfs f (by simpa using hfm)
    cases hi : P.info? f.type with
    | none => simp [hi] at hsm
    | some i => simp [sizeOf, typeInfo, hi, Program.cellsOf])
  have hplace : (fun i => (fs.map fun f => (f.offset, P.cellsOf f.type))[i]?) = fieldPlaces P fs := by
    funext i
    simp only [Array.getElem?_map, fieldPlaces]
    cases hi : fs[i]? with
    | none => rfl
    | some f =>
      have hsm := Array.all_eq_true_iff_forall_mem.1 hfs f (Array.mem_of_getElem? hi)
      cases hii : P.info? f.type with
      | none => simp [hii] at hsm
      | some j => simp [szOf, Program.cellsOf, hii]
  simp only [Instr.build, Sem.run_bind, h1, Result.andThen_ok, run_underlying hu, hm, hplace]
  have hl : (ps.map fun (i, x) => (i, ρ x)).toList = ps.toList.map fun p => (p.1, ρ p.2) := by simp
  rw [hl, h3]
  rfl

theorem build_array_ok {T : Tm} {ρ : Operand → Value} (hρ : ∀ x y, cOpd x = some y → VR w.heap (LL own β h.H) β (y.ev T) (ρ x)) {t e : TypeId} {n s : Nat} {ps : Array (Nat × Operand)} {aps : List (Nat × Nat × Opd)} {zero cs : List AV}
    (hu : P.underlying t = some (.array n e)) (hsz : szOf P e = some s) (hz : zeroOf P t = some zero) (hp1 : cParts (fun i => some (i * s, s)) ps.toList = some aps) (hf : afillT T zero aps = some cs) :
    ∃ v, (Instr.build t (ps.map fun (i, x) => (i, ρ x))).run P w = .ok v w ∧ VR w.heap (LL own β h.H) β (.agg cs) v := by
  obtain ⟨zv, h1, h2⟩ := zeroOf_some (P := P) (w := w) hz (hp := w.heap) (L := LL own β h.H) (β := β)
  obtain ⟨cv, h3, h4⟩ := fill_ok (fun i => some (i * s, s)) hρ ps.toList aps zero cs zv.cells hp1 hf h2
  refine ⟨.agg cv, ?_, RL.agg h4⟩
  simp only [Instr.build, Sem.run_bind, h1, Result.andThen_ok, run_underlying hu, szOf_some hsz]
  have hl : (ps.map fun (i, x) => (i, ρ x)).toList = ps.toList.map fun p => (p.1, ρ p.2) := by simp
  rw [hl, h3]
  rfl

/-- The zero cells of n elements. -/
theorem repl_RL {hp : Array Obj} {L : Nat → Prop} {β : Bl} {z : List AV} {zv : Array Value} (hR : RL hp L β z zv.toList) (h0 : 0 < z.length) (n : Nat) :
    RL hp L β (repl n z) ((Array.range (n * z.length)).map fun i => zv[i % zv.size]!).toList := by
  have hzs : zv.size = z.length := by have := hR.1; simp at this; omega
  have hlen : ∀ n, (repl n z).length = n * z.length := by
    intro n; unfold repl; simp
  have hget : ∀ n i c, (repl n z)[i]? = some c → z[i % z.length]? = some c := by
    intro n
    induction n with
    | zero => intro i c hc; simp [repl] at hc
    | succ n ih =>
      intro i c hc
      have : repl (n + 1) z = z ++ repl n z := by simp [repl, List.replicate_succ]
      rw [this, List.getElem?_append] at hc
      split at hc
      · rw [Nat.mod_eq_of_lt (by assumption)]; exact hc
      · have := ih _ c hc
        rwa [← Nat.mod_eq_sub_mod (by omega)] at this
  refine ⟨by simp [hlen], fun i c v hc hv => ?_⟩
  have hc' := hget n i c hc
  have hi : i < n * z.length := by rw [← hlen n]; exact (List.getElem?_eq_some_iff.1 hc).1
  have hm : i % z.length < z.length := Nat.mod_lt _ h0
  simp only [Array.toList_map, List.getElem?_map, Array.toList_range, List.getElem?_range hi, Option.map_some, Option.some.injEq] at hv
  refine hR.2 (i % z.length) c v hc' ?_
  have hmz : i % z.length < zv.size := by omega
  rw [hzs, getElem!_pos zv _ hmz] at hv
  simp [hmz, hv]

theorem buildSlice_at {H : Hp} {nx : Nat} (hs : SimH own β H nx w) (r : Nat) (hr : β r = none) {T : Tm} {ρ : Operand → Value} (hρ : ∀ x y, cOpd x = some y → VR w.heap (LL own β H) β (y.ev T) (ρ x)) {t e : TypeId} {len s : Nat} {ps : Array (Nat × Operand)} {aps : List (Nat × Nat × Opd)} {zero cs : List AV}
    (hu : P.underlying t = some (.slice e)) (hsz : szOf P e = some s) (hlim : ¬ (len * s > 2 ^ 24)) (hs0 : s ≠ 0) (hz : zeroOf P e = some zero) (hzl : zero.length = s) (hp1 : cParts (fun i => some (i * s, s)) ps.toList = some aps) (hf : afillT T (repl len zero) aps = some cs) :
    OpAt P own β H nx w (do pure (.value (← Instr.buildSlice t len (ps.map fun (i, x) => (i, ρ x))))) (.rsl r 0 len s) cs r := by
  obtain ⟨zv, h1, h2⟩ := zeroOf_some (P := P) (w := w) hz (hp := w.heap) (L := LL own β H) (β := β)
  have hR := repl_RL h2 (by omega) len
  have hzvs : zv.cells.size = zero.length := by have := h2.1; simp at this; omega
  rw [hzl] at hR
  by_cases h0 : len * s = 0
  · -- no elements
    have hl0 : len = 0 := by rcases Nat.mul_eq_zero.1 h0 with h | h <;> omega
    subst hl0
    obtain ⟨cv, h3, h4⟩ := fill_ok (fun i => some (i * s, s)) hρ ps.toList aps (repl 0 zero) cs #[] hp1 hf (by simpa [repl] using RL.nil)
    obtain ⟨w', h5, h6, h7, h8, h9⟩ := new_ok (P := P) hs r hr e (cs := cs) (cur := cv) h4
    refine ⟨.slice (some ⟨w.heap.size, 0, none⟩) 0 0, w', ?_, h6, VR.rsl0 r 0 s w.heap.size 0 0 h7, h8⟩
    have hl : (ps.map fun (i, x) => (i, ρ x)).toList = ps.toList.map fun p => (p.1, ρ p.2) := by simp
    have hr0 : Array.map (fun _ => (default : Value)) (Array.range 0) = #[] := by apply Array.ext'; simp
    have h3' : Instr.fill (fun i => some (i * s, s)) #[] (ps.toList.map fun x => (x.1, ρ x.2)) = some cv := h3
    simp only [Instr.buildSlice, Sem.run_bind, run_underlying hu, Result.andThen_ok, szOf_some hsz, Nat.zero_mul, hl]
    simp [hr0, h3', h5]
  · obtain ⟨cv, h3, h4⟩ := fill_ok (fun i => some (i * s, s)) hρ ps.toList aps (repl len zero) cs _ hp1 hf hR
    obtain ⟨w', h5, h6, h7, h8, h9⟩ := new_ok (P := P) hs r hr e (cs := cs) (cur := cv) h4
    have hcs : cs.length = len * s := by
      have hfl : ∀ (aps : List (Nat × Nat × Opd)) (z cs : List AV), afillT T z aps = some cs → cs.length = z.length := by
        intro aps
        induction aps with
        | nil => intro z cs hf; simp [afillT] at hf; rw [hf]
        | cons p r ih =>
          intro z cs hf
          obtain ⟨o, sz, x⟩ := p
          unfold afillT at hf
          split at hf
          · simp only at hf
            split at hf
            · split at hf
              · rename_i cs1 hsp
                obtain ⟨hb, rfl⟩ := splice_some hsp
                rw [ih _ _ hf]; simp; omega
              · cases hf
            · cases hf
          · cases hf
      rw [hfl _ _ _ hf]; simp [repl, hzl]
    have hcvs : cv.size = len * s := by have := h4.1; simp at this; omega
    have hml : len ≤ maxLen := by
      have : len ≤ len * s := Nat.le_mul_of_pos_right _ (by omega)
      simp only [maxLen]; omega
    refine ⟨.slice (some ⟨w.heap.size, 0, none⟩) len len, w', ?_, h6, VR.rsl r 0 len s w.heap.size 0 len cv e h7 h9 (Nat.le_refl _) hml (by omega), h8⟩
    have hl : (ps.map fun (i, x) => (i, ρ x)).toList = ps.toList.map fun p => (p.1, ρ p.2) := by simp
    have hlim' : ¬ (2 ^ 24 < len * s) := by omega
    simp only [Instr.buildSlice, Sem.run_bind, run_underlying hu, Result.andThen_ok, szOf_some hsz, hl, gt_iff_lt, hlim', if_false, h0, h1, Sem.run_pure, Sem.run_ite]
    simp [h3, h5]
end
end Go.Eng
