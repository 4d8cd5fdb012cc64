/- Each abstract operation stands for the model's operation: values. -/
import Derived.Test.YtpnekpbehcbmkaaEngB
set_option linter.unusedSimpArgs false
set_option linter.unusedVariables false
set_option linter.unnecessarySimpa false
namespace Go.Eng

abbrev LL (own : Nat → Prop) (β : Bl) (H : Hp) : Nat → Prop := fun b => own b ∨ live β H b

theorem OR.later {hp : Array Obj} {L : Nat → Prop} {β : Bl} {hp' : Array Obj} {L' : Nat → Prop} {β' : Bl} (hl : Later hp L β hp' L' β') {b base : Nat} {o : AObj} (hb : hp'[b]? = hp[b]?) (h : OR hp L β b base o) : OR hp' L' β' b base o := by
  cases o with
  | cells cs =>
    obtain ⟨cur, e, h1, h2, h4⟩ := h
    exact ⟨cur, e, hb.trans h1, h2, fun i c v hc hv => (h4 i c v hc hv).later hl⟩
  | map kvs =>
    obtain ⟨h0, es, clock, h1, h2, h3⟩ := h
    exact ⟨h0, es, clock, hb.trans h1, h2, fun i kv e hk he => by
      obtain ⟨a1, a2, a3⟩ := h3 i kv e hk he
      exact ⟨a1.later hl, a2.later hl, a3⟩⟩
  | siter s pos => exact ⟨h.1, hb.trans h.2⟩
  | glob g cs =>
    obtain ⟨h0, h5, cur, e, fz, h1, h2, h4⟩ := h
    exact ⟨h0, h5, cur, e, fz, hb.trans h1, h2, fun i c v hc hv => (h4 i c v hc hv).later hl⟩

section
variable {own : Nat → Prop} {β : Bl} {H : Hp} {nx : Nat} {w w' : World}

theorem SimH.dead (hs : SimH own β H nx w) {id : Nat} (h : nx ≤ id) : H.get id = none := by
  cases hg : H.get id with
  | none => rfl
  | some o => obtain ⟨b, base, hb, _⟩ := hs.obj id o hg; rw [hs.fresh id h] at hb; cases hb

/-- The world's heap is the same (a draw). -/
theorem SimH.same (hs : SimH own β H nx w) (hh : w'.heap = w.heap) : SimH own β H nx w' := by
  refine ⟨hs.fresh, fun id b base h => by rw [hh]; exact hs.lt id b base h, fun b h => by rw [hh]; exact hs.ownlt b h, fun id o h => ?_, hs.inj⟩
  obtain ⟨b, base, h1, h2, h3⟩ := hs.obj id o h
  exact ⟨b, base, h1, h2, by rw [hh]; exact h3⟩

theorem Trans.same (hh : w'.heap = w.heap) (h1 : w'.os = w.os) (h2 : w'.tape = w.tape) (h3 : w'.output = w.output) : Trans own β ⟨H, nx⟩ w β ⟨H, nx⟩ w' :=
  ⟨fun _ _ h => h, fun _ _ => rfl, Nat.le_refl _, by rw [hh]; exact Nat.le_refl _, fun _ _ _ => by rw [hh], fun _ h => .inl h, fun _ cur _ _ h => ⟨cur, by rw [hh]; exact h, rfl⟩, h1, h2, h3⟩

def upd (β : Bl) (id b base : Nat) : Bl := fun j => if j = id then some (b, base) else β j

theorem upd_same (β : Bl) (id b base : Nat) : upd β id b base id = some (b, base) := by simp [upd]
theorem upd_ne (β : Bl) {id j : Nat} (b base : Nat) (h : j ≠ id) : upd β id b base j = β j := by simp [upd, h]

/-- A new object in a new block, under a number that is free. -/
theorem SimH.newObj (hs : SimH own β H nx w) (r : Nat) (hnone : β r = none) (o : AObj) (ob : Obj) (hh : w'.heap = w.heap.push ob) (h1 : w'.os = w.os) (h2 : w'.tape = w.tape) (h3 : w'.output = w.output)
    (ho : ∀ hp' L' β', Later w.heap (LL own β H) β hp' L' β' → hp'[w.heap.size]? = some ob → OR hp' L' β' w.heap.size 0 o) :
    SimH own (upd β r w.heap.size 0) (H.put r o) (max nx (r + 1)) w' ∧ (nx ≤ r → Trans own β ⟨H, nx⟩ w (upd β r w.heap.size 0) ⟨H.put r o, max nx (r + 1)⟩ w') ∧ Trans own β ⟨H, 0⟩ w (upd β r w.heap.size 0) ⟨H.put r o, 0⟩ w' := by
  have hsz : w'.heap.size = w.heap.size + 1 := by rw [hh]; simp
  have hold : ∀ b, b < w.heap.size → w'.heap[b]? = w.heap[b]? := fun b hb => by rw [hh, Array.getElem?_push, if_neg (by omega)]
  have hlive : ∀ b, live (upd β r w.heap.size 0) (H.put r o) b → live β H b ∨ w.heap.size ≤ b := by
    rintro b ⟨id, o', base, hg, hb⟩
    by_cases hid : id = r
    · subst hid; rw [upd_same] at hb; cases hb; exact .inr (Nat.le_refl _)
    · rw [upd_ne _ _ _ hid] at hb; rw [PM.get_put_ne _ _ hid] at hg; exact .inl ⟨id, o', base, hg, hb⟩
  have ht0 : Trans own β ⟨H, 0⟩ w (upd β r w.heap.size 0) ⟨H.put r o, 0⟩ w' := by
    refine ⟨fun id x hx => ?_, fun id hid => absurd hid (Nat.not_lt_zero _), Nat.le_refl _, by omega, fun b hb _ => hold b hb, hlive, fun b cur e fz hc => ⟨cur, by rw [hold b (lt_of_get hc)]; exact hc, rfl⟩, h1, h2, h3⟩
    by_cases hid : id = r
    · subst hid; rw [hnone] at hx; cases hx
    · rw [upd_ne _ _ _ hid]; exact hx
  have ht : nx ≤ r → Trans own β ⟨H, nx⟩ w (upd β r w.heap.size 0) ⟨H.put r o, max nx (r + 1)⟩ w' := fun hr =>
    ⟨ht0.ext, fun id hid => upd_ne _ _ _ (by simp only at hid; omega), by simp only; omega, ht0.size, ht0.keep, ht0.live, ht0.shape, h1, h2, h3⟩
  refine ⟨⟨fun id hid => ?_, fun id b base hb => ?_, fun b hb => by have := hs.ownlt b hb; omega, fun id o' hg => ?_, fun id id' o1 o2 b x y hg hg' hb hb' => ?_⟩, ht, ht0⟩
  · rw [upd_ne _ _ _ (by omega)]; exact hs.fresh id (by omega)
  · by_cases hid : id = r
    · subst hid; rw [upd_same] at hb; cases hb; omega
    · rw [upd_ne _ _ _ hid] at hb; have := hs.lt id b base hb; omega
  · by_cases hid : id = r
    · subst hid
      rw [PM.get_put_same] at hg
      cases hg
      refine ⟨w.heap.size, 0, upd_same _ _ _ _, fun hown => by have := hs.ownlt _ hown; omega, ho _ _ _ ht0.later ?_⟩
      rw [hh]; simp
    · rw [PM.get_put_ne _ _ hid] at hg
      obtain ⟨b, base, hb, hno, hor⟩ := hs.obj id o' hg
      exact ⟨b, base, by rw [upd_ne _ _ _ hid]; exact hb, hno, hor.later ht0.later (hold b (hs.lt id b base hb))⟩
  · by_cases hid : id = r
    · subst hid
      rw [upd_same] at hb
      cases hb
      by_cases hid' : id' = id
      · exact hid'.symm
      · rw [upd_ne _ _ _ hid'] at hb'; have := hs.lt _ _ _ hb'; omega
    · rw [upd_ne _ _ _ hid] at hb
      rw [PM.get_put_ne _ _ hid] at hg
      by_cases hid' : id' = r
      · subst hid'; rw [upd_same] at hb'; cases hb'; have := hs.lt _ _ _ hb; omega
      · rw [upd_ne _ _ _ hid'] at hb'
        rw [PM.get_put_ne _ _ hid'] at hg'
        exact hs.inj id id' o1 o2 b x y hg hg' hb hb'

/-- A new row of cells. -/
theorem SimH.newCells (hs : SimH own β H nx w) (r : Nat) (hnone : β r = none) (cs : List AV) (cur : Array Value) (e : TypeId) (hh : w'.heap = w.heap.push (.cells cur e)) (h1 : w'.os = w.os) (h2 : w'.tape = w.tape) (h3 : w'.output = w.output)
    (hl : cs.length ≤ cur.size) (hr : ∀ (i : Nat) (c : AV) (v : Value), cs[i]? = some c → cur[i]? = some v → VR w.heap (LL own β H) β c v) :
    SimH own (upd β r w.heap.size 0) (H.put r (.cells cs)) (max nx (r + 1)) w' ∧ (nx ≤ r → Trans own β ⟨H, nx⟩ w (upd β r w.heap.size 0) ⟨H.put r (.cells cs), max nx (r + 1)⟩ w') ∧ Trans own β ⟨H, 0⟩ w (upd β r w.heap.size 0) ⟨H.put r (.cells cs), 0⟩ w' :=
  hs.newObj r hnone _ _ hh h1 h2 h3 fun hp' L' β' hl' hb => ⟨cur, e, hb, by omega, fun i c v hc hv => (hr i c v hc (by rwa [Nat.zero_add] at hv)).later hl'⟩

/-- A live block is written: the object there is another one, under the same number or a new one. -/
theorem SimH.writeAs (hs : SimH own β H nx w) {id b base : Nat} {o0 : AObj} (hg : H.get id = some o0) (hβ : β id = some (b, base)) (id' base' : Nat) (hid : id' = id ∧ base' = base ∨ id' = nx)
    (o : AObj) (hsz : w'.heap.size = w.heap.size) (hk : ∀ k, k ≠ b → w'.heap[k]? = w.heap[k]?) (hcells : ∀ (cur : Array Value) (e : TypeId) (fz : Nat × Nat), w.heap[b]? = some (.cells cur e fz) → ∃ cur', w'.heap[b]? = some (.cells cur' e fz) ∧ cur'.size = cur.size)
    (h1 : w'.os = w.os) (h2 : w'.tape = w.tape) (h3 : w'.output = w.output)
    (ho : ∀ L' β', Later w.heap (LL own β H) β w'.heap L' β' → OR w'.heap L' β' b base' o) :
    SimH own (upd β id' b base') ((H.del id).put id' o) (if id' = nx then nx + 1 else nx) w' ∧ Trans own β ⟨H, nx⟩ w (upd β id' b base') ⟨(H.del id).put id' o, if id' = nx then nx + 1 else nx⟩ w' := by
  have hidlt : id < nx := by
    rcases Nat.lt_or_ge id nx with h | h
    · exact h
    · rw [hs.fresh id h] at hβ; cases hβ
  have hext : ∀ j x, β j = some x → upd β id' b base' j = some x := by
    intro j x hx
    by_cases hj : j = id'
    · subst hj
      rcases hid with ⟨h4, h5⟩ | h4
      · subst h4; subst h5; rw [upd_same]; rw [hβ] at hx; exact hx
      · rw [hs.fresh j (by omega)] at hx; cases hx
    · rw [upd_ne _ _ _ hj]; exact hx
  have hgets : ∀ j o', ((H.del id).put id' o).get j = some o' → (j = id' ∧ o' = o) ∨ (j ≠ id' ∧ j ≠ id ∧ H.get j = some o') := by
    intro j o' hj
    by_cases h4 : j = id'
    · subst h4; rw [PM.get_put_same] at hj; cases hj; exact .inl ⟨rfl, rfl⟩
    · rw [PM.get_put_ne _ _ h4] at hj
      by_cases h5 : j = id
      · subst h5; rw [PM.get_del_same] at hj; cases hj
      · rw [PM.get_del_ne _ h5] at hj; exact .inr ⟨h4, h5, hj⟩
  have hlive : ∀ k, live (upd β id' b base') ((H.del id).put id' o) k → live β H k ∨ w.heap.size ≤ k := by
    rintro k ⟨j, o', x, hj, hx⟩
    rcases hgets j o' hj with ⟨h4, _⟩ | ⟨h4, _, h6⟩
    · subst h4; rw [upd_same] at hx; cases hx; exact .inl ⟨id, o0, base, hg, hβ⟩
    · rw [upd_ne _ _ _ h4] at hx; exact .inl ⟨j, o', x, h6, hx⟩
  have hlow : ∀ j, j < nx → upd β id' b base' j = β j := by
    intro j hj
    by_cases h4 : j = id'
    · subst h4
      rcases hid with ⟨h5, h6⟩ | h5
      · subst h5; subst h6; rw [upd_same, hβ]
      · omega
    · exact upd_ne _ _ _ h4
  have ht : Trans own β ⟨H, nx⟩ w (upd β id' b base') ⟨(H.del id).put id' o, if id' = nx then nx + 1 else nx⟩ w' := by
    refine ⟨hext, hlow, by simp only; split <;> omega, by omega, fun k hk1 hn => ?_, hlive, fun k cur e fz hc => ?_, h1, h2, h3⟩
    · have hne : k ≠ b := fun h4 => by subst h4; exact hn ⟨id, o0, base, hg, hβ⟩
      exact hk k hne
    · by_cases hkb : k = b
      · subst hkb; exact hcells cur e fz hc
      · exact ⟨cur, by rw [hk k hkb]; exact hc, rfl⟩
  have hno : ¬ own b := by
    obtain ⟨b', base2, hb', hn, _⟩ := hs.obj id o0 hg
    rw [hβ] at hb'; cases hb'; exact hn
  refine ⟨⟨fun j hj => ?_, fun j b2 x hx => ?_, fun k hk1 => by rw [hsz]; exact hs.ownlt k hk1, fun j o' hj => ?_, fun j j' o1 o2 k x y hj hj' hx hy => ?_⟩, ht⟩
  · have h4 : nx ≤ j ∧ j ≠ id' := by
      split at hj
      · omega
      · rcases hid with ⟨h4, _⟩ | h4
        · omega
        · omega
    rw [upd_ne _ _ _ h4.2]; exact hs.fresh j h4.1
  · rw [hsz]
    by_cases h4 : j = id'
    · subst h4; rw [upd_same] at hx; cases hx; exact hs.lt _ _ _ hβ
    · rw [upd_ne _ _ _ h4] at hx; exact hs.lt _ _ _ hx
  · rcases hgets j o' hj with ⟨h4, h5⟩ | ⟨h4, h5, h6⟩
    · subst h4; subst h5
      exact ⟨b, base', upd_same _ _ _ _, hno, ho _ _ ht.later⟩
    · obtain ⟨b2, x, hb2, hn2, hor⟩ := hs.obj j o' h6
      have hne : b2 ≠ b := fun h7 => by subst h7; exact h5 (hs.inj j id o' o0 b2 x base h6 hg hb2 hβ)
      exact ⟨b2, x, by rw [upd_ne _ _ _ h4]; exact hb2, hn2, hor.later ht.later (hk b2 hne)⟩
  · rcases hgets j o1 hj with ⟨h4, _⟩ | ⟨h4, h5, h6⟩
    · subst h4
      rw [upd_same] at hx; cases hx
      rcases hgets j' o2 hj' with ⟨h7, _⟩ | ⟨h7, h8, h9⟩
      · exact h7.symm
      · rw [upd_ne _ _ _ h7] at hy; exact absurd (hs.inj j' id o2 o0 b y base h9 hg hy hβ) h8
    · rw [upd_ne _ _ _ h4] at hx
      rcases hgets j' o2 hj' with ⟨h7, _⟩ | ⟨h7, h8, h9⟩
      · subst h7; rw [upd_same] at hy; cases hy; exact absurd (hs.inj j id o1 o0 b x base h6 hg hx hβ) h5
      · rw [upd_ne _ _ _ h7] at hy; exact hs.inj j j' o1 o2 k x y h6 h9 hx hy

theorem upd_self (β : Bl) {id b base : Nat} (h : β id = some (b, base)) : upd β id b base = β := by
  funext j; unfold upd; split
  · rename_i hj; subst hj; exact h.symm
  · rfl

/-- Two maps with the same entries. -/
theorem live_congr {β : Bl} {H H' : Hp} (h : ∀ j, H'.get j = H.get j) : live β H' = live β H := by
  funext b; unfold live; simp only [h]
theorem SimH.congr {H' : Hp} (hs : SimH own β H nx w) (h : ∀ j, H'.get j = H.get j) : SimH own β H' nx w := by
  refine ⟨hs.fresh, hs.lt, hs.ownlt, fun id o hg => ?_, fun id id' o o' b x y h1 h2 => hs.inj id id' o o' b x y (by rw [← h]; exact h1) (by rw [← h]; exact h2)⟩
  rw [h] at hg
  rw [live_congr h]
  exact hs.obj id o hg
theorem Trans.congr {β' : Bl} {H₁ H₂ H₁' H₂' : Hp} {n₁ n₂ : Nat} (ht : Trans own β ⟨H₁, n₁⟩ w β' ⟨H₂, n₂⟩ w') (h1 : ∀ j, H₁'.get j = H₁.get j) (h2 : ∀ j, H₂'.get j = H₂.get j) : Trans own β ⟨H₁', n₁⟩ w β' ⟨H₂', n₂⟩ w' := by
  refine ⟨ht.ext, ht.low, ht.up, ht.size, ?_, ?_, ht.shape, ht.os, ht.tape, ht.output⟩
  · simp only [live_congr h1]; exact ht.keep
  · simp only [live_congr h1, live_congr h2]; exact ht.live

/-- A live row of cells is written. -/
theorem SimH.writeCells (hs : SimH own β H nx w) {id b base : Nat} {cs cs' : List AV} {cur cur' : Array Value} {e : TypeId} (hg : H.get id = some (.cells cs)) (hβ : β id = some (b, base)) (hb : w.heap[b]? = some (.cells cur e (0, 0)))
    (hw : w' = w.setRow b cur') (hsz : cur'.size = cur.size) (hl : base + cs'.length ≤ cur.size) (hr : ∀ (i : Nat) (c : AV) (v : Value), cs'[i]? = some c → cur'[base + i]? = some v → VR w.heap (LL own β H) β c v) :
    SimH own β (H.put id (.cells cs')) nx w' ∧ Trans own β ⟨H, nx⟩ w β ⟨H.put id (.cells cs'), nx⟩ w' := by
  subst hw
  have hidne : id ≠ nx := fun h => by rw [hs.fresh id (by omega)] at hβ; cases hβ
  have hb' : (w.setRow b cur').heap[b]? = some (.cells cur' e (0, 0)) := setRow_heap w b cur cur' e _ hb
  have h := hs.writeAs (w' := w.setRow b cur') hg hβ id base (.inl ⟨rfl, rfl⟩) (.cells cs') (by simp) (fun k hk => setRow_other w b k cur' hk)
    (fun c1 e1 fz hc => by rw [hb] at hc; cases hc; exact ⟨cur', hb', hsz⟩) rfl rfl rfl
    (fun L' β' hl' => ⟨cur', e, hb', by omega, fun i c v hc hv => (hr i c v hc hv).later hl'⟩)
  rw [upd_self β hβ, if_neg hidne] at h
  have hc : ∀ j, (H.put id (.cells cs')).get j = ((H.del id).put id (.cells cs')).get j := by
    intro j
    by_cases hj : j = id
    · subst hj; rw [PM.get_put_same, PM.get_put_same]
    · rw [PM.get_put_ne _ _ hj, PM.get_put_ne _ _ hj, PM.get_del_ne _ hj]
  exact ⟨h.1.congr hc, h.2.congr (fun _ => rfl) hc⟩

/-- An object is forgotten. -/
theorem SimH.drop (hs : SimH own β H nx w) (id : Nat) : SimH own β (H.del id) nx w ∧ Trans own β ⟨H, nx⟩ w β ⟨H.del id, nx⟩ w := by
  have hgets : ∀ j o, (H.del id).get j = some o → H.get j = some o := by
    intro j o hj
    by_cases h : j = id
    · subst h; rw [PM.get_del_same] at hj; cases hj
    · rwa [PM.get_del_ne _ h] at hj
  have hlive : ∀ b, live β (H.del id) b → live β H b := fun b ⟨j, o, x, h1, h2⟩ => ⟨j, o, x, hgets j o h1, h2⟩
  have ht : Trans own β ⟨H, nx⟩ w β ⟨H.del id, nx⟩ w := ⟨fun _ _ h => h, fun _ _ => rfl, Nat.le_refl _, Nat.le_refl _, fun _ _ _ => rfl, fun b h => .inl (hlive b h), fun _ cur _ _ h => ⟨cur, h, rfl⟩, rfl, rfl, rfl⟩
  refine ⟨⟨hs.fresh, hs.lt, hs.ownlt, fun j o hj => ?_, fun j j' o o' b x y h1 h2 => hs.inj j j' o o' b x y (hgets _ _ h1) (hgets _ _ h2)⟩, ht⟩
  obtain ⟨b, base, h1, h2, h3⟩ := hs.obj j o (hgets j o hj)
  exact ⟨b, base, h1, h2, h3.later ht.later rfl⟩
end

end Go.Eng
namespace Go.Eng

/-- Lists of related values. -/
def RL (hp : Array Obj) (L : Nat → Prop) (β : Bl) (as : List AV) (vs : List Value) : Prop :=
  as.length = vs.length ∧ ∀ (i : Nat) (c : AV) (v : Value), as[i]? = some c → vs[i]? = some v → VR hp L β c v

section
variable {hp : Array Obj} {L : Nat → Prop} {β : Bl}
theorem RL.nil : RL hp L β [] [] := ⟨rfl, fun i c v h => by simp at h⟩
theorem RL.cons {a : AV} {v : Value} {as : List AV} {vs : List Value} (h : VR hp L β a v) (hs : RL hp L β as vs) : RL hp L β (a :: as) (v :: vs) := by
  refine ⟨by simp [hs.1], fun i c x hc hx => ?_⟩
  cases i with
  | zero => simp at hc hx; subst hc; subst hx; exact h
  | succ i => simp at hc hx; exact hs.2 i c x hc hx
theorem RL.head {a : AV} {v : Value} {as : List AV} {vs : List Value} (h : RL hp L β (a :: as) (v :: vs)) : VR hp L β a v := h.2 0 a v (by simp) (by simp)
theorem RL.tail {a : AV} {v : Value} {as : List AV} {vs : List Value} (h : RL hp L β (a :: as) (v :: vs)) : RL hp L β as vs :=
  ⟨by have := h.1; simp at this; exact this, fun i c x hc hx => h.2 (i + 1) c x (by simpa using hc) (by simpa using hx)⟩
theorem RL.take {as : List AV} {vs : List Value} (h : RL hp L β as vs) (n : Nat) : RL hp L β (as.take n) (vs.take n) :=
  ⟨by simp [h.1], fun i c x hc hx => h.2 i c x (by rw [List.getElem?_take] at hc; split at hc <;> simp_all) (by rw [List.getElem?_take] at hx; split at hx <;> simp_all)⟩
theorem RL.drop {as : List AV} {vs : List Value} (h : RL hp L β as vs) (n : Nat) : RL hp L β (as.drop n) (vs.drop n) :=
  ⟨by simp [h.1], fun i c x hc hx => h.2 (n + i) c x (by rwa [List.getElem?_drop] at hc) (by rwa [List.getElem?_drop] at hx)⟩
theorem RL.append {as bs : List AV} {vs us : List Value} (h : RL hp L β as vs) (k : RL hp L β bs us) : RL hp L β (as ++ bs) (vs ++ us) := by
  refine ⟨by simp [h.1, k.1], fun i c x hc hx => ?_⟩
  rw [List.getElem?_append] at hc hx
  rw [← h.1] at hx
  split at hc
  · rename_i hi; rw [if_pos hi] at hx; exact h.2 i c x hc hx
  · rename_i hi; rw [if_neg hi] at hx; exact k.2 _ c x hc hx
theorem RL.later {as : List AV} {vs : List Value} {hp' : Array Obj} {L' : Nat → Prop} {β' : Bl} (hl : Later hp L β hp' L' β') (h : RL hp L β as vs) : RL hp' L' β' as vs :=
  ⟨h.1, fun i c v hc hv => (h.2 i c v hc hv).later hl⟩
theorem RL.agg {as : List AV} {vs : Array Value} (h : RL hp L β as vs.toList) : VR hp L β (.agg as) (.agg vs) :=
  .agg as vs (by simpa using h.1) fun i c v hc hv => h.2 i c v hc (by simpa using hv)
theorem RL.tup {as : List AV} {vs : Array Value} (h : RL hp L β as vs.toList) : VR hp L β (.tup as) (.tuple vs) :=
  .tup as vs (by simpa using h.1) fun i c v hc hv => h.2 i c v hc (by simpa using hv)
theorem RL.get {as : List AV} {vs : List Value} (h : RL hp L β as vs) {i : Nat} {c : AV} (hc : as[i]? = some c) : ∃ v, vs[i]? = some v ∧ VR hp L β c v := by
  have hi : i < vs.length := by rw [← h.1]; exact (List.getElem?_eq_some_iff.1 hc).1
  exact ⟨vs[i], by simp [hi], h.2 i c _ hc (by simp [hi])⟩
theorem RL.ones {as : List AV} {vs : List Value} (h : RL hp L β as vs) (ho : Eng.ones as = true) : ∀ v ∈ vs, v.oneCell' = true := by
  intro v hv
  obtain ⟨i, hi, rfl⟩ := List.getElem_of_mem hv
  have hia : i < as.length := by rw [h.1]; exact hi
  have h1 : as[i].one = true := List.all_eq_true.1 ho _ (List.getElem_mem hia)
  exact (h.2 i as[i] vs[i] (by simp [hia]) (by simp [hi])).one h1

theorem cScalar_ok {v : Value} {a : AV} (h : cScalar v = some a) : VR hp L β a v := by
  unfold cScalar at h
  split at h <;> cases h
  case h_1 => exact .bool _
  case h_2 => exact .int _ _
  case h_3 s => have := VR.str (hp := hp) (L := L) (β := β) s.data.toList; simpa using this
  case h_4 => exact .nilptr
  case h_5 => exact .nilsl
  case h_6 => exact .nilmap
  case h_7 => exact .nilfunc
  case h_8 => exact .nilif
theorem cVals_ok : ∀ {vs : List Value} {as : List AV}, cVals vs = some as → RL hp L β as vs
  | [], as, h => by simp [cVals] at h; subst h; exact .nil
  | v :: vs, as, h => by
    unfold cVals at h
    split at h
    · rename_i a as' h1 h2
      cases h
      exact .cons (cScalar_ok h1) (cVals_ok h2)
    · cases h
theorem cVal_ok {v : Value} {a : AV} (h : cVal v = some a) : VR hp L β a v := by
  unfold cVal at h
  split at h
  · rename_i cs
    cases hq : cVals cs.toList with
    | none => simp [hq] at h
    | some as => simp [hq] at h; subst h; exact RL.agg (cVals_ok hq)
  · exact cScalar_ok h
end

structure Sim (nt : Nat) (ds : List Deferred) (own : Nat → Prop) (β : Bl) (T : Tm) (h : AH) (a : Act) (w : World) : Prop where
  hp : SimH own β h.H h.nx w
  sz : a.tmps.size = nt
  tm : ∀ t v, T.get t = some v → VR w.heap (LL own β h.H) β v (a.tmps.getD t Go.undef)
  df : a.defers = ds

section
variable {nt : Nat} {ds : List Deferred} {own : Nat → Prop} {β : Bl} {T : Tm} {h : AH} {a : Act} {w : World}
theorem cOpd_ok (hs : Sim nt ds own β T h a w) {x : Operand} {y : Opd} (hx : cOpd x = some y) : VR w.heap (LL own β h.H) β (y.ev T) (a.eval x) := by
  cases x with
  | tmp t =>
    simp [cOpd] at hx; subst hx
    simp only [Opd.ev, Act.eval]
    cases hg : T.get t with
    | none => exact .undef _
    | some v => exact hs.tm t v hg
  | const v =>
    simp [cOpd] at hx
    obtain ⟨b, hb, rfl⟩ := hx
    exact cVal_ok hb
  | global g =>
    simp [cOpd] at hx; subst hx
    exact .gptr g 0
  | func f =>
    simp [cOpd] at hx; subst hx
    exact .func _ [] [] #[] #[] rfl rfl (fun i c v h => by simp at h) (fun i c v h => by simp at h)
theorem cOpds_ok (hs : Sim nt ds own β T h a w) : ∀ {xs : List Operand} {ys : List Opd}, cOpds xs = some ys → RL w.heap (LL own β h.H) β (ys.map (·.ev T)) (xs.map a.eval)
  | [], ys, hx => by simp [cOpds] at hx; subst hx; exact .nil
  | x :: xs, ys, hx => by
    unfold cOpds at hx
    split at hx
    · rename_i y ys' h1 h2
      cases hx
      exact .cons (cOpd_ok hs h1) (cOpds_ok hs h2)
    · cases hx
end

/-- An operation that ends in a value: what it does to the world and to the objects. -/
def OpOk (P : Program) (own : Nat → Prop) (β : Bl) (h : AH) (w : World) (s : Sem Next) (v : AV) (h' : AH) : Prop :=
  ∃ cv w' β', (s.run P w = .ok (.value cv) w' ∨ (s.run P w = .ok .skip w' ∧ cv = Go.undef)) ∧ SimH own β' h'.H h'.nx w' ∧ VR w'.heap (LL own β' h'.H) β' v cv ∧ Trans own β h w β' h' w'

section
variable {P : Program} {own : Nat → Prop} {β : Bl} {h : AH} {w : World}
theorem OpOk.still {s : Sem Next} {v : AV} {cv : Value} (hs : SimH own β h.H h.nx w) (hr : s.run P w = .ok (.value cv) w) (hv : VR w.heap (LL own β h.H) β v cv) : OpOk P own β h w s v h :=
  ⟨cv, w, β, .inl hr, hs, hv, .refl _ _ _ _⟩

theorem cellsAt_some {id : Nat} {cs : List AV} (hc : h.cellsAt id = some cs) : h.H.get id = some (.cells cs) := by
  unfold AH.cellsAt at hc
  split at hc
  · rename_i cs' hg; cases hc; exact hg
  · cases hc

theorem add_lit' (b o n : Nat) : (⟨b, o, none⟩ : Addr).add n = ⟨b, o + n, none⟩ := by
  unfold Addr.add; split <;> simp_all

/-- What a live row of cells is in the world. -/
theorem SimH.row (hs : SimH own β h.H h.nx w) {id : Nat} {cs : List AV} (hc : h.cellsAt id = some cs) :
    ∃ b base cur e, h.H.get id = some (.cells cs) ∧ β id = some (b, base) ∧ w.heap[b]? = some (.cells cur e (0, 0)) ∧ base + cs.length ≤ cur.size ∧
      ∀ (i : Nat) (c : AV) (v : Value), cs[i]? = some c → cur[base + i]? = some v → VR w.heap (LL own β h.H) β c v := by
  have hg := cellsAt_some hc
  obtain ⟨b, base, h1, _, cur, e, h2, h3, h4⟩ := hs.obj id _ hg
  exact ⟨b, base, cur, e, hg, h1, h2, h3, h4⟩

/-- What a listed variable is in the world. -/
theorem SimH.glob (hs : SimH own β h.H h.nx w) {g : Nat} {cs : List AV} (hc : h.globAt g = some cs) :
    ∃ cur e fz, w.heap[g]? = some (.cells cur e fz) ∧ cs.length ≤ cur.size ∧ ∀ (i : Nat) (c : AV) (v : Value), cs[i]? = some c → cur[i]? = some v → VR w.heap (LL own β h.H) β c v := by
  unfold AH.globAt at hc
  split at hc
  · rename_i g' cs' hg
    split at hc
    · rename_i hgg
      cases hc
      subst hgg
      obtain ⟨b, base, h1, _, h0, h5, cur, e, fz, h2, h3, h4⟩ := hs.obj _ _ hg
      subst h5
      exact ⟨cur, e, fz, h2, h3, h4⟩
    · cases hc
  · cases hc

theorem cut_some {cs as : List AV} {off n : Nat} (hc : cut cs off n = some as) : off + n ≤ cs.length ∧ as = (cs.drop off).take n := by
  unfold cut at hc
  split at hc
  · cases hc; exact ⟨by assumption, rfl⟩
  · cases hc
theorem splice_some {cs new as : List AV} {off : Nat} (hc : splice cs off new = some as) : off + new.length ≤ cs.length ∧ as = cs.take off ++ new ++ cs.drop (off + new.length) := by
  unfold splice at hc
  split at hc
  · cases hc; exact ⟨by assumption, rfl⟩
  · cases hc

/-- Cells of a row that is known: those from o on, n of them. -/
theorem row_RL {hp : Array Obj} {L : Nat → Prop} {β : Bl} {cs : List AV} {cur : Array Value} {o : Nat} (hl : o + cs.length ≤ cur.size) (hr : ∀ (i : Nat) (c : AV) (v : Value), cs[i]? = some c → cur[o + i]? = some v → VR hp L β c v) :
    RL hp L β cs ((cur.toList.drop o).take cs.length) :=
  ⟨by simp; omega, fun i c v hc hv => hr i c v hc (by
    rw [List.getElem?_take] at hv
    split at hv
    · rw [List.getElem?_drop] at hv; simpa using hv
    · cases hv)⟩
theorem row_cells {b o n : Nat} {cur : Array Value} {e : TypeId} {fz : Nat × Nat} (hb : w.heap[b]? = some (.cells cur e fz)) :
    ∀ (j : Nat) (v : Value), ((cur.toList.drop o).take n)[j]? = some v → w.cell? ((⟨b, o, none⟩ : Addr).add j) = some v := by
  intro j v hv
  rw [add_lit', cell_of_row w b _ cur e fz hb]
  rw [List.getElem?_take] at hv
  split at hv
  · rw [List.getElem?_drop] at hv; simpa using hv
  · cases hv

/-- n cells from an address on: what a load of them gives. -/
theorem aloadn_ok (hs : SimH own β h.H h.nx w) {n : Nat} {av : AV} {cv : Value} {as : List AV} (hl : aloadn h n av = some as) (hv : VR w.heap (LL own β h.H) β av cv) :
    ∃ ad vs, cv = .pointer (some ad) ∧ RL w.heap (LL own β h.H) β as vs ∧ vs.length = n ∧ ∀ (j : Nat) (v : Value), vs[j]? = some v → w.cell? (ad.add j) = some v := by
  cases hv <;> simp only [aloadn] at hl <;> try cases hl
  case ptr id off b base hβ =>
    cases hc : h.cellsAt id with
    | none => simp [hc] at hl
    | some cs =>
      simp only [hc] at hl
      obtain ⟨h1, rfl⟩ := cut_some hl
      obtain ⟨b', base', cur, e, hg, hβ', hb, hlen, hr⟩ := hs.row hc
      rw [hβ] at hβ'; cases hβ'
      have hR := ((row_RL hlen hr).drop off).take n
      have heq : (((cur.toList.drop base).take cs.length).drop off).take n = (cur.toList.drop (base + off)).take n := by
        rw [List.drop_take, List.take_take, List.drop_drop, Nat.min_eq_left (by omega)]
      rw [heq] at hR
      refine ⟨_, _, rfl, hR, ?_, row_cells hb⟩
      have := hR.1
      simp at this ⊢
      omega
  case gptr g off =>
    cases hc : h.globAt g with
    | none => simp [hc] at hl
    | some cs =>
      simp only [hc] at hl
      obtain ⟨h1, rfl⟩ := cut_some hl
      obtain ⟨cur, e, fz, hb, hlen, hr⟩ := hs.glob hc
      have hR := ((row_RL (cs := cs) (cur := cur) (o := 0) (by omega) (fun i c v hc hv => hr i c v hc (by rwa [Nat.zero_add] at hv))).drop off).take n
      have heq : (((cur.toList.drop 0).take cs.length).drop off).take n = (cur.toList.drop off).take n := by
        rw [List.drop_zero, List.drop_take, List.take_take, Nat.min_eq_left (by omega)]
      rw [heq] at hR
      refine ⟨_, _, rfl, hR, ?_, row_cells hb⟩
      have := hR.1
      simp at this ⊢
      omega
  case pptr cs b o cur e fz hb hL hlen hr =>
    obtain ⟨h1, rfl⟩ := cut_some hl
    have hR := ((row_RL hlen hr).drop 0).take n
    have heq : (((cur.toList.drop o).take cs.length).drop 0).take n = (cur.toList.drop o).take n := by
      rw [List.drop_zero, List.take_take, Nat.min_eq_left (by omega)]
    rw [heq] at hR
    refine ⟨_, _, rfl, hR, ?_, row_cells hb⟩
    have := hR.1
    simp at this ⊢
    omega

theorem aload1_ok (hs : SimH own β h.H h.nx w) {av : AV} {cv : Value} {x : AV} (hl : aload1 h av = some x) (hv : VR w.heap (LL own β h.H) β av cv) :
    ∃ ad v, cv = .pointer (some ad) ∧ VR w.heap (LL own β h.H) β x v ∧ w.cell? ad = some v := by
  have h1 : aloadn h 1 av = some [x] := by
    cases av <;> simp only [aload1] at hl <;> try cases hl
    case ptr id off =>
      simp only [aloadn]
      cases hc : h.cellsAt id with
      | none => simp [hc] at hl
      | some cs =>
        simp only [hc] at hl ⊢
        obtain ⟨hlt, hx⟩ := List.getElem?_eq_some_iff.1 hl
        unfold cut
        rw [if_pos (by omega)]
        congr 1
        rw [List.drop_eq_getElem_cons hlt]
        simp [hx]
    case gptr g off =>
      simp only [aloadn]
      cases hc : h.globAt g with
      | none => simp [hc] at hl
      | some cs =>
        simp only [hc] at hl ⊢
        obtain ⟨hlt, hx⟩ := List.getElem?_eq_some_iff.1 hl
        unfold cut
        rw [if_pos (by omega)]
        congr 1
        rw [List.drop_eq_getElem_cons hlt]
        simp [hx]
    case pptr cs =>
      simp only [aloadn]
      cases cs with
      | nil => simp at hl
      | cons c cs => simp at hl; subst hl; simp [cut]
  obtain ⟨ad, vs, h2, h3, h4, h5⟩ := aloadn_ok hs h1 hv
  match vs, h4 with
  | [v], _ => exact ⟨ad, v, h2, h3.head, by have := h5 0 v (by simp); simpa [Addr.add] using this⟩

theorem aggOf_none {t : TypeId} (hq : aggOf P t = some none) : (isAgg t).run P w = .ok false w := by
  unfold aggOf at hq
  cases hu : P.underlying t with
  | none => simp [hu] at hq
  | some d =>
    simp only [isAgg, Sem.run_bind, run_underlying hu, Result.andThen_ok]
    cases d <;> simp [hu] at hq <;> rfl
theorem szOf_some {t : TypeId} {n : Nat} (hq : szOf P t = some n) : (sizeOf t).run P w = .ok n w := by
  unfold szOf at hq
  cases hi : P.info? t with
  | none => simp [hi] at hq
  | some i => simp [hi] at hq; simp [sizeOf, typeInfo, hi, hq]
theorem aggOf_some {t : TypeId} {n : Nat} (hq : aggOf P t = some (some n)) : (isAgg t).run P w = .ok true w ∧ (sizeOf t).run P w = .ok n w := by
  unfold aggOf at hq
  cases hu : P.underlying t with
  | none => simp [hu] at hq
  | some d =>
    simp only [isAgg, Sem.run_bind, run_underlying hu, Result.andThen_ok]
    cases d <;> simp [hu] at hq
    all_goals exact ⟨rfl, szOf_some hq⟩

theorem load1_ok (hs : SimH own β h.H h.nx w) {t : TypeId} {av : AV} {cv : Value} {x : AV} (hq : aggOf P t = some none) (hl : aload1 h av = some x) (hv : VR w.heap (LL own β h.H) β av cv) :
    ∃ v, (Instr.loadAt t cv).run P w = .ok v w ∧ VR w.heap (LL own β h.H) β x v := by
  obtain ⟨ad, v, rfl, h1, h2⟩ := aload1_ok hs hl hv
  refine ⟨v, ?_, h1⟩
  simp only [Instr.loadAt, Instr.sureAddr, Sem.run_bind, Sem.run_pure, Result.andThen_ok, loadVar, aggOf_none hq]
  simp [h2]
theorem loadn_ok (hs : SimH own β h.H h.nx w) {t : TypeId} {n : Nat} {av : AV} {cv : Value} {as : List AV} (hq : aggOf P t = some (some n)) (hl : aloadn h n av = some as) (hv : VR w.heap (LL own β h.H) β av cv) :
    ∃ v, (Instr.loadAt t cv).run P w = .ok v w ∧ VR w.heap (LL own β h.H) β (.agg as) v := by
  obtain ⟨ad, vs, rfl, h1, h2, h3⟩ := aloadn_ok hs hl hv
  obtain ⟨q1, q2⟩ := aggOf_some (w := w) hq
  refine ⟨.agg vs.toArray, ?_, RL.agg (by simpa using h1)⟩
  have hld := run_loadCells_list (P := P) w ad vs h3
  rw [h2] at hld
  simp only [Instr.loadAt, Instr.sureAddr, Sem.run_bind, Sem.run_pure, Result.andThen_ok, loadVar, q1, q2, hld, if_true]
end

end Go.Eng
