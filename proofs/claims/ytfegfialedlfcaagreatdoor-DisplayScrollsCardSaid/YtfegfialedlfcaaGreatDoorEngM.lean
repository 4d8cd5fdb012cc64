/- Further operations: conversions between strings and slices of letters or bytes. Draw regions of the abstract interpreter. Operations of a region, in the order of the text and in every other order that is let; definitions, and the first of the two. The abstract interpreter: regions that draw their order, code, functions. Definitions. A region that draws its order: the objects in parts. -/
import Derived.Test.YtfegfialedlfcaaGreatDoorEngXM
import Derived.Laws.Cover4
import Derived.Laws.IdiomStrings
import Derived.Laws.BytesArg
set_option linter.unusedSimpArgs false
set_option linter.unusedVariables false
set_option linter.unnecessarySimpa false
noncomputable section
namespace Go.Eng
theorem runesFrom_asc (l : List UInt8) (hl : ∀ b ∈ l, b.toNat < 128) : ∀ (bound i : Nat) (acc : Array Value), i ≤ l.length → l.length - i ≤ bound →
    Conv.runesFrom ⟨l.toArray⟩ bound i acc = acc ++ ((l.drop i).map fun b => Value.int .i32 (b.toNat : Int)).toArray := by
  intro bound
  induction bound with
  | zero =>
    intro i acc hi hb
    have : l.drop i = [] := List.drop_eq_nil_of_le (by omega)
    simp [Conv.runesFrom, this]
  | succ n ih =>
    intro i acc hi hb
    unfold Conv.runesFrom
    have hs : (⟨l.toArray⟩ : ByteArray).size = l.length := bytes_size l
    by_cases h : i < l.length
    · rw [if_pos (by rw [hs]; exact h)]
      have hget : ((⟨l.toArray⟩ : ByteArray).get! (i + 0)) = l[i] := by
        simp [ByteArray.get!, getElem!_def, List.getElem?_eq_getElem h]
      have hd : Utf8.decode ⟨l.toArray⟩ i = (l[i].toNat, 1) := by
        unfold Utf8.decode
        simp only [hget]
        rw [if_pos (hl _ (List.getElem_mem h))]
      rw [hd]
      simp only
      rw [ih (i + 1) _ (by omega) (by omega), List.drop_eq_getElem_cons h, List.map_cons]
      generalize (List.map (fun b => Value.int IntKind.i32 (b.toNat : Int)) (List.drop (i + 1) l)) = r
      simp
    · rw [if_neg (by rw [hs]; exact h)]
      have : l.drop i = [] := List.drop_eq_nil_of_le (by omega)
      simp [this]

theorem decode_at (s : List UInt8) (i : Nat) : Utf8.decode ⟨s.toArray⟩ i = Utf8.decode ⟨(s.drop i).toArray⟩ 0 := by
  have hg : ∀ k, ((⟨(s.drop i).toArray⟩ : ByteArray).get! (0 + k)) = ((⟨s.toArray⟩ : ByteArray).get! (i + k)) := by
    intro k
    simp [ByteArray.get!, getElem!_def, List.getElem?_drop]
  have hs : ∀ k, decide (0 + k < (⟨(s.drop i).toArray⟩ : ByteArray).size) = decide (i + k < (⟨s.toArray⟩ : ByteArray).size) := by
    intro k
    rw [bytes_size, bytes_size, List.length_drop]
    exact decide_eq_decide.2 (by omega)
  unfold Utf8.decode
  simp only [hg, hs]
theorem decode_width (s : ByteArray) (i : Nat) : 1 ≤ (Utf8.decode s i).2 := by
  unfold Utf8.decode
  repeat' (first | split | (simp only []; split))
  all_goals simp
theorem runesFrom_all (l : List UInt8) : ∀ (bound i : Nat) (acc : Array Value) (n : Nat), l.length - i ≤ bound → l.length - i ≤ n →
    Conv.runesFrom ⟨l.toArray⟩ bound i acc = acc ++ ((runesGo n (l.drop i)).map fun r => Value.int .i32 r).toArray := by
  intro bound
  induction bound with
  | zero =>
    intro i acc n hb hn
    have : l.drop i = [] := List.drop_eq_nil_of_le (by omega)
    rw [this]
    cases n <;> simp [Conv.runesFrom, runesGo]
  | succ m ih =>
    intro i acc n hb hn
    unfold Conv.runesFrom
    have hs : (⟨l.toArray⟩ : ByteArray).size = l.length := bytes_size l
    by_cases h : i < l.length
    · rw [if_pos (by rw [hs]; exact h)]
      obtain ⟨n, rfl⟩ : ∃ k, n = k + 1 := ⟨n - 1, by omega⟩
      have hw := decode_width ⟨l.toArray⟩ i
      have hd := decode_at l i
      rw [List.drop_eq_getElem_cons h] at hd
      rw [List.drop_eq_getElem_cons h]
      simp only [runesGo]
      rw [← hd]
      generalize Utf8.decode ⟨l.toArray⟩ i = p at hw
      obtain ⟨r, w⟩ := p
      simp only at hw ⊢
      rw [ih (i + w) _ n (by omega) (by omega), ← List.drop_eq_getElem_cons h, List.drop_drop]
      simp
    · rw [if_neg (by rw [hs]; exact h)]
      have : l.drop i = [] := List.drop_eq_nil_of_le (by omega)
      rw [this]
      cases n <;> simp [runesGo]
theorem runesFrom_runesN (l : List UInt8) : Conv.runesFrom ⟨l.toArray⟩ (⟨l.toArray⟩ : ByteArray).size 0 #[] = ((runesN l).map fun r => Value.int .i32 r).toArray := by
  rw [runesFrom_all l _ 0 #[] l.length (by rw [bytes_size]; omega) (by omega)]
  simp [runesN]
theorem runesGo_len : ∀ (n : Nat) (l : List UInt8), (runesGo n l).length ≤ l.length
  | 0, l => by simp [runesGo]
  | n + 1, [] => by simp [runesGo]
  | n + 1, b :: l => by
    simp only [runesGo, List.length_cons]
    have h1 := runesGo_len n ((b :: l).drop (Utf8.decode ⟨(b :: l).toArray⟩ 0).2)
    have h2 := decode_width ⟨(b :: l).toArray⟩ 0
    rw [List.length_drop, List.length_cons] at h1
    omega
theorem asc_spec {l : List UInt8} (h : asc l = true) : ∀ b ∈ l, b.toNat < 128 := by
  intro b hb
  have := List.all_eq_true.1 h b hb
  simpa [Nat.blt_eq] using this

section
variable {hp : Array Obj} {L : Nat → Prop} {β : Bl}
theorem runesOf_RL : ∀ (l : List UInt8), RL hp L β (runesOf l) (l.map fun b => Value.int .i32 (b.toNat : Int))
  | [] => RL.nil
  | b :: l => RL.cons (.int _ _) (runesOf_RL l)
theorem i32V_RL : ∀ (l : List Int), RL hp L β (l.map i32V) (l.map fun n => Value.int .i32 n)
  | [] => RL.nil
  | _ :: l => RL.cons (.int _ _) (i32V_RL l)
theorem i32s_eq : ∀ {cs : List AV} {ns : List Int}, i32s cs = some ns → cs = ns.map i32V
  | [], ns, h => by simp [i32s] at h; subst h; rfl
  | c :: cs, ns, h => by
    unfold i32s at h
    split at h
    · cases ‹_ :: _ = []›
    · rename_i n r he
      cases he
      split at h
      · rename_i l hl
        cases h
        rw [i32s_eq hl]; rfl
      · cases h
    · cases h
theorem i32s_RL {cs : List AV} {ns : List Int} {vs : List Value} (h : i32s cs = some ns) (hR : RL hp L β cs vs) : vs = ns.map (Value.int .i32) := by
  have hc := i32s_eq h
  subst hc
  clear h
  induction ns generalizing vs with
  | nil => have := hR.1; simp at this; exact List.length_eq_zero_iff.1 this.symm
  | cons n ns ih =>
    match vs, hR with
    | [], hR => exact absurd hR.1 (by simp)
    | v :: vs, hR =>
      have hv := hR.head
      rw [ih hR.tail]
      cases hv
      rfl
theorem runesBytes_enc (ns : List Int) : runesBytes ns = ⟨(encAll ns).toArray⟩ := by
  have hcons : ∀ (ns : List Int) (x : ByteArray), ns.foldl (fun r n => r ++ Utf8.encode n) x = x ++ ⟨(encAll ns).toArray⟩ := by
    intro ns
    induction ns with
    | nil => intro x; show x = x ++ ByteArray.empty; simp
    | cons m ns ih =>
      intro x
      rw [List.foldl_cons, ih, ByteArray.append_assoc]
      congr 1
  unfold runesBytes
  rw [hcons]
  simp
theorem runesOf_length : ∀ (l : List UInt8), (runesOf l).length = l.length
  | [] => rfl
  | _ :: l => by simp [runesOf, runesOf_length l]

theorem ascI_RL : ∀ {cs : List AV} {s : List UInt8} {vs : List Value}, ascI cs = some s → RL hp L β cs vs → ∃ ns : List Int, vs = ns.map (Value.int .i32) ∧ runesBytes ns = ⟨s.toArray⟩
  | [], s, vs, h, hR => by
    simp [ascI] at h; subst h
    have : vs = [] := by have := hR.1; simp at this; exact List.length_eq_zero_iff.1 this.symm
    subst this
    exact ⟨[], rfl, rfl⟩
  | c :: cs, s, vs, h, hR => by
    match vs, hR with
    | [], hR => exact absurd hR.1 (by simp)
    | v :: vs, hR =>
    have hv := hR.head
    have hR' := hR.tail
    unfold ascI at h
    split at h
    · cases ‹_ :: _ = []›
    · rename_i n r he
      cases he
      split at h
      · rename_i hn
        split at h
        · rename_i l hl
          cases h
          obtain ⟨ns, h1, h2⟩ := ascI_RL hl hR'
          cases hv
          refine ⟨n :: ns, by simp [h1], ?_⟩
          have henc : Utf8.encode n = ⟨#[UInt8.ofNat n.toNat]⟩ := by
            have hv : Utf8.valid n = true := by unfold Utf8.valid; simp; omega
            unfold Utf8.encode
            simp only [hv, if_true]
            rw [if_pos (by omega)]
          have hcons : ∀ (ns : List Int) (x : ByteArray), ns.foldl (fun r n => r ++ Utf8.encode n) x = x ++ ns.foldl (fun r n => r ++ Utf8.encode n) ByteArray.empty := by
            intro ns
            induction ns with
            | nil => intro x; simp
            | cons m ns ih => intro x; rw [List.foldl_cons, ih, List.foldl_cons, ih (ByteArray.empty ++ _)]; simp [ByteArray.append_assoc]
          unfold runesBytes at h2 ⊢
          rw [List.foldl_cons, hcons, h2, henc]
          simp only [ByteArray.empty_append]
          have := bytes_append [UInt8.ofNat n.toNat] l
          simpa using this
        · cases h
      · cases h
    · cases h

theorem bytesI_RL : ∀ {cs : List AV} {s : List UInt8} {vs : List Value}, bytesI cs = some s → RL hp L β cs vs → ∃ ns : List Int, vs = ns.map (Value.int .u8) ∧ (ns.map fun n => UInt8.ofNat n.toNat) = s
  | [], s, vs, h, hR => by
    simp [bytesI] at h; subst h
    have : vs = [] := by have := hR.1; simp at this; exact List.length_eq_zero_iff.1 this.symm
    subst this
    exact ⟨[], rfl, rfl⟩
  | c :: cs, s, vs, h, hR => by
    match vs, hR with
    | [], hR => exact absurd hR.1 (by simp)
    | v :: vs, hR =>
    have hv := hR.head
    have hR' := hR.tail
    unfold bytesI at h
    split at h
    · cases ‹_ :: _ = []›
    · rename_i n r he
      cases he
      split at h
      · rename_i l hl
        cases h
        obtain ⟨ns, h1, h2⟩ := bytesI_RL hl hR'
        cases hv
        exact ⟨n :: ns, by simp [h1], by simp [h2]⟩
      · cases h
    · cases h
end
section
variable {P : Program} {own : Nat → Prop} {β : Bl} {h : AH} {w : World}
theorem load_of_src {a : Addr} {m cap : Nat} {vs : List Value} (hl : vs.length = m * 1) (hf : ∀ n, n ≤ m → ∀ w', w'.heap = w.heap → (Builtin.firstCells 1 n (.slice (some a) m cap)).run P w' = .ok (vs.take (n * 1)).toArray w') :
    (loadCells a m).run P w = .ok vs.toArray w := by
  have := hf m (Nat.le_refl _) w rfl
  rw [List.take_of_length_le (by omega)] at this
  simpa [Builtin.firstCells] using this

theorem s2r_ok (hs : SimH own β h.H h.nx w) {src dst e : TypeId} {s : List UInt8} (h1 : P.underlying src = some .string) (h2 : P.underlying dst = some (.slice e)) (h3 : P.underlying e = some (.int .i32))
    (ha : asc s = true) (hn : s.length ≤ 1000000) : OpOk P own β h w (do pure (.value (← convert src dst (.string ⟨s.toArray⟩)))) (.rsl h.nx 0 s.length 1) (h.add (.cells (runesOf s))) := by
  have hr : Conv.runesFrom ⟨s.toArray⟩ (⟨s.toArray⟩ : ByteArray).size 0 #[] = (s.map fun b => Value.int .i32 (b.toNat : Int)).toArray := by
    rw [runesFrom_asc s (asc_spec ha) _ 0 #[] (Nat.zero_le _) (by rw [bytes_size]; omega)]; simp
  have hrun := run_runes_of_string (P := P) w src dst e ⟨s.toArray⟩ h1 h2 h3 (by rw [hr]; simp; omega)
  rw [hr] at hrun
  obtain ⟨β', g1, g2, g3⟩ := grow_ok (w := w) hs (e := e) (z := 1) (i := default) (zv := .int .i32 0) rfl s.length 0 (by omega) (as := runesOf s) (vs := (s.map fun b => Value.int .i32 (b.toNat : Int)).toArray) (by simpa using runesOf_RL s) (by rw [runesOf_length]; omega)
  have hz : Builtin.zeroCells (Value.int .i32 0).cells (grownCap w s.length 0 e - s.length) = Array.replicate (grownCap w s.length 0 e - s.length) (.int .i32 0) := by
    have hcl : (Value.int .i32 0).cells = #[Value.int .i32 0] := rfl
    rw [hcl]
    apply Array.ext
    · simp [Builtin.zeroCells]
    · intro i h1 h2
      simp [Builtin.zeroCells, Nat.mod_one]
  rw [hz] at g1 g2 g3
  refine ⟨_, _, β', .inl ?_, g1, g2, g3⟩
  simp only [Sem.run_bind, hrun, Result.andThen_ok, Sem.run_pure]
  simp

theorem r2s_ok (hs : SimH own β h.H h.nx w) {src dst e : TypeId} {x : AV} {cx : Value} {cs : List AV} {m : Nat} {s : List UInt8} (h1 : P.underlying src = some (.slice e)) (h2 : P.underlying dst = some .string) (h3 : P.underlying e = some (.int .i32))
    (hx : VR w.heap (LL own β h.H) β x cx) (hc : acells h 1 x = some cs) (hm : alen x = some m) (ha : ascI cs = some s) : OpOk P own β h w (do pure (.value (← convert src dst cx))) (.str s) h := by
  obtain ⟨a, cap, vs, rfl, _, hR, hl, hf⟩ := src_ok (P := P) hs hc hm hx
  obtain ⟨ns, rfl, hb⟩ := ascI_RL ha hR
  refine .still hs (cv := .string ⟨s.toArray⟩) ?_ (.str s)
  simp only [Sem.run_bind, run_convert_runes_string w src dst e a m cap h1 h3 h2]
  cases a with
  | none =>
    have : m = 0 := by
      cases hx <;> simp [alen] at hm <;> omega
    subst this
    have : ns = [] := by simpa using hl
    subst this
    have : (⟨s.toArray⟩ : ByteArray) = .empty := hb.symm
    rw [this]
    rfl
  | some ad =>
    rw [run_runesToString w ad m cap ns (load_of_src hl hf), hb]
    simp

theorem s2rN_ok (hs : SimH own β h.H h.nx w) {src dst e : TypeId} {s : List UInt8} (h1 : P.underlying src = some .string) (h2 : P.underlying dst = some (.slice e)) (h3 : P.underlying e = some (.int .i32))
    (hn : s.length ≤ 1000000) : OpOk P own β h w (do pure (.value (← convert src dst (.string ⟨s.toArray⟩)))) (.rsl h.nx 0 (runesN s).length 1) (h.add (.cells ((runesN s).map i32V))) := by
  have hr := runesFrom_runesN s
  have hlen := runesGo_len s.length s
  have hrun := run_runes_of_string (P := P) w src dst e ⟨s.toArray⟩ h1 h2 h3 (by rw [hr]; simp [runesN]; omega)
  rw [hr] at hrun
  have hsz : (List.map (fun r => Value.int IntKind.i32 r) (runesN s)).toArray.size = (runesN s).length := by simp
  rw [hsz] at hrun
  obtain ⟨β', g1, g2, g3⟩ := grow_ok (w := w) hs (e := e) (z := 1) (i := default) (zv := .int .i32 0) rfl (runesN s).length 0 (by unfold runesN; omega) (as := (runesN s).map i32V) (vs := ((runesN s).map fun r => Value.int .i32 r).toArray) (by simpa using i32V_RL (runesN s)) (by simp)
  have hz : Builtin.zeroCells (Value.int .i32 0).cells (grownCap w (runesN s).length 0 e - (runesN s).length) = Array.replicate (grownCap w (runesN s).length 0 e - (runesN s).length) (.int .i32 0) := by
    have hcl : (Value.int .i32 0).cells = #[Value.int .i32 0] := rfl
    rw [hcl]
    apply Array.ext
    · simp [Builtin.zeroCells]
    · intro i h1 h2
      simp [Builtin.zeroCells, Nat.mod_one]
  rw [hz] at g1 g2 g3
  refine ⟨_, _, β', .inl ?_, g1, g2, g3⟩
  simp only [Sem.run_bind, hrun, Result.andThen_ok, Sem.run_pure]
theorem SimH.pushB {own : Nat → Prop} {β : Bl} {H : Hp} {nx : Nat} {w w' : World} (hs : SimH own β H nx w) (ob : Obj) (hh : w'.heap = w.heap.push ob) (h1 : w'.os = w.os) (h2 : w'.tape = w.tape) (h3 : w'.output = w.output) :
    SimH own β H nx w' ∧ Trans own β ⟨H, nx⟩ w β ⟨H, nx⟩ w' := by
  have hsz : w'.heap.size = w.heap.size + 1 := by rw [hh]; simp
  have hold : ∀ b, b < w.heap.size → w'.heap[b]? = w.heap[b]? := fun b hb => by rw [hh, Array.getElem?_push, if_neg (by omega)]
  have ht : Trans own β ⟨H, nx⟩ w β ⟨H, nx⟩ w' :=
    ⟨fun _ _ h => h, fun _ _ => rfl, Nat.le_refl _, by omega, fun b hb _ => hold b hb, fun _ h => .inl h, fun b cur e fz hc => ⟨cur, fz, by rw [hold b (lt_of_get hc)]; exact hc, rfl, fun _ => rfl⟩, h1, h2, h3⟩
  refine ⟨⟨hs.fresh, fun id b base hb => by have := hs.lt id b base hb; omega, fun b hb => by have := hs.ownlt b hb; omega, fun id o hg => ?_, hs.inj⟩, ht⟩
  obtain ⟨b, base, q1, q2, q3⟩ := hs.obj id o hg
  exact ⟨b, base, q1, q2, q3.later ht.later (hold b (hs.lt id b base q1))⟩
theorem s2b_ok (hs : SimH own β h.H h.nx w) {src dst e : TypeId} {s : List UInt8} (h1 : P.underlying src = some .string) (h2 : P.underlying dst = some (.slice e)) (h3 : P.underlying e = some (.int .u8)) :
    OpOk P own β h w (do pure (.value (← convert src dst (.string ⟨s.toArray⟩)))) (.psl (s.map fun c => [.int .u8 c.toNat])) h := by
  have hrun := run_bytes_of_string (P := P) w src dst e ⟨s.toArray⟩ h1 h2 h3
  have hsz : (⟨s.toArray⟩ : ByteArray).size = (s.map fun c => [AV.int .u8 (c.toNat : Int)]).length := by rw [bytes_size, List.length_map]
  generalize hcap : grownCap w (⟨s.toArray⟩ : ByteArray).size 0 e = cap at hrun
  have hge : (⟨s.toArray⟩ : ByteArray).size ≤ cap := by rw [← hcap]; exact grownCap_ge w _ 0 e
  obtain ⟨g1, g2⟩ := hs.pushB (w' := w.drew.alloc (.cells (bytesRow ⟨s.toArray⟩ cap) e ((bytesRow ⟨s.toArray⟩ cap).size, (bytesRow ⟨s.toArray⟩ cap).size + 1))) _ rfl rfl rfl rfl
  refine ⟨.slice (some ⟨w.heap.size, 0, none⟩) (⟨s.toArray⟩ : ByteArray).size cap, _, β, .inl (by simp only [Sem.run_bind, hrun, Result.andThen_ok, Sem.run_pure]), g1, ?_, g2⟩
  have hb : (w.drew.alloc (.cells (bytesRow ⟨s.toArray⟩ cap) e ((bytesRow ⟨s.toArray⟩ cap).size, (bytesRow ⟨s.toArray⟩ cap).size + 1))).heap[w.heap.size]? = some (.cells (bytesRow ⟨s.toArray⟩ cap) e ((bytesRow ⟨s.toArray⟩ cap).size, (bytesRow ⟨s.toArray⟩ cap).size + 1)) := heap_alloc_new w.drew _
  rw [hsz] at hge ⊢
  refine .psl _ 1 w.heap.size 0 _ _ _ _ hb ?_ ?_ ?_ hge ?_
  · rintro (ho | ⟨id, o, base, hg, hb'⟩)
    · exact absurd (hs.ownlt _ ho) (Nat.lt_irrefl _)
    · exact absurd (hs.lt _ _ _ hb') (Nat.lt_irrefl _)
  · rw [List.length_map]
    simp [bytesRow]
  · intro i x hx
    rw [List.getElem?_map] at hx
    cases hc : s[i]? with
    | none => rw [hc] at hx; cases hx
    | some c => rw [hc] at hx; cases hx; rfl
  · intro i x j c v hx hc hv
    rw [List.getElem?_map] at hx
    cases hci : s[i]? with
    | none => rw [hci] at hx; cases hx
    | some d =>
      rw [hci] at hx
      cases hx
      match j with
      | 0 =>
        simp at hc
        subst hc
        obtain ⟨hlt, he⟩ := List.getElem?_eq_some_iff.1 hci
        have hat := bytesRow_at ⟨s.toArray⟩ cap i (by simpa using hlt)
        rw [show 0 + i * 1 + 0 = i by omega, hat] at hv
        cases hv
        subst he
        simp only [List.getElem_toArray]
        exact .int _ _
      | j + 1 => simp at hc
theorem r2sN_ok (hs : SimH own β h.H h.nx w) {src dst e : TypeId} {x : AV} {cx : Value} {cs : List AV} {m : Nat} {ns : List Int} (h1 : P.underlying src = some (.slice e)) (h2 : P.underlying dst = some .string) (h3 : P.underlying e = some (.int .i32))
    (hx : VR w.heap (LL own β h.H) β x cx) (hc : acells h 1 x = some cs) (hm : alen x = some m) (ha : i32s cs = some ns) : OpOk P own β h w (do pure (.value (← convert src dst cx))) (.str (encAll ns)) h := by
  obtain ⟨a, cap, vs, rfl, _, hR, hl, hf⟩ := src_ok (P := P) hs hc hm hx
  have hvs := i32s_RL ha hR
  subst hvs
  refine .still hs (cv := .string ⟨(encAll ns).toArray⟩) ?_ (.str _)
  simp only [Sem.run_bind, run_convert_runes_string w src dst e a m cap h1 h3 h2]
  cases a with
  | none =>
    have : m = 0 := by
      cases hx <;> simp [alen] at hm <;> omega
    subst this
    have : ns = [] := by simpa using hl
    subst this
    rfl
  | some ad =>
    rw [run_runesToString w ad m cap ns (load_of_src hl hf), runesBytes_enc]
    simp

theorem b2s_ok (hs : SimH own β h.H h.nx w) {src dst e : TypeId} {x : AV} {cx : Value} {cs : List AV} {m : Nat} {s : List UInt8} (h1 : P.underlying src = some (.slice e)) (h2 : P.underlying dst = some .string) (h3 : P.underlying e = some (.int .u8))
    (hx : VR w.heap (LL own β h.H) β x cx) (hc : acells h 1 x = some cs) (hm : alen x = some m) (ha : bytesI cs = some s) : OpOk P own β h w (do pure (.value (← convert src dst cx))) (.str s) h := by
  obtain ⟨a, cap, vs, rfl, _, hR, hl, hf⟩ := src_ok (P := P) hs hc hm hx
  obtain ⟨ns, rfl, hb⟩ := bytesI_RL ha hR
  refine .still hs (cv := .string ⟨s.toArray⟩) ?_ (.str s)
  simp only [Sem.run_bind, run_convert_bytes_string w src dst e a m cap h1 h3 h2]
  cases a with
  | none =>
    have : m = 0 := by
      cases hx <;> simp [alen] at hm <;> omega
    subst this
    have : ns = [] := by simpa using hl
    subst this
    simp at hb
    subst hb
    rfl
  | some ad =>
    rw [run_bytesToString w ad m cap ns (load_of_src hl hf), foldl_push_bytes, hb]
    have he0 : ByteArray.empty.data = #[] := rfl
    rw [he0]
    simp
end
section
variable {P : Program} {nt : Nat} {ds : List Deferred} {own : Nat → Prop} {β : Bl} {T : Tm} {h : AH} {a : Act} {w : World}
theorem xop_ok (cl : Handler) (hs : Sim nt ds own β T h a w) {o : Oper} {ao : AOp} {v : AV} {h' : AH} (hc : cX P o.op = some ao) (ha : aop cl T h ao = some (v, h')) : OpOk P own β h w (execOp a.eval o) v h' := by
  have hp := hs.hp
  unfold cX at hc
  split at hc
  case h_3 => cases hc
  case h_2 =>
    rename_i t x hop
    simp only [execOp, hop]
    split at hc
    · cases hc
    · rename_i u hne h1
      split at hc
      · rename_i y hy
        cases hc
        have hv := cOpd_ok hs hy
        simp only [aop, List.map_cons, List.map_nil, kX] at ha
        cases ha
        refine .still hp (cv := .iface t (a.eval x)) ?_ (.iface _ _ _ hv)
        cases u <;> first | exact absurd rfl (hne _) | simp [Instr.makeInterface, run_underlying h1]
      · cases hc
    · cases hc
  rename_i src dst x hop
  simp only [execOp, hop]
  split at hc
  · rename_i e h1 h2
    split at hc
    · rename_i y h3 hy
      cases hc
      have hv := cOpd_ok hs hy
      simp only [aop, List.map_cons, List.map_nil] at ha
      generalize y.ev T = yv at ha hv
      generalize a.eval x = xv at hv
      unfold kX at ha
      split at ha <;> try (cases ‹XK.s2r = _›)
      · rename_i s he
        cases he
        split at ha
        · rename_i hcond
          cases ha
          simp only [Bool.and_eq_true, Nat.ble_eq] at hcond
          cases hv
          exact s2r_ok hp h1 h2 h3 hcond.1 hcond.2
        · split at ha
          · rename_i hcond
            cases ha
            simp only [Nat.ble_eq] at hcond
            cases hv
            exact s2rN_ok hp h1 h2 h3 hcond
          · cases ha
      · cases ha
    · rename_i y h3 hy
      cases hc
      have hv := cOpd_ok hs hy
      simp only [aop, List.map_cons, List.map_nil] at ha
      generalize y.ev T = yv at ha hv
      generalize a.eval x = xv at hv
      cases yv <;> simp [kX] at ha
      obtain ⟨h0, rfl, rfl⟩ := ha
      cases hv
      exact s2b_ok hp h1 h2 h3
    · cases hc
  · rename_i e h1 h2
    split at hc
    · rename_i y h3 hy
      cases hc
      have hv := cOpd_ok hs hy
      simp only [aop, List.map_cons, List.map_nil] at ha
      generalize y.ev T = yv at ha hv
      generalize a.eval x = xv at hv
      simp only [kX] at ha
      split at ha
      · rename_i cs m q1 q2
        split at ha
        · rename_i s q3
          cases ha
          exact r2s_ok hp h1 h2 h3 hv q1 q2 q3
        · split at ha
          · rename_i ns q4
            cases ha
            exact r2sN_ok hp h1 h2 h3 hv q1 q2 q4
          · cases ha
      · cases ha
    · rename_i y h3 hy
      cases hc
      have hv := cOpd_ok hs hy
      simp only [aop, List.map_cons, List.map_nil] at ha
      generalize y.ev T = yv at ha hv
      generalize a.eval x = xv at hv
      simp only [kX] at ha
      split at ha
      · rename_i cs m q1 q2
        split at ha
        · rename_i s q3
          cases ha
          exact b2s_ok hp h1 h2 h3 hv q1 q2 q3
        · cases ha
      · cases ha
    · cases hc
  · rename_i k h1 h2
    split at hc
    · rename_i y hy
      cases hc
      have hv := cOpd_ok hs hy
      simp only [aop, List.map_cons, List.map_nil] at ha
      generalize y.ev T = yv at ha hv
      generalize a.eval x = xv at hv
      cases yv <;> simp [kX] at ha
      obtain ⟨rfl, rfl⟩ := ha
      cases hv
      rename_i k' n
      have he : Utf8.encode n = ⟨(encR n).toArray⟩ := by simp [encR]
      refine .still hp (cv := .string ⟨(encR n).toArray⟩) ?_ (.str _)
      rw [← he]
      simp [convert, run_underlying h1, run_underlying h2, Conv.intToString]
    · cases hc
  · cases hc

theorem op_okX (cl : Handler) (hs : Sim nt ds own β T h a w) {o : Oper} {ao : AOp} {v : AV} {h' : AH} (hc : cOpX P o.op = ao) (ha : aop cl T h ao = some (v, h')) (hnc : ∀ f args, ao ≠ .call f args) :
    OpOk P own β h w (execOp a.eval o) v h' := by
  unfold cOpX at hc
  split at hc
  · rename_i ao' h1
    subst hc
    exact op_ok cl hs h1 ha hnc
  · split at hc
    · rename_i ao' h1
      subst hc
      exact xop_ok cl hs h1 ha
    · split at hc
      · rename_i ao' h1
        subst hc
        exact mop_ok cl hs h1 ha
      · subst hc
        simp [aop] at ha
end
end Go.Eng
end
noncomputable section
namespace Go.Eng
/-- A way to know what calls do. -/
def HOk (P : Program) (cl : Handler) : Prop :=
  ∀ f args h v h', cl f args h = some (v, h') →
    (∃ fn, P.funcs[f]? = some fn ∧ fn.body.isSome = true ∧ fn.name ≠ "runtime.NumGoroutine") ∧
    ∀ (own : Nat → Prop) (β : Bl) (w : World) (cargs : Array Value), SimH own β h.H h.nx w → RL w.heap (LL own β h.H) β args cargs.toList →
      Calls P f cargs w fun e w' => ∃ cv β', e = .returned cv ∧ SimH own β' h'.H h'.nx w' ∧ VR w'.heap (LL own β' h'.H) β' v cv ∧ Trans own β h w β' h' w'

def tput (T : Tm) (d : Option Nat) (v : AV) : Tm :=
  match d with
  | some d => T.put d v
  | none => T

def skipped : AV := .tup []

theorem cEq_call {P : Program} {neg : Bool} {t : TypeId} {a b f : Opd} {args : List Opd} (hc : cEq P neg t a b = some (.call f args)) : False := by
  unfold cEq at hc
  split at hc <;> first | (cases hc; done) | skip
  split at hc
  · cases hc
  · simp at hc

theorem cOp_call {P : Program} {op : Op} {f : Opd} {args : List Opd} (hc : cOp P op = some (.call f args)) : ∃ c fo, op = .call c ∧ c.callee = .value fo ∧ cOpd fo = some f ∧ cOpds c.args.toList = some args := by
  cases op <;> simp only [cOp] at hc <;> try (cases hc; done)
  case call c =>
    refine ⟨c, ?_⟩
    split at hc
    · rename_i fo hco
      simp only [bind, Option.bind_eq_some_iff, pure, Option.some.injEq] at hc
      obtain ⟨f', hf', as', has', he⟩ := hc
      cases he
      exact ⟨fo, rfl, hco, hf', has'⟩
    all_goals first | (cases hc; done) | skip
    all_goals (repeat' (split at hc)) <;> simp [bind, Option.bind_eq_some_iff] at hc
    all_goals (obtain ⟨_, _, _, _, hc⟩ := hc; split at hc <;> simp at hc)
  case binOp op t x y ty =>
    simp only [bind, Option.bind_eq_some_iff] at hc
    obtain ⟨_, _, _, _, hc⟩ := hc
    cases op <;> simp at hc
    · exact (cEq_call hc).elim
    · exact (cEq_call hc).elim
  all_goals (repeat' (split at hc)) <;> simp [bind, Option.bind_eq_some_iff] at hc
  case load t x =>
    obtain ⟨n, _, hc⟩ := hc
    cases n <;> simp [Option.bind_eq_some_iff] at hc

theorem cX_form {P : Program} {op : Op} {ao : AOp} (hc : cX P op = some ao) : ∃ k as, ao = .xo k as := by
  unfold cX at hc
  repeat' (split at hc)
  all_goals first | (cases hc; done) | (cases hc; exact ⟨_, _, rfl⟩)
theorem cM_form {P : Program} {op : Op} {ao : AOp} (hc : cM P op = some ao) : ∃ k as, ao = .xo k as := by
  unfold cM at hc
  repeat' (split at hc)
  all_goals first | (cases hc; done) | (cases hc; exact ⟨_, _, rfl⟩) | (simp only [Option.map_eq_some_iff] at hc; obtain ⟨_, _, rfl⟩ := hc; exact ⟨_, _, rfl⟩)
theorem cOpX_call {P : Program} {op : Op} {f : Opd} {args : List Opd} (hc : cOpX P op = .call f args) : cOp P op = some (.call f args) := by
  unfold cOpX at hc
  split at hc
  · rename_i ao h1; subst hc; exact h1
  · split at hc
    · rename_i ao h1
      obtain ⟨k, as, rfl⟩ := cX_form h1
      cases hc
    · split at hc
      · rename_i ao h1
        obtain ⟨k, as, rfl⟩ := cM_form h1
        cases hc
      · cases hc
section
variable {P : Program} {nt : Nat} {ds : List Deferred} {own : Nat → Prop} {β : Bl} {T : Tm} {h : AH} {a : Act} {w : World}
theorem op_wp {cl : Handler} (hcl : HOk P cl) (hs : Sim nt ds own β T h a w) {o : Oper} {ao : AOp} {v : AV} {h' : AH} (hc : cOpX P o.op = ao) (ha : aop cl T h ao = some (v, h'))
    {K : Act → World → Prop} {Q : Exit → Act → World → Prop}
    (hK : ∀ cv w' β', SimH own β' h'.H h'.nx w' → VR w'.heap (LL own β' h'.H) β' v cv → Trans own β h w β' h' w' → K (a.put o.dst cv) w') : o.wp P a w K Q := by
  by_cases hcall : ∃ f args, ao = .call f args
  · obtain ⟨f, args, rfl⟩ := hcall
    -- a call of a Go function
    have hop := cOp_call (cOpX_call hc)
    obtain ⟨c, fo, hop, hco, hf, has⟩ := hop
    simp only [aop, kMov, kPick, kNew, kBox, kBuild, kBuildSl, kLd1, kLdn, kSt, kNilchk, kArith, kEqs, kEqn, kEqf, kUn, kConvI, kFld, kFldA, kIdxA, kIdxArrA, kIdx, kIdxS, kSl, kSlS, kLen, kLenS, kConvS, kLenc, kApp, kCopy, kMnmx, kExt, kMkf, kMksl, kCall, ← afillT_eq] at ha
    have hfv := cOpd_ok hs hf
    cases hfe : f.ev T <;> rw [hfe] at ha hfv <;> (try simp only at ha) <;> try (cases ha; done)
    rename_i fn first captured
    cases fn <;> (try simp only at ha) <;> try (cases ha; done)
    rename_i g
    obtain ⟨⟨fn, hfn, hbody, hname⟩, hcalls⟩ := hcl g _ h v h' ha
    generalize hce : a.eval fo = cf at hfv
    cases hfv
    rename_i f2 c2 hl1 h1 hl2 h2
    have hR : RL w.heap (LL own β h.H) β (first ++ args.map (·.ev T) ++ captured) (f2 ++ c.args.map a.eval ++ c2).toList := by
      have r1 : RL w.heap (LL own β h.H) β first f2.toList := ⟨by simpa using hl1, fun i c v hc hv => h1 i c v hc (by simpa using hv)⟩
      have r2 : RL w.heap (LL own β h.H) β captured c2.toList := ⟨by simpa using hl2, fun i c v hc hv => h2 i c v hc (by simpa using hv)⟩
      have r3 := cOpds_ok hs has
      have := (r1.append r3).append r2
      simpa using this
    have hrun : (execOp a.eval o).run P w = .ok (.enter g (f2 ++ c.args.map a.eval ++ c2)) w := by
      have hb : fn.body.isNone = false := by cases hq : fn.body <;> simp_all
      simp only [execOp, hop, resolve, hco, hce, Deferred.ofValue, Sem.run_bind, Sem.run_pure, Result.andThen_ok, invoke, callFunc, run_program, hfn]
      simp [hname, hb]
    unfold Oper.wp
    rw [hrun]
    show Calls P g _ w _
    refine (hcalls own β w _ hs.hp hR).mono ?_
    rintro e w' ⟨cv, β', rfl, h3, h4, h5⟩
    exact hK cv w' β' h3 h4 h5
  · obtain ⟨cv, w', β', hrun, h1, h2, h3⟩ := op_okX cl hs hc ha (fun f args he => hcall ⟨f, args, he⟩)
    have hk := hK cv w' β' h1 h2 h3
    unfold Oper.wp
    rcases hrun with hrun | ⟨hrun, rfl⟩
    · rw [hrun]; exact hk
    · rw [hrun]; exact hk
end
end Go.Eng
end
noncomputable section
namespace Go.Eng
/-- is the operation wanted? -/
def gd (T : Tm) : Option (Nat × Bool) → Option Bool
  | none => some true
  | some (t, b) => match T.get t with
    | some (.bool c) => some (c == b)
    | some (.tup []) => some false
    | _ => none

def cDst (nt : Nat) : Option Nat → Bool
  | none => true
  | some d => Nat.blt d nt
def cOpr (P : Program) (nt : Nat) (ops : Array Oper) (o : Oper) : Option AOpr :=
    if cDst nt o.dst then
      match o.guard with
      | none => some ⟨o.dst, cOpX P o.op, none⟩
      | some (j, b) => match (ops[j]?).bind (·.dst) with
        | some t => some ⟨o.dst, cOpX P o.op, some (t, b)⟩
        | none => none
    else none
def cOprs (P : Program) (nt : Nat) (ops : Array Oper) : List Oper → Option (List AOpr)
  | [] => some []
  | o :: r => match cOpr P nt ops o, cOprs P nt ops r with
    | some x, some l => some (x :: l)
    | _, _ => none

section
variable {P : Program} {nt : Nat} {ds : List Deferred} {own : Nat → Prop} {β : Bl} {T : Tm} {h : AH} {a : Act} {w : World}
theorem Sim.put (hs : Sim nt ds own β T h a w) {w' : World} {β' : Bl} {h' : AH} {v : AV} {cv : Value} {d : Option Nat} (hd : cDst nt d = true) (h1 : SimH own β' h'.H h'.nx w') (h2 : VR w'.heap (LL own β' h'.H) β' v cv) (h3 : Trans own β h w β' h' w') :
    Sim nt ds own β' (tput T d v) h' (a.put d cv) w' := by
  have old : ∀ t u, T.get t = some u → VR w'.heap (LL own β' h'.H) β' u (a.tmps.getD t Go.undef) := fun t u hu => (hs.tm t u hu).later h3.later
  cases d with
  | none => exact ⟨h1, hs.sz, old, hs.df⟩
  | some d =>
    have hd' : d < nt := by simpa [cDst] using hd
    refine ⟨h1, by simp [Act.put, hs.sz], fun t u hu => ?_, hs.df⟩
    simp only [tput] at hu
    by_cases ht : t = d
    · subst ht
      rw [Tm.get_put_same] at hu; cases hu
      have : t < a.tmps.size := by rw [hs.sz]; exact hd'
      simpa [Act.put, this] using h2
    · rw [Tm.get_put_ne _ _ ht] at hu
      have := old t u hu
      simpa [Act.put, Array.getElem?_setIfInBounds_ne (Ne.symm ht)] using this

theorem gd_wanted (hs : Sim nt ds own β T h a w) {ops : Array Oper} {o : Oper} {ao : AOpr} (hc : cOpr P nt ops o = some ao) {b : Bool} (hg : gd T ao.guard = some b) : Region.wanted o (yielded ops a.tmps) = b := by
  unfold cOpr at hc
  split at hc
  case isFalse => cases hc
  split at hc
  · rename_i hgd
    cases hc
    simp [gd] at hg
    simp [Region.wanted, hgd, hg]
  · rename_i j want hgd
    split at hc
    · rename_i t ht
      cases hc
      simp only [gd] at hg
      have hy : yielded ops a.tmps j = match a.tmps[t]? with | some (.bool b) => some b | _ => none := by unfold yielded; rw [ht]; rfl
      cases hT : T.get t with
      | none => simp [hT] at hg
      | some u =>
        have hv := hs.tm t u hT
        cases u <;> simp [hT] at hg
        · rename_i c
          have : a.tmps[t]? = some (.bool c) := by
            generalize hz : a.tmps.getD t Go.undef = z at hv
            cases hv
            by_cases hlt : t < a.tmps.size
            · simp [hlt] at hz ⊢; exact hz
            · simp [hlt, Go.undef] at hz
          simp only [Region.wanted, hgd, hy, this]
          rw [← hg]
          cases c <;> cases want <;> rfl
        · rename_i vs
          cases vs with
          | cons x y => simp at hg
          | nil =>
            simp at hg
            obtain ⟨cs, hcs, hR⟩ := VR.tup_inv hv
            have hne : ∀ q, a.tmps[t]? ≠ some (.bool q) := by
              intro q hq
              have : a.tmps.getD t Go.undef = .bool q := by simp [hq]
              rw [this] at hcs; cases hcs
            have hyn : yielded ops a.tmps j = none := by
              rw [hy]
              split
              · rename_i q hq; exact absurd hq (hne q)
              · rfl
            simp only [Region.wanted, hgd, hyn]
            rw [hg]; rfl
    · cases hc

theorem cOpr_spec {ops : Array Oper} {o : Oper} {ao : AOpr} (hc : cOpr P nt ops o = some ao) : cOpX P o.op = ao.op ∧ cDst nt o.dst = true ∧ ao.dst = o.dst := by
  unfold cOpr at hc
  split at hc
  · rename_i hd
    split at hc
    · cases hc; exact ⟨rfl, hd, rfl⟩
    · split at hc
      · cases hc; exact ⟨rfl, hd, rfl⟩
      · cases hc
  · cases hc

end
end Go.Eng
end
noncomputable section
namespace Go.Eng
/-! ## regions that draw their order -/
def Opd.use : Opd → List Nat
  | .tmp t => [t]
  | .const _ => []
def usesO : Option Opd → List Nat
  | some x => x.use
  | none => []
def usesL : List Opd → List Nat
  | [] => []
  | x :: r => x.use ++ usesL r
def usesP : List (Nat × Nat × Opd) → List Nat
  | [] => []
  | (_, _, x) :: r => x.use ++ usesP r
/-- the slots that an operation looks at -/
def AOp.uses : AOp → List Nat
  | .mov x | .box x | .ld1 x | .ldn _ x | .nilchk x | .un _ x | .convI _ x | .fld _ _ x | .fldA _ x | .len x | .lenS x | .convS x | .ext x _ => x.use
  | .pick c a b => c.use ++ a.use ++ b.use
  | .new _ | .lenc _ => []
  | .build _ ps | .buildSl _ _ _ ps => usesP ps
  | .st _ x y | .arith _ x y | .eqs _ x y | .eqn _ _ x y | .eqf _ _ x y | .idxA _ x y | .idxArrA _ _ x y | .idx _ _ _ x y | .idxS x y | .app _ _ x y | .copy _ x y | .mnmx _ x y | .mksl _ _ _ x y => x.use ++ y.use
  | .sl _ x lo hi mx => x.use ++ usesO lo ++ usesO hi ++ usesO mx
  | .slS x lo hi => x.use ++ usesO lo ++ usesO hi
  | .mkf _ f c => usesL f ++ usesL c
  | .call f as => f.use ++ usesL as
  | .xo _ as => usesL as
  | .stuck => []
def AOpr.uses (o : AOpr) : List Nat :=
  match o.guard with
  | some (t, _) => t :: o.op.uses
  | none => o.op.uses

def xE : XK → Bool
  | .mapget _ _ _ | .maplen | .mkmap | .newT _ _ | .eqif _ | .i2s | .s2b | .mkif _ | .b2s | .r2s => false
  | _ => true
/-- operations with an effect on objects -/
def aE : AOp → Bool
  | .st _ _ _ | .app _ _ _ _ | .copy _ _ _ | .call _ _ => true
  | .xo k _ => xE k
  | _ => false
def xRd : XK → List AV → Option Nat
  | .mapget _ _ _, .mapv id :: _ => some id
  | .maplen, .mapv id :: _ => some id
  | .b2s, .rsl id _ _ _ :: _ => some id
  | .r2s, .rsl id _ _ _ :: _ => some id
  | _, _ => none
/-- the object that is read -/
def aRd (T : Tm) : AOp → Option Nat
  | .ld1 a | .ldn _ a => match a.ev T with
    | .ptr id _ => some id
    | .gptr g _ => some g
    | _ => none
  | .xo k as => xRd k (as.map (·.ev T))
  | _ => none

/-- What an operation of the region did, in the order of the text. -/
inductive Rec where
  | pure
  | read (x : Nat)
  | alloc (r : Nat) (ob : AObj)
  | eff (V C : AH)

structure DStep where
  T : Tm
  h : AH
  v : AV
  k : Rec

def DStep.h' (s : DStep) : AH :=
  match s.k with
  | .pure | .read _ => s.h
  | .alloc r ob => ⟨s.h.H.put r ob, s.h.nx⟩
  | .eff _ C => C

def dstep (cl : Handler) (o : AOpr) (r : Nat) (T : Tm) (h : AH) : Option DStep :=
  match gd T o.guard with
  | some false => some ⟨T, h, skipped, .pure⟩
  | some true =>
    if aA o.op then match aalloc T o.op with
      | some (cs, mk) => some ⟨T, h, mk r, .alloc r cs⟩
      | none => none
    else match aop cl T h o.op with
      | some (v, h') =>
        if aE o.op then (if Nat.ble h.nx h'.nx then some ⟨T, h, v, .eff h h'⟩ else none)
        else match aRd T o.op with
          | some x => some ⟨T, h, v, .read x⟩
          | none => some ⟨T, h, v, .pure⟩
      | none => none
  | none => none

mutual
def AV.beq : AV → AV → Bool
  | .undef, .undef => true
  | .bool a, .bool b => a == b
  | .int k a, .int l b => decide (k = l) && a == b
  | .str a, .str b => a == b
  | .agg a, .agg b => AV.beqL a b
  | .tup a, .tup b => AV.beqL a b
  | .ptr a b, .ptr c d => a == c && b == d
  | .nilptr, .nilptr => true
  | .pptr a, .pptr b => AV.beqL a b
  | .gptr a b, .gptr c d => a == c && b == d
  | .nilsl, .nilsl => true
  | .esl, .esl => true
  | .psl a, .psl b => AV.beqLL a b
  | .rsl a b c d, .rsl e f g i => a == e && b == f && c == g && d == i
  | .mapv a, .mapv b => a == b
  | .nilmap, .nilmap => true
  | .func f a b, .func g c d => decide (f = g) && AV.beqL a c && AV.beqL b d
  | .nilfunc, .nilfunc => true
  | .nilif, .nilif => true
  | .iface t a, .iface u b => t == u && AV.beq a b
  | .scol k m r i j l lo hi, .scol k' m' r' i' j' l' lo' hi' => decide (k = k') && m == m' && r == r' && i == i' && j == j' && l == l' && lo == lo' && hi == hi'
  | .sint k m i c lo hi, .sint k' m' i' c' lo' hi' => decide (k = k') && m == m' && i == i' && c == c' && lo == lo' && hi == hi'
  | .gsl a b c, .gsl d e f => a == d && b == e && c == f
  | .oint k rs, .oint k' rs' => decide (k = k') && decide (rs = rs')
  | .lin k l c lo hi, .lin k' l' c' lo' hi' => decide (k = k') && linEq l l' && c == c' && lo == lo' && hi == hi'
  | _, _ => false
def AV.beqL : List AV → List AV → Bool
  | [], [] => true
  | a :: as, b :: bs => AV.beq a b && AV.beqL as bs
  | _, _ => false
def AV.beqLL : List (List AV) → List (List AV) → Bool
  | [], [] => true
  | a :: as, b :: bs => AV.beqL a b && AV.beqLL as bs
  | _, _ => false
end
def beqKV : List (AV × AV) → List (AV × AV) → Bool
  | [], [] => true
  | (a, b) :: r, (c, d) :: s => AV.beq a c && AV.beq b d && beqKV r s
  | _, _ => false
def obEq : Option AObj → Option AObj → Bool
  | none, none => true
  | some (.cells a), some (.cells b) => AV.beqL a b
  | some (.map a), some (.map b) => beqKV a b
  | some (.siter s p), some (.siter t q) => s.data.toList == t.data.toList && p == q
  | some (.glob g a), some (.glob k b) => g == k && AV.beqL a b
  | some (.typ g a), some (.typ k b) => g == k && AV.beqL a b
  | _, _ => false

def memN (t : Nat) : List Nat → Bool
  | [] => false
  | x :: r => Nat.beq t x || memN t r
def apartD (d : Option Nat) (l : List Nat) : Bool :=
  match d with
  | some t => !memN t l
  | none => true
def tmpOk (x y : AOpr) : Bool :=
  apartD x.dst y.uses && apartD y.dst x.uses && (match x.dst, y.dst with | some a, some b => !Nat.beq a b | _, _ => true)
/-- may two operations, the first of them ahead in the text, be carried out in either order? -/
def recOk : Rec → Rec → Bool
  | .eff _ _, .eff _ _ => false
  | .alloc _ _, .eff _ _ => false
  | .alloc r _, .read x => !Nat.beq r x
  | .read x, .alloc r _ => !Nat.beq r x
  | .read x, .eff V C => obEq (V.H.get x) (C.H.get x)
  | .eff V C, .read x => obEq (V.H.get x) (C.H.get x)
  | _, _ => true
/-! ## code -/
inductive ACode where
  | skip
  | reg (ops : List AOpr)
  | draw (ops : List (AOpr × Nat))
  | seq (a b : ACode)
  | cond (c : Opd) (t e : ACode)
  | block (id : Nat) (b : ACode)
  | loop (b : ACode)
  | exit (id : Nat)
  | ret
  | stuck
  | rng (g : Opd) (ps : List Nat) (a b : ACode)
  deriving Inhabited

inductive AX where
  | nrm
  | exit (id : Nat)
  | ret
  deriving DecidableEq

/-! ### another order of a drawn region: effects ahead of new objects that they need not wait for -/
def lateAl : List (AOpr × Nat) → Nat → List Nat → Bool
  | [], _, _ => false
  | (o, bits) :: r, i, als => (aE o.op && als.any (fun k => !Nat.testBit bits k)) || lateAl r (i + 1) (cond (aA o.op) (i :: als) als)
def permEff (n : Nat) : List (AOpr × Nat) → Nat → List Nat → List Nat
  | [], _, out => out ++ (List.range n).filter (fun k => !memN k out)
  | (o, bits) :: r, i, out => cond (aE o.op) (let o1 := out ++ (List.range n).filter (fun k => Nat.testBit bits k && !memN k out)
      permEff n r (i + 1) (cond (memN i o1) o1 (o1 ++ [i]))) (permEff n r (i + 1) out)
def pbits (p : List Nat) (bits : Nat) : List Nat → Nat → Nat
  | [], s => s
  | j :: js, s => pbits p bits js (cond (Nat.testBit bits (p.getD j 0)) (s ||| 2 ^ j) s)
def permChk (l : List (AOpr × Nat)) (p : List Nat) : Bool :=
  (List.range l.length).all fun i => Nat.blt (p.getD i 0) l.length && (List.range l.length).any (fun j => Nat.beq (p.getD j 0) i) &&
    (List.range l.length).all fun j => (Nat.beq i j || !Nat.beq (p.getD i 0) (p.getD j 0)) && (!Nat.testBit ((l.getD (p.getD i 0) default).2) (p.getD j 0) || Nat.blt j i)
def permL (l : List (AOpr × Nat)) (p : List Nat) : List (AOpr × Nat) :=
  (List.range l.length).map fun i => ((l.getD (p.getD i 0) default).1, pbits p (l.getD (p.getD i 0) default).2 (List.range l.length) 0)
/-- a plain store -/
def isSt : AOpr → Bool
  | ⟨_, .st _ _ _, none⟩ => true
  | _ => false
/-- the last effect but the one at the end -/
def lastE : List (AOpr × Nat) → Nat → Nat → Nat
  | [], _, m => m
  | (o, _) :: r, i, m => cond (Nat.beq r.length 0) m (lastE r (i + 1) (cond (aE o.op) i m))
/-- a store at the end, and one ahead of it that it need not wait for, with something between -/
def twoE (l : List (AOpr × Nat)) : Bool :=
  cond (Nat.blt (lastE l 0 l.length + 2) l.length) (cond (isSt (l.getD (lastE l 0 l.length) default).1) (isSt (l.getD (l.length - 1) default).1 && !Nat.testBit (l.getD (l.length - 1) default).2 (lastE l 0 l.length)) false) false
def permTwo (l : List (AOpr × Nat)) : List Nat :=
  (List.range l.length).filter (fun k => !Nat.beq k (lastE l 0 l.length) && !Nat.beq k (l.length - 1)) ++ [lastE l 0 l.length, l.length - 1]
def wantP (l : List (AOpr × Nat)) : Bool := cond (lateAl l 0 []) true (twoE l)
def permP (l : List (AOpr × Nat)) : List Nat := cond (lateAl l 0 []) (permEff l.length l 0 []) (permTwo l)
def permD (l : List (AOpr × Nat)) : List (AOpr × Nat) :=
  cond (wantP l) (cond (permChk l (permP l)) (permL l (permP l)) l) l

/-- every edge leads to an operation ahead -/
def edgesFrom (i : Nat) : List Oper → Bool
  | [] => true
  | o :: r => o.after.all (fun e => !Region.binds .any e || Nat.blt e.on i) && edgesFrom (i + 1) r
def edgesOk (ops : Array Oper) : Bool := edgesFrom 0 ops.toList

def cCode (P : Program) (nt : Nat) : Code → Option ACode
  | .skip => some .skip
  | .label _ => some .skip
  | .region _ ops draw =>
    match cOprs P nt ops ops.toList with
    | some l => if draw then (if P.follows .mixedOrders && edgesOk ops then some (.draw (permD (l.zip (Region.before ops).toList))) else none) else some (.reg l)
    | none => none
  | .seq a b => match cCode P nt a, cCode P nt b with
    | some x, some y => some (.seq x y)
    | _, _ => none
  | .cond c a b => match cOpd c, cCode P nt a, cCode P nt b with
    | some c', some x, some y => some (.cond c' x y)
    | _, _, _ => none
  | .block id a => match cCode P nt a with
    | some x => some (.block id x)
    | none => none
  | .loop a => match cCode P nt a with
    | some x => some (.loop x)
    | none => none
  | .exit id => some (.exit id)
  | .ret => some .ret
  | .rangeFunc g ps a b => match cOpd g, cCode P nt a, cCode P nt b with
    | some g', some x, some y => if ps.toList.all (fun p => Nat.blt p nt) then some (.rng g' ps.toList x y) else none
    | _, _, _ => none
  | _ => some .stuck

/-! ## functions -/
inductive ARes where
  | tmp (t : Nat)
  | cell (t : Nat) (n : Option Nat)

structure AFn where
  nt : Nat
  res : List ARes
  body : ACode

def cRes (P : Program) : List ResultVar → Option (List ARes)
  | [] => some []
  | .tmp t :: r => match cRes P r with
    | some l => some (.tmp t :: l)
    | none => none
  | .cell t ty :: r => match aggOf P ty, cRes P r with
    | some n, some l => some (.cell t n :: l)
    | _, _ => none
def cFn (P : Program) (fn : Func) : Option AFn :=
  match fn.body with
  | some c => match cCode P fn.ntmps c, cRes P fn.results.toList with
    | some b, some r => some ⟨fn.ntmps, r, b⟩
    | _, _ => none
  | none => none

def ares (T : Tm) (h : AH) : List ARes → Option (List AV)
  | [] => some []
  | .tmp t :: r => match ares T h r with
    | some l => some ((T.get t).getD .undef :: l)
    | none => none
  | .cell t n :: r =>
    match (match n with
      | none => aload1 h ((T.get t).getD .undef)
      | some n => (aloadn h n ((T.get t).getD .undef)).map .agg), ares T h r with
    | some v, some l => some (v :: l)
    | _, _ => none
def aret : List AV → AV
  | [v] => v
  | vs => .tup vs
def initT : List AV → Nat → Tm → Tm
  | [], _, T => T
  | v :: r, i, T => initT r (i + 1) (T.put i v)

end Go.Eng
end
noncomputable section
namespace Go.Eng
abbrev HF := Nat → Option AObj
def liveF (β : Bl) (G : HF) (b : Nat) : Prop := ∃ id o base, G id = some o ∧ β id = some (b, base)
abbrev LF (own : Nat → Prop) (β : Bl) (G : HF) : Nat → Prop := fun b => own b ∨ liveF β G b

structure SimF (own : Nat → Prop) (β : Bl) (G : HF) (nx : Nat) (w : World) : Prop where
  fresh : ∀ id, nx ≤ id → β id = none
  lt : ∀ id b base, β id = some (b, base) → b < w.heap.size
  ownlt : ∀ b, own b → b < w.heap.size
  obj : ∀ id o, G id = some o → ∃ b base, β id = some (b, base) ∧ ¬ own b ∧ OR w.heap (LF own β G) β b base o
  inj : ∀ id id' o o' b x y, G id = some o → G id' = some o' → β id = some (b, x) → β id' = some (b, y) → id = id'

structure TransF (β : Bl) (G : HF) (w : World) (β' : Bl) (G' : HF) (w' : World) : Prop where
  ext : ∀ id x, β id = some x → β' id = some x
  size : w.heap.size ≤ w'.heap.size
  keep : ∀ b, b < w.heap.size → ¬ liveF β G b → w'.heap[b]? = w.heap[b]?
  live : ∀ b, liveF β' G' b → liveF β G b ∨ w.heap.size ≤ b
  shape : ∀ (b : Nat) (cur : Array Value) (e : TypeId) (fz : Nat × Nat), w.heap[b]? = some (.cells cur e fz) → ∃ cur' fz', w'.heap[b]? = some (.cells cur' e fz') ∧ cur'.size = cur.size ∧ (liveF β' G' b → fz' = fz)
  os : w'.os = w.os
  tape : w'.tape = w.tape
  output : w'.output = w.output

theorem TransF.refl (β : Bl) (G : HF) (w : World) : TransF β G w β G w :=
  ⟨fun _ _ h => h, Nat.le_refl _, fun _ _ _ => rfl, fun _ h => .inl h, fun _ cur _ fz h => ⟨cur, fz, h, rfl, fun _ => rfl⟩, rfl, rfl, rfl⟩
theorem TransF.trans {β₁ β₂ β₃ : Bl} {h₁ h₂ h₃ : HF} {w₁ w₂ w₃ : World} (h : TransF β₁ h₁ w₁ β₂ h₂ w₂) (k : TransF β₂ h₂ w₂ β₃ h₃ w₃) : TransF β₁ h₁ w₁ β₃ h₃ w₃ := by
  refine ⟨fun id x hx => k.ext _ _ (h.ext _ _ hx), Nat.le_trans h.size k.size, fun b hb hn => ?_, fun b hb => ?_, fun b cur e fz hc => ?_, k.os.trans h.os, k.tape.trans h.tape, k.output.trans h.output⟩
  · rw [k.keep b (Nat.lt_of_lt_of_le hb h.size) (fun hl => ?_)]
    · exact h.keep b hb hn
    · rcases h.live b hl with h1 | h1
      · exact hn h1
      · omega
  · rcases k.live b hb with h1 | h1
    · exact h.live b h1
    · exact .inr (Nat.le_trans h.size h1)
  · obtain ⟨c1, f1, h1, h2, h5⟩ := h.shape _ _ _ _ hc
    obtain ⟨c2, f2, h3, h4, h6⟩ := k.shape _ _ _ _ h1
    refine ⟨c2, f2, h3, h4.trans h2, fun hl => (h6 hl).trans (h5 ((k.live b hl).elim id fun hle => ?_))⟩
    have := lt_of_get h1
    omega
theorem TransF.later {own : Nat → Prop} {β β' : Bl} {G G' : HF} {w w' : World} (ht : TransF β G w β' G' w') : Later w.heap (LF own β G) β w'.heap (LF own β' G') β' :=
  ⟨ht.ext, fun b hb hn => ⟨fun hl => hl.elim (fun h1 => hn (.inl h1)) (fun h1 => (ht.live b h1).elim (fun h2 => hn (.inr h2)) (fun h2 => by omega)), ht.keep b hb (fun hl => hn (.inr hl))⟩, fun b cur e fz hc => let ⟨c, f, h1, h2, _⟩ := ht.shape b cur e fz hc; ⟨c, f, h1, h2⟩⟩

/-- blocks of objects that are no part of V -/
def restOwn (own : Nat → Prop) (β : Bl) (G : HF) (V : Hp) : Nat → Prop := fun b => own b ∨ ∃ id o base, G id = some o ∧ V.get id = none ∧ β id = some (b, base)

section
variable {own : Nat → Prop} {β : Bl} {G : HF} {nx : Nat} {w w' : World} {V V' : Hp}
theorem restOwn_iff (hV : ∀ id o, V.get id = some o → G id = some o) (b : Nat) : LL (restOwn own β G V) β V b ↔ LF own β G b := by
  constructor
  · rintro ((h | ⟨id, o, base, h1, _, h3⟩) | ⟨id, o, base, h1, h2⟩)
    · exact .inl h
    · exact .inr ⟨id, o, base, h1, h3⟩
    · exact .inr ⟨id, o, base, hV id o h1, h2⟩
  · rintro (h | ⟨id, o, base, h1, h2⟩)
    · exact .inl (.inl h)
    · cases hv : V.get id with
      | none => exact .inl (.inr ⟨id, o, base, h1, hv, h2⟩)
      | some o' => exact .inr ⟨id, o', base, hv, h2⟩
theorem restOwn_eq (hV : ∀ id o, V.get id = some o → G id = some o) : LL (restOwn own β G V) β V = LF own β G := funext fun b => propext (restOwn_iff hV b)

/-- A part of the objects by itself; all others count as another's. -/
theorem SimF.split (hs : SimF own β G nx w) (hV : ∀ id o, V.get id = some o → G id = some o) : SimH (restOwn own β G V) β V nx w := by
  refine ⟨hs.fresh, hs.lt, ?_, fun id o hg => ?_, fun id id' o o' b x y h1 h2 => hs.inj id id' o o' b x y (hV _ _ h1) (hV _ _ h2)⟩
  · rintro b (h | ⟨id, o, base, h1, _, h3⟩)
    · exact hs.ownlt b h
    · exact hs.lt id b base h3
  · obtain ⟨b, base, h1, h2, h3⟩ := hs.obj id o (hV id o hg)
    refine ⟨b, base, h1, ?_, ?_⟩
    · rintro (h | ⟨id', o', base', k1, k2, k3⟩)
      · exact h2 h
      · have := hs.inj id id' o o' b base base' (hV id o hg) k1 h1 k3
        subst this
        rw [hg] at k2; cases k2
    · have := restOwn_eq (own := own) (β := β) hV
      rw [show (fun b => restOwn own β G V b ∨ live β V b) = LF own β G from this]
      exact h3

/-- the objects after a step of a part of them -/
def glue (G : HF) (V V' : Hp) : HF := fun x => match V'.get x with
  | some o => some o
  | none => match V.get x with
    | none => G x
    | some _ => none

theorem SimF.glue {β' : Bl} {nx' : Nat} {n n' : Nat} (hs : SimF own β G nx w) (hV : ∀ id o, V.get id = some o → G id = some o) (h' : SimH (restOwn own β G V) β' V' nx' w') (ht : Trans (restOwn own β G V) β ⟨V, n⟩ w β' ⟨V', n'⟩ w') :
    SimF own β' (Eng.glue G V V') nx' w' ∧ TransF β G w β' (Eng.glue G V V') w' ∧ LL (restOwn own β G V) β' V' = LF own β' (Eng.glue G V V') ∧ (∀ id o o', G id = some o → V.get id = none → V'.get id = some o' → False) := by
  have hdis : ∀ id o o', G id = some o → V.get id = none → V'.get id = some o' → False := by
    intro id o o' hg hv hv'
    obtain ⟨b, base, hb, _⟩ := hs.obj id o hg
    obtain ⟨b', base', hb', hno, _⟩ := h'.obj id o' hv'
    rw [ht.ext _ _ hb] at hb'
    cases hb'
    exact hno (.inr ⟨id, o, base, hg, hv, hb⟩)
  have hcases : ∀ id o, Eng.glue G V V' id = some o → V'.get id = some o ∨ (V'.get id = none ∧ V.get id = none ∧ G id = some o) := by
    intro id o hg
    unfold Eng.glue at hg
    split at hg
    · rename_i o' ho; cases hg; exact .inl ho
    · rename_i ho
      split at hg
      · rename_i hv; exact .inr ⟨ho, hv, hg⟩
      · cases hg
  have hLeq : LL (restOwn own β G V) β' V' = LF own β' (Eng.glue G V V') := by
    funext b
    apply propext
    constructor
    · rintro ((h | ⟨id, o, base, h1, h2, h3⟩) | ⟨id, o, base, h1, h2⟩)
      · exact .inl h
      · refine .inr ⟨id, o, base, ?_, ht.ext _ _ h3⟩
        unfold Eng.glue
        cases hv' : V'.get id with
        | some o' => exact (hdis id o o' h1 h2 hv').elim
        | none => simp [h2, h1]
      · exact .inr ⟨id, o, base, by unfold Eng.glue; rw [h1], h2⟩
    · rintro (h | ⟨id, o, base, h1, h2⟩)
      · exact .inl (.inl h)
      · rcases hcases id o h1 with h3 | ⟨_, h4, h5⟩
        · exact .inr ⟨id, o, base, h3, h2⟩
        · obtain ⟨b', base', hb', _⟩ := hs.obj id o h5
          have := ht.ext _ _ hb'
          rw [h2] at this
          cases this
          exact .inl (.inr ⟨id, o, base, h5, h4, hb'⟩)
  have hkeepX : ∀ id o b base, G id = some o → V.get id = none → β id = some (b, base) → w'.heap[b]? = w.heap[b]? := by
    intro id o b base hg hv hb
    refine ht.keep b (hs.lt id b base hb) ?_
    rintro ⟨id', o', base', h1, h2⟩
    have := hs.inj id id' o o' b base base' hg (hV _ _ h1) hb h2
    subst this
    rw [hv] at h1; cases h1
  have htF : TransF β G w β' (Eng.glue G V V') w' := by
    refine ⟨ht.ext, ht.size, fun b hb hn => ht.keep b hb (fun ⟨id, o, base, h1, h2⟩ => hn ⟨id, o, base, hV _ _ h1, h2⟩), ?_, fun b cur e fz hc => ?_, ht.os, ht.tape, ht.output⟩
    rintro b ⟨id, o, base, h1, h2⟩
    rcases hcases id o h1 with h3 | ⟨_, h4, h5⟩
    · rcases ht.live b ⟨id, o, base, h3, h2⟩ with ⟨id', o', base', k1, k2⟩ | k
      · exact .inl ⟨id', o', base', hV _ _ k1, k2⟩
      · exact .inr k
    · obtain ⟨b', base', hb', _⟩ := hs.obj id o h5
      have := ht.ext _ _ hb'
      rw [h2] at this
      cases this
      exact .inl ⟨id, o, base, h5, hb'⟩
    obtain ⟨c, f, h1, h2, h3⟩ := ht.shape b cur e fz hc
    refine ⟨c, f, h1, h2, fun ⟨id, o, base, k1, k2⟩ => ?_⟩
    rcases hcases id o k1 with h4 | ⟨_, h4, h5⟩
    · exact h3 ⟨id, o, base, h4, k2⟩
    · obtain ⟨b', base', hb', _⟩ := hs.obj id o h5
      have := ht.ext _ _ hb'
      rw [k2] at this
      cases this
      have he := hkeepX id o _ _ h5 h4 hb'
      rw [hc] at he
      rw [he] at h1
      cases h1; rfl
  refine ⟨⟨h'.fresh, h'.lt, fun b hb => Nat.lt_of_lt_of_le (hs.ownlt b hb) ht.size, fun id o hg => ?_, fun id id' o o' b x y hg hg' hb hb' => ?_⟩, htF, hLeq, hdis⟩
  · rcases hcases id o hg with h3 | ⟨_, h4, h5⟩
    · obtain ⟨b, base, hb, hno, hor⟩ := h'.obj id o h3
      refine ⟨b, base, hb, fun hown => hno (.inl hown), ?_⟩
      rw [show (fun b => restOwn own β G V b ∨ live β' V' b) = LF own β' (Eng.glue G V V') from hLeq] at hor
      exact hor
    · obtain ⟨b, base, hb, hno, hor⟩ := hs.obj id o h5
      exact ⟨b, base, ht.ext _ _ hb, hno, hor.later htF.later (hkeepX id o b base h5 h4 hb)⟩
  · have X : ∀ id1 id2 o1 o2 x1 x2, V'.get id1 = some o1 → V.get id2 = none → G id2 = some o2 → β' id1 = some (b, x1) → β' id2 = some (b, x2) → False := by
      intro id1 id2 o1 o2 x1 x2 k1 k2 k3 k4 k5
      obtain ⟨b1, base1, hb1, hno, _⟩ := h'.obj id1 o1 k1
      rw [k4] at hb1; cases hb1
      obtain ⟨b2, base2, hb2, _⟩ := hs.obj id2 o2 k3
      have := ht.ext _ _ hb2
      rw [k5] at this; cases this
      exact hno (.inr ⟨id2, o2, x2, k3, k2, hb2⟩)
    rcases hcases id o hg with h3 | ⟨_, h4, h5⟩
    · rcases hcases id' o' hg' with k3 | ⟨_, k4, k5⟩
      · exact h'.inj id id' o o' b x y h3 k3 hb hb'
      · exact (X id id' o o' x y h3 k4 k5 hb hb').elim
    · rcases hcases id' o' hg' with k3 | ⟨_, k4, k5⟩
      · exact (X id' id o' o y x k3 h4 h5 hb' hb).elim
      · obtain ⟨b1, base1, hb1, _⟩ := hs.obj id o h5
        obtain ⟨b2, base2, hb2, _⟩ := hs.obj id' o' k5
        have e1 := ht.ext _ _ hb1
        have e2 := ht.ext _ _ hb2
        rw [hb] at e1; rw [hb'] at e2
        cases e1; cases e2
        exact hs.inj id id' o o' b x y h5 k5 hb1 hb2
end
/-! ### what an operation looks at -/
theorem memN_iff {t : Nat} : ∀ {l : List Nat}, memN t l = true ↔ t ∈ l
  | [] => by simp [memN]
  | x :: r => by simp [memN, memN_iff (l := r)]

section
variable {T T' : Tm}
theorem ev_congr {x : Opd} (h : ∀ t ∈ x.use, T'.get t = T.get t) : x.ev T' = x.ev T := by
  cases x with
  | tmp t => simp only [Opd.ev]; rw [h t (by simp [Opd.use])]
  | const v => rfl
theorem evO_congr {x : Option Opd} (h : ∀ t ∈ usesO x, T'.get t = T.get t) : x.map (·.ev T') = x.map (·.ev T) := by
  cases x with
  | none => rfl
  | some x => simp only [Option.map_some]; rw [ev_congr h]
theorem evL_congr : ∀ {xs : List Opd}, (∀ t ∈ usesL xs, T'.get t = T.get t) → xs.map (·.ev T') = xs.map (·.ev T)
  | [], _ => rfl
  | x :: xs, h => by
    simp only [List.map_cons]
    rw [ev_congr (fun t ht => h t (by simp [usesL, ht])), evL_congr (fun t ht => h t (by simp [usesL, ht]))]
theorem afillT_congr : ∀ {ps : List (Nat × Nat × Opd)} {cs : List AV}, (∀ t ∈ usesP ps, T'.get t = T.get t) → afillT T' cs ps = afillT T cs ps
  | [], _, _ => rfl
  | (o, s, x) :: ps, cs, h => by
    unfold afillT
    rw [ev_congr (x := x) (fun t ht => h t (by simp [usesP, ht]))]
    split
    · simp only
      split
      · split
        · exact afillT_congr (fun t ht => h t (by simp [usesP, ht]))
        · rfl
      · rfl
    · rfl
theorem aop_congr {cl : Handler} {h : AH} {ao : AOp} (hT : ∀ t ∈ ao.uses, T'.get t = T.get t) : aop cl T' h ao = aop cl T h ao := by
  cases ao <;> simp only [AOp.uses] at hT <;> simp only [aop, kMov, kPick, kNew, kBox, kBuild, kBuildSl, kLd1, kLdn, kSt, kNilchk, kArith, kEqs, kEqn, kEqf, kUn, kConvI, kFld, kFldA, kIdxA, kIdxArrA, kIdx, kIdxS, kSl, kSlS, kLen, kLenS, kConvS, kLenc, kApp, kCopy, kMnmx, kExt, kMkf, kMksl, kCall, ← afillT_eq]
  all_goals first
    | (rw [ev_congr (fun t ht => hT t ht)]; done)
    | (rw [ev_congr (fun t ht => hT t (by simp [ht])), ev_congr (fun t ht => hT t (by simp [ht]))]; done)
    | (rw [ev_congr (fun t ht => hT t (by simp [ht])), ev_congr (fun t ht => hT t (by simp [ht])), ev_congr (fun t ht => hT t (by simp [ht]))]; done)
    | (rw [afillT_congr (fun t ht => hT t ht)]; done)
    | (rw [evL_congr (fun t ht => hT t ht)]; done)
    | (rw [evL_congr (fun t ht => hT t (by simp [ht])), evL_congr (fun t ht => hT t (by simp [ht]))]; done)
    | (rw [ev_congr (fun t ht => hT t (by simp [ht])), evL_congr (fun t ht => hT t (by simp [ht]))]; done)
    | (rw [ev_congr (fun t ht => hT t (by simp [ht])), evO_congr (fun t ht => hT t (by simp [ht])), evO_congr (fun t ht => hT t (by simp [ht])), evO_congr (fun t ht => hT t (by simp [ht]))]; done)
    | (rw [ev_congr (fun t ht => hT t (by simp [ht])), evO_congr (fun t ht => hT t (by simp [ht])), evO_congr (fun t ht => hT t (by simp [ht]))]; done)
    | skip
theorem aalloc_congr {ao : AOp} (hT : ∀ t ∈ ao.uses, T'.get t = T.get t) : aalloc T' ao = aalloc T ao := by
  cases ao <;> simp only [AOp.uses] at hT <;> simp only [aalloc]
  all_goals first
    | (rw [ev_congr (fun t ht => hT t ht)]; done)
    | (rw [ev_congr (fun t ht => hT t (by simp [ht])), ev_congr (fun t ht => hT t (by simp [ht]))]; done)
    | (rw [afillT_congr (fun t ht => hT t ht)]; done)
    | (rw [evL_congr (fun t ht => hT t ht)]; done)
    | skip
end
end Go.Eng
end
