/- strings.Builder's WriteString and String as contracts over objects that know their types. strings.Builder's String, with the exact world. Tables of calls that were found. Contracts of the library's functions that leave the world as it was, as handlers; the builder's handlers. Contracts of IndexByte, Count, Atoi and Join at this program. Handlers of the library's functions. -/
import Derived.Test.YtndpneieplopaaaGreatDoorEngRS
set_option linter.unusedSimpArgs false
set_option linter.unusedVariables false
set_option linter.unnecessarySimpa false
noncomputable section
namespace Go.Eng
def bytA (s : List UInt8) : List AV := s.map fun c => .int .u8 c.toNat
theorem strCells_at (s : List UInt8) : Lib.strCells ⟨s.toArray⟩ = s.map fun c => Value.int .u8 c.toNat := by simp [Lib.strCells]
def killO (h : AH) : Option Nat → AH
  | none => h
  | some g => h.kill g
theorem get_killO (h : AH) (og : Option Nat) (i : Nat) : (killO h og).H.get i = if og = some i then none else h.H.get i := by
  cases og with
  | none => simp [killO]
  | some g =>
    show (h.kill g).H.get i = _
    rw [get_kill]
    by_cases hi : i = g
    · subst hi; simp
    · rw [if_neg hi, if_neg (by simpa using fun e => hi e.symm)]
def writeH (h : AH) (id : Nat) (og : Option Nat) (tB tE : TypeId) (cs : List AV) (s : List UInt8) : AH :=
  ⟨((killO h og).H.put id (.typ (2 * tB + 1) [.ptr id 0, .rsl h.nx 0 (cs.length + s.length) 1])).put h.nx (.typ (2 * tE) (cs ++ bytA s)), h.nx + 1⟩
theorem get_writeH (h : AH) (id : Nat) (og : Option Nat) (tB tE : TypeId) (cs : List AV) (s : List UInt8) (i : Nat) : (writeH h id og tB tE cs s).H.get i = if i = h.nx then some (.typ (2 * tE) (cs ++ bytA s)) else if i = id then some (.typ (2 * tB + 1) [.ptr id 0, .rsl h.nx 0 (cs.length + s.length) 1]) else if og = some i then none else h.H.get i := by
  unfold writeH
  simp only [PM.get_put]
  rw [get_killO]
theorem even_half (t : Nat) : 2 * t / 2 = t := by omega
/-- the row of a builder: none yet, or a typed object of plain cells -/
def BufAt (h : AH) (id : Nat) (tE : TypeId) (bv : AV) (cs : List AV) (og : Option Nat) : Prop :=
  (bv = .nilsl ∧ cs = [] ∧ og = none) ∨ ∃ g, og = some g ∧ g ≠ id ∧ cs ≠ [] ∧ bv = .rsl g 0 cs.length 1 ∧ h.H.get g = some (.typ (2 * tE) cs)
theorem BufAt.row {own : Nat → Prop} {β : Bl} {h : AH} {w : World} (hs : SimH own β h.H h.nx w) {id b : Nat} {tE : TypeId} {bv : AV} {cs : List AV} {og : Option Nat} (hb : BufAt h id tE bv cs og) (hid : ∃ o, h.H.get id = some o) (hβ : β id = some (b, 0)) {vv : Value} (hv : VR w.heap (LL own β h.H) β bv vv) :
    ∃ bs : List Value, RowAt tE vv bs w ∧ bs.length = cs.length ∧ (∀ (i : Nat) (c : AV) (u : Value), cs[i]? = some c → bs[i]? = some u → VR w.heap (LL own β h.H) β c u) ∧ vv.ownBlock ≠ some b ∧
      ((og = none ∧ vv.ownBlock = none ∧ vv = .slice none 0 0) ∨ ∃ g gb, og = some g ∧ β g = some (gb, 0) ∧ vv.ownBlock = some gb ∧ ¬ own gb) := by
  rcases hb with ⟨rfl, rfl, rfl⟩ | ⟨g, rfl, hne, hc0, rfl, hg⟩
  · cases hv
    exact ⟨[], .inl ⟨rfl, rfl⟩, rfl, fun i c u h1 => by simp at h1, by simp [Value.ownBlock], .inl ⟨rfl, rfl, rfl⟩⟩
  · obtain ⟨gb, base, hgb, hno, hor⟩ := hs.obj g _ hg
    obtain ⟨rfl, cur, q1, q2, q3⟩ := hor
    rw [even_half] at q1
    have hl0 : cs.length ≠ 0 := fun e => hc0 (List.eq_nil_of_length_eq_zero e)
    generalize hn : cs.length = n at hv
    cases hv with
    | rsl0 => exact absurd hn hl0
    | rsl _ _ _ _ b2 base2 cap cur2 e2 fz2 g1 g2 g3 g4 g5 =>
      rw [hgb] at g1; cases g1
      rw [q1] at g2; cases g2
      have hq := q2.1
      have hlt : (cur.toList.take n).length = n := by rw [List.length_take, Array.length_toList]; omega
      refine ⟨cur.toList.take n, .inr ⟨gb, cap, cur, by rw [hlt], q1, by rw [hlt]; exact g3, g4, by simpa using g5, by rw [hlt]⟩, by rw [hlt], fun i c u h1 h2 => ?_, ?_, .inr ⟨g, gb, rfl, hgb, rfl, hno⟩⟩
      · have hi : i < n := by rw [← hn]; exact (List.getElem?_eq_some_iff.1 h1).1
        rw [List.getElem?_take, if_pos hi] at h2
        exact q3 i c u h1 (by simpa using h2)
      · intro e
        have : gb = b := by simpa [Value.ownBlock] using e
        subst this
        obtain ⟨o, ho⟩ := hid
        exact hne (hs.inj g id _ o gb 0 0 hg ho hgb hβ)
theorem two_args {cargs : Array Value} {hp : Array Obj} {L : Nat → Prop} {β : Bl} {a b : AV} (hR : RL hp L β [a, b] cargs.toList) : ∃ u v, cargs = #[u, v] ∧ VR hp L β a u ∧ VR hp L β b v := by
  have hl := hR.1
  obtain ⟨l⟩ := cargs
  match l, hl with
  | [u, v], _ => exact ⟨u, v, rfl, hR.2 0 a u rfl rfl, hR.2 1 b v rfl rfl⟩
theorem VR.plain {hp hp' : Array Obj} {L L' : Nat → Prop} {β β' : Bl} {a : AV} {v : Value} (h1 : plainAV a = true) (h : VR hp L β a v) : VR hp' L' β' a v := plain_any h1 h
theorem write_d {P : Program} {f : Nat} {tB tE : TypeId} (hw : WriteOk P f tB tE) (hf : Fex P f) {h : AH} {id : Nat} {p bv : AV} {cs : List AV} {s : List UInt8} {og : Option Nat}
    (hg : h.H.get id = some (.typ (2 * tB + 1) [p, bv])) (hp : p = .nilptr ∨ p = .ptr id 0) (hb : BufAt h id tE bv cs og) (hpl : cs.all plainAV = true) (hs0 : s ≠ []) (hlen : cs.length + s.length ≤ 140737488355328) :
    CallD P f [.ptr id 0, .str s] h (.tup [.int .i64 s.length, .nilif]) (writeH h id og tB tE cs s) := by
  refine ⟨hf, fun own β w cargs hs hR => ?_⟩
  obtain ⟨c0, c1, rfl, v0, v1⟩ := two_args hR
  cases v0 with
  | ptr _ _ b base hβ =>
  cases v1 with
  | str _ =>
  obtain ⟨b', base', hβ', hno, hor⟩ := hs.obj id _ hg
  rw [hβ] at hβ'; cases hβ'
  obtain ⟨rfl, cur, q1, q2, q3⟩ := hor
  rw [half_odd] at q1
  have hsz : cur.size = 2 := q2.2 (by omega)
  obtain ⟨pv, vv, rfl⟩ : ∃ pv vv, cur = #[pv, vv] := by
    obtain ⟨l⟩ := cur
    match l, hsz with
    | [x, y], _ => exact ⟨x, y, rfl⟩
  have r0 := q3 0 p pv rfl rfl
  have r1 := q3 1 bv vv rfl rfl
  have hp' : pv = .pointer none ∨ pv = .pointer (some ⟨b, 0, none⟩) := by
    rcases hp with rfl | rfl
    · cases r0; exact .inl rfl
    · cases r0 with
      | ptr _ _ b2 base2 h2 => rw [hβ] at h2; cases h2; exact .inr rfl
  obtain ⟨bs, hrow, hbl, hbs, hne, hog⟩ := hb.row hs ⟨_, hg⟩ hβ r1
  have hwr := hw b pv vv bs ⟨s.toArray⟩ w q1 hp' ⟨hrow, hne⟩ (by simpa [ByteArray.size, hbl] using hlen)
  refine hwr.mono ?_
  rintro e w' ⟨rfl, v', k1, ⟨kr, kn⟩, knil, kob, kos, ktape, kout, ksz, kkeep, kshape⟩
  have hs1 : 0 < s.length := List.length_pos_iff.2 hs0
  have hsize : (⟨s.toArray⟩ : ByteArray).size = s.length := by simp [ByteArray.size]
  rw [strCells_at] at kr
  rcases kr with ⟨rfl, he⟩ | ⟨g', cap, cur', rfl, m1, m2, m3, m4, m5⟩
  · simp at he; exact absurd he.2 hs0
  have hlb : (bs ++ s.map fun c => Value.int .u8 c.toNat).length = cs.length + s.length := by simp [hbl]
  rw [hlb] at m2 m5
  have hg'b : g' ≠ b := fun e => kn (by rw [e]; rfl)
  -- where the new row stands
  have hg' : (∃ g, og = some g ∧ β g = some (g', 0) ∧ ¬ own g') ∨ w.heap.size ≤ g' := by
    rcases kob with h1 | ⟨x, h1, h2⟩
    · rcases hog with ⟨_, h3, _⟩ | ⟨g, gb, h3, h4, h5, h6⟩
      · rw [h3] at h1; simp [Value.ownBlock] at h1
      · rw [h5] at h1
        have : g' = gb := by simpa [Value.ownBlock] using h1
        subst this
        exact .inl ⟨g, h3, h4, h6⟩
    · have : g' = x := by simpa [Value.ownBlock] using h1
      subst this
      exact .inr h2
  have hg'o : ¬ own g' := by
    rcases hg' with ⟨_, _, _, h6⟩ | h6
    · exact h6
    · intro ho; have := hs.ownlt _ ho; omega
  have hidlt : id < h.nx := by
    rcases Nat.lt_or_ge id h.nx with k | k
    · exact k
    · rw [hs.fresh id k] at hβ; cases hβ
  have hb' : ∀ i, i ≠ h.nx → upd β h.nx g' 0 i = β i := fun i hi => upd_ne _ _ _ hi
  have hext : ∀ i x, β i = some x → upd β h.nx g' 0 i = some x := fun i x hx => by
    rw [hb' i fun e => by rw [e, hs.fresh _ (Nat.le_refl _)] at hx; cases hx]; exact hx
  have hget := get_writeH h id og tB tE cs s
  have hlive : ∀ x, live (upd β h.nx g' 0) (writeH h id og tB tE cs s).H x → live β h.H x ∨ w.heap.size ≤ x := by
    rintro x ⟨i, o, ba, h1, h2⟩
    rw [hget] at h1
    by_cases hi : i = h.nx
    · subst hi
      rw [upd_same] at h2; cases h2
      rcases hg' with ⟨g, h3, h4, _⟩ | h3
      · rcases hb with ⟨_, _, h5⟩ | ⟨g2, h5, _, _, _, h6⟩
        · rw [h5] at h3; cases h3
        · rw [h5] at h3; cases h3
          exact .inl ⟨_, _, 0, h6, h4⟩
      · exact .inr h3
    · rw [hb' i hi] at h2
      rw [if_neg hi] at h1
      by_cases hii : i = id
      · subst hii; exact .inl ⟨_, _, ba, hg, h2⟩
      · rw [if_neg hii] at h1
        split at h1
        · cases h1
        · exact .inl ⟨i, o, ba, h1, h2⟩
  have hkeep : ∀ x, x < w.heap.size → ¬ live β h.H x → w'.heap[x]? = w.heap[x]? := by
    intro x hx hl
    refine kkeep x hx (fun e => hl ⟨id, _, 0, hg, e ▸ hβ⟩) fun e => hl ?_
    rcases hog with ⟨_, h3, _⟩ | ⟨g, gb, h3, h4, h5, h6⟩
    · rw [h3] at e; cases e
    · rw [h5] at e; cases e
      rcases hb with ⟨_, _, k5⟩ | ⟨g2, k5, _, _, _, k6⟩
      · rw [k5] at h3; cases h3
      · rw [k5] at h3; cases h3
        exact ⟨_, _, 0, k6, h4⟩
  have hT : Trans own β h w (upd β h.nx g' 0) (writeH h id og tB tE cs s) w' := by
    refine ⟨hext, fun i hi => hb' i (by omega), by simp [writeH], ksz, hkeep, hlive, fun x cur e fz hx => ?_, kos, ktape, kout⟩
    obtain ⟨c, h1, h2⟩ := kshape x cur e fz hx
    exact ⟨c, fz, h1, h2, fun _ => rfl⟩
  refine ⟨_, _, _, upd β h.nx g' 0, rfl, ⟨rfl, rfl⟩, ?_, ?_, hT⟩
  · refine ⟨fun i hi => ?_, fun i x ba hi => ?_, fun x hx => Nat.lt_of_lt_of_le (hs.ownlt x hx) ksz, fun i o hi => ?_, fun i j o o' x y z h1 h2 h3 h4 => ?_⟩
    · have : h.nx + 1 ≤ i := hi
      rw [hb' i (by omega)]; exact hs.fresh i (by omega)
    · by_cases hin : i = h.nx
      · subst hin; rw [upd_same] at hi; cases hi; exact lt_of_get m1
      · rw [hb' i hin] at hi; exact Nat.lt_of_lt_of_le (hs.lt i x ba hi) ksz
    · rw [hget] at hi
      by_cases hin : i = h.nx
      · subst hin
        rw [if_pos rfl] at hi; cases hi
        refine ⟨g', 0, upd_same _ _ _ _, hg'o, rfl, cur', by rw [even_half]; exact m1, ⟨by simp [bytA]; omega, fun hh => by omega⟩, fun j c u h1 h2 => ?_⟩
        have hj : j < cs.length + s.length := by
          have := (List.getElem?_eq_some_iff.1 h1).1
          simpa [bytA] using this
        have h3 : (bs ++ s.map fun c => Value.int .u8 c.toNat)[j]? = some u := by
          rw [← m5, List.getElem?_take, if_pos hj]; simpa using h2
        by_cases hjc : j < cs.length
        · rw [List.getElem?_append_left hjc] at h1
          rw [List.getElem?_append_left (by omega)] at h3
          exact (hbs j c u h1 h3).plain (List.all_eq_true.1 hpl c (List.mem_of_getElem? h1))
        · rw [List.getElem?_append_right (by omega)] at h1
          rw [List.getElem?_append_right (by omega), hbl] at h3
          unfold bytA at h1
          rw [List.getElem?_map, Option.map_eq_some_iff] at h1 h3
          obtain ⟨x, hx, rfl⟩ := h1
          obtain ⟨y, hy, rfl⟩ := h3
          rw [hx] at hy; cases hy
          exact .int _ _
      · rw [if_neg hin] at hi
        by_cases hii : i = id
        · subst hii
          rw [if_pos rfl] at hi; cases hi
          refine ⟨b, 0, hext _ _ hβ, hno, rfl, _, by rw [half_odd]; exact k1, ⟨by simp, fun _ => by simp⟩, fun j c u h1 h2 => ?_⟩
          match j with
          | 0 => simp at h1 h2; subst h1; subst h2; exact .ptr _ 0 b 0 (hext _ _ hβ)
          | 1 =>
            simp at h1 h2; subst h1; subst h2
            rw [hbl]
            exact .rsl h.nx 0 (cs.length + s.length) 1 g' 0 cap cur' tE (0, 0) (upd_same _ _ _ _) m1 m2 m3 (by omega)
          | j + 2 => simp at h1
        · rw [if_neg hii] at hi
          split at hi
          · cases hi
          rename_i hnog
          obtain ⟨x, ba, p1, p2, p3⟩ := hs.obj i o hi
          refine ⟨x, ba, hext _ _ p1, p2, p3.later hT.later (kkeep x (hs.lt i x ba p1) (fun e => ?_) fun e => ?_)⟩
          · subst e; exact hii (hs.inj i id o _ x ba 0 hi hg p1 hβ)
          · rcases hog with ⟨_, h3, _⟩ | ⟨g, gb, h3, h4, h5, h6⟩
            · rw [h3] at e; cases e
            · rw [h5] at e; cases e
              rcases hb with ⟨_, _, k5⟩ | ⟨g2, k5, _, _, _, k6⟩
              · rw [k5] at h3; cases h3
              · rw [k5] at h3; cases h3
                exact hnog (by rw [k5, hs.inj i _ o _ x ba 0 hi k6 p1 h4])
    · have hold : ∀ i o, (writeH h id og tB tE cs s).H.get i = some o → i ≠ h.nx → (∃ o0, h.H.get i = some o0) ∧ og ≠ some i := by
        intro i o hi hin
        rw [hget, if_neg hin] at hi
        by_cases hii : i = id
        · subst hii
          refine ⟨⟨_, hg⟩, fun e => ?_⟩
          rcases hb with ⟨_, _, k5⟩ | ⟨g2, k5, k7, _⟩
          · rw [k5] at e; cases e
          · rw [k5] at e; cases e; exact k7 rfl
        · rw [if_neg hii] at hi
          split at hi
          · cases hi
          · exact ⟨⟨o, hi⟩, by assumption⟩
      have hnew : ∀ i o ba, (writeH h id og tB tE cs s).H.get i = some o → i ≠ h.nx → β i = some (g', ba) → False := by
        intro i o ba hi hin hx
        obtain ⟨⟨o0, k1⟩, k2⟩ := hold i o hi hin
        rcases hg' with ⟨g, h3, h4, _⟩ | h3
        · rcases hb with ⟨_, _, k5⟩ | ⟨g2, k5, _, _, _, k6⟩
          · rw [k5] at h3; cases h3
          · rw [k5] at h3; cases h3
            exact k2 (by rw [k5, hs.inj i _ o0 _ g' ba 0 k1 k6 hx h4])
        · have := hs.lt i g' ba hx; omega
      by_cases hin : i = h.nx
      · by_cases hjn : j = h.nx
        · rw [hin, hjn]
        · subst hin
          rw [upd_same] at h3; cases h3
          rw [hb' j hjn] at h4
          exact (hnew j o' _ h2 hjn h4).elim
      · by_cases hjn : j = h.nx
        · subst hjn
          rw [upd_same] at h4; cases h4
          rw [hb' i hin] at h3
          exact (hnew i o _ h1 hin h3).elim
        · rw [hb' i hin] at h3
          rw [hb' j hjn] at h4
          obtain ⟨⟨o1, k1⟩, _⟩ := hold i o h1 hin
          obtain ⟨⟨o2, k2⟩, _⟩ := hold j o' h2 hjn
          exact hs.inj i j o1 o2 x y z k1 k2 h3 h4
  · rw [hsize]
    refine .tup _ _ rfl fun i c v hc hv => ?_
    match i with
    | 0 => simp at hc hv; subst hc; subst hv; exact .int _ _
    | 1 => simp at hc hv; subst hc; subst hv; exact .nilif
    | i + 2 => simp at hc
/-- what String does -/
def StringOk (P : Program) (f : Nat) (tB tE : TypeId) : Prop :=
  ∀ (b g cap : Nat) (p : Value) (cur : Array Value) (l : List UInt8) (w : World), w.heap[b]? = some (.cells #[p, .slice (some ⟨g, 0, none⟩) l.length cap] tB (0, 0)) → w.heap[g]? = some (.cells cur tE (0, 0)) →
    l ≠ [] → l.length ≤ cap → cap ≤ maxLen → cap ≤ cur.size → cur.toList.take l.length = (l.map fun c => Value.int .u8 c.toNat) →
    Calls P f #[.pointer (some ⟨b, 0, none⟩)] w fun e w' => e = .returned (.string ⟨l.toArray⟩) ∧ w' = w.drew.freeze ⟨g, 0, none⟩ l.length
theorem one_arg {cargs : Array Value} {hp : Array Obj} {L : Nat → Prop} {β : Bl} {a : AV} (hR : RL hp L β [a] cargs.toList) : ∃ u, cargs = #[u] ∧ VR hp L β a u := by
  have hl := hR.1
  obtain ⟨l⟩ := cargs
  match l, hl with
  | [u], _ => exact ⟨u, rfl, hR.2 0 a u rfl rfl⟩
theorem freeze_heap (w : World) (g n : Nat) (x : Nat) (hx : x ≠ g) : (w.drew.freeze ⟨g, 0, none⟩ n).heap[x]? = w.heap[x]? := by
  unfold World.freeze
  split
  · rfl
  · show (Array.modify _ _ _)[x]? = _
    rw [Array.getElem?_modify, if_neg (fun e => hx e.symm)]
    rfl
theorem string_d {P : Program} {f : Nat} {tB tE : TypeId} (hw : StringOk P f tB tE) (hf : Fex P f) {h : AH} {id g : Nat} {p : AV} {l : List UInt8}
    (hg : h.H.get id = some (.typ (2 * tB + 1) [p, .rsl g 0 l.length 1])) (hg2 : h.H.get g = some (.typ (2 * tE) (bytA l))) (hne : g ≠ id) (h0 : l ≠ []) :
    CallD P f [.ptr id 0] h (.str l) ((h.kill g).kill id) := by
  refine ⟨hf, fun own β w cargs hs hR => ?_⟩
  obtain ⟨c0, rfl, v0⟩ := one_arg hR
  cases v0 with
  | ptr _ _ b base hβ =>
  obtain ⟨b', base', hβ', hno, hor⟩ := hs.obj id _ hg
  rw [hβ] at hβ'; cases hβ'
  obtain ⟨rfl, cur, q1, q2, q3⟩ := hor
  rw [half_odd] at q1
  have hsz : cur.size = 2 := q2.2 (by omega)
  obtain ⟨pv, vv, rfl⟩ : ∃ pv vv, cur = #[pv, vv] := by
    obtain ⟨l⟩ := cur
    match l, hsz with
    | [x, y], _ => exact ⟨x, y, rfl⟩
  have r1 := q3 1 _ vv rfl rfl
  obtain ⟨gb, baseg, hgb, hnog, horg⟩ := hs.obj g _ hg2
  obtain ⟨rfl, curg, p1, p2, p3⟩ := horg
  rw [even_half] at p1
  have hgbb : gb ≠ b := fun e => hne (hs.inj g id _ _ gb 0 0 hg2 hg hgb (e ▸ hβ))
  have hl0 : l.length ≠ 0 := fun e => h0 (List.eq_nil_of_length_eq_zero e)
  have hlen2 : (bytA l).length = l.length := by simp [bytA]
  generalize hn : l.length = n at r1
  cases r1 with
  | rsl0 => exact absurd hn hl0
  | rsl _ _ _ _ b2 base2 cap cur2 e2 fz2 g1 g2 g3 g4 g5 =>
  rw [hgb] at g1; cases g1
  rw [p1] at g2; cases g2
  subst hn
  have hq := p2.1
  have ht : curg.toList.take l.length = l.map fun c => Value.int .u8 c.toNat := by
    apply List.ext_getElem?
    intro j
    by_cases hj : j < l.length
    · rw [List.getElem?_take, if_pos hj, List.getElem?_map, List.getElem?_eq_getElem hj]
      have hjc : j < curg.size := by omega
      have h1 : (bytA l)[j]? = some (.int .u8 (l[j]).toNat) := by simp [bytA, List.getElem?_map, List.getElem?_eq_getElem hj]
      have h2 : curg[j]? = some curg[j] := Array.getElem?_eq_getElem hjc
      have h3 := p3 j _ _ h1 h2
      have h4 : curg[j] = .int .u8 (l[j]).toNat := by
        generalize curg[j] = z at h3
        cases h3; rfl
      rw [Array.getElem?_toList, h2, h4]; rfl
    · rw [List.getElem?_eq_none (by rw [List.length_take]; omega), List.getElem?_eq_none (by simp; omega)]
  refine (hw b gb cap pv curg l w q1 p1 h0 g3 g4 (by simpa using g5) ht).mono ?_
  rintro e w' ⟨rfl, rfl⟩
  have hk := freeze_heap w gb l.length
  have hget : ∀ i, ((h.kill g).kill id).H.get i = if i = id then none else if i = g then none else h.H.get i := fun i => by rw [get_kill, get_kill]
  have hsub : ∀ i o, ((h.kill g).kill id).H.get i = some o → h.H.get i = some o ∧ i ≠ id ∧ i ≠ g := fun i o hi => by
    rw [hget] at hi
    split at hi
    · cases hi
    split at hi
    · cases hi
    exact ⟨hi, by assumption, by assumption⟩
  have hlive : ∀ x, live β ((h.kill g).kill id).H x → live β h.H x ∧ x ≠ gb := by
    rintro x ⟨i, o, ba, h1, h2⟩
    obtain ⟨h3, _, h4⟩ := hsub i o h1
    exact ⟨⟨i, o, ba, h3, h2⟩, fun e => h4 (hs.inj i g o _ x ba 0 h3 hg2 h2 (e ▸ hgb))⟩
  have hsize : (w.drew.freeze ⟨gb, 0, none⟩ l.length).heap.size = w.heap.size := by
    unfold World.freeze
    split
    · rfl
    · show (Array.modify _ _ _).size = _
      rw [Array.size_modify]; rfl
  have hT : Trans own β h w β ((h.kill g).kill id) (w.drew.freeze ⟨gb, 0, none⟩ l.length) := by
    refine ⟨fun _ _ h => h, fun _ _ => rfl, Nat.le_refl _, by omega, fun x _ hl => hk x fun e => hl ⟨g, _, 0, hg2, e ▸ hgb⟩, fun x hx => .inl (hlive x hx).1, fun x cur e fz hx => ?_, ?_, ?_, ?_⟩
    · by_cases hxg : x = gb
      · subst hxg
        rw [p1] at hx; cases hx
        refine ⟨curg, (0, 0 + l.length), ?_, rfl, fun hl => absurd rfl (hlive _ hl).2⟩
        unfold World.freeze
        rw [if_neg hl0]
        show (Array.modify _ _ _)[x]? = _
        rw [Array.getElem?_modify, if_pos rfl]
        show Option.map _ (w.heap[x]?) = _
        rw [p1]
        rfl
      · exact ⟨cur, fz, by rw [hk x hxg]; exact hx, rfl, fun _ => rfl⟩
    all_goals (unfold World.freeze; split <;> rfl)
  refine ⟨_, _, _, β, rfl, ⟨rfl, rfl⟩, ⟨hs.fresh, fun i x ba hi => by rw [hsize]; exact hs.lt i x ba hi, fun x hx => by rw [hsize]; exact hs.ownlt x hx, fun i o hi => ?_, fun i j o o' x y z h1 h2 => hs.inj i j o o' x y z (hsub i o h1).1 (hsub j o' h2).1⟩, .str l, hT⟩
  obtain ⟨h1, h2, h3⟩ := hsub i o hi
  obtain ⟨x, ba, k1, k2, k3⟩ := hs.obj i o h1
  exact ⟨x, ba, k1, k2, k3.later hT.later (hk x fun e => h3 (hs.inj i g o _ x ba 0 h1 hg2 k1 (e ▸ hgb)))⟩
end Go.Eng
end
noncomputable section
namespace Go.Proofs
open Go.RowKit
set_option maxHeartbeats 2000000 in
set_option maxRecDepth 100000 in
/-- String reads the row's bytes, and freezes them. -/
theorem stringX (b g cap : Nat) (p : Value) (cur : Array Value) (l : List UInt8) (w : World) (hb : w.heap[b]? = some (.cells #[p, .slice (some ⟨g, 0, none⟩) l.length cap] 85 (0, 0))) (hg : w.heap[g]? = some (.cells cur 5 (0, 0)))
    (h0 : l ≠ []) (hc : l.length ≤ cap) (hm : cap ≤ maxLen) (hs : cap ≤ cur.size) (ht : cur.toList.take l.length = l.map fun c => Value.int .u8 c.toNat) :
    Calls Tryz.prog 32 #[.pointer (some ⟨b, 0, none⟩)] w fun e w' => e = .returned (.string ⟨l.toArray⟩) ∧ w' = w.drew.freeze ⟨g, 0, none⟩ l.length := by
  have hl0 : l.length ≠ 0 := by simpa using h0
  have c1 : w.drew.cell? ⟨b, 1, none⟩ = some (.slice (some ⟨g, 0, none⟩) l.length cap) := by
    have : w.drew.heap[b]? = some (.cells #[p, .slice (some ⟨g, 0, none⟩) l.length cap] 85 (0, 0)) := hb
    rw [Lib.cell_of_heap this]; rfl
  have hSD : (Builtin.unsafeSliceData_ #[80] 128 #[.slice (some ⟨g, 0, none⟩) l.length cap]).run Tryz.prog w.drew = .ok (.pointer (some ⟨g, 0, none⟩)) w.drew :=
    Lib.run_unsafeSliceData_row _ _ _ _ _ _ (by omega)
  have hUS : (Builtin.unsafeString_ #[128, 3] 9 #[.pointer (some ⟨g, 0, none⟩), .int .i64 l.length]).run Tryz.prog w.drew = .ok (.string ⟨l.toArray⟩) (w.drew.freeze ⟨g, 0, none⟩ l.length) := by
    have hg' : w.drew.heap[g]? = some (.cells cur 5 (0, 0)) := hg
    refine Lib.run_unsafeString_row w.drew 128 3 9 5 Tryz.underlying128 Tryz.Builder_Extra_166.cellsByte g cur.size (by simp [World.shape?, hg']) l h0 (by omega) (by unfold maxLen at hm; omega) ?_
    intro j x hx
    have hj : j < l.length := (List.getElem?_eq_some_iff.1 hx).1
    have e1 : ((⟨g, 0, none⟩ : Addr).add j) = ⟨g, j, none⟩ := by cases j <;> simp [Addr.add]
    rw [e1]
    have hq : (cur.toList.take l.length)[j]? = some (Value.int .u8 x.toNat) := by rw [ht, List.getElem?_map, hx]; rfl
    rw [List.getElem?_take, if_pos hj] at hq
    simp only [World.cell?, hg']
    simpa using hq
  have mixed : Tryz.prog.follows .mixedOrders = true := by kernel_rfl
  have u85 := run_underlying Tryz.underlying85
  have u80 := run_underlying Tryz.underlying80
  have u128 := run_underlying Tryz.underlying128
  go_enter Tryz.func32, Tryz.ntmps32
  go_wp2
  go_region_o
  all_goals (go_wp2; go_ret; exact ⟨rfl, rfl⟩)
end Go.Proofs
end
noncomputable section
namespace Go.Eng
variable {P : Program}
def hor (a b : Handler) : Handler := fun f args h => orb (a f args h) (b f args h)
theorem hor_ok {a b : Handler} (ha : FOk P a) (hb : FOk P b) : FOk P (hor a b) := by
  intro f args h v h' hh
  unfold hor orb at hh
  split at hh
  · rename_i r hr; cases hh; exact ha _ _ _ _ _ hr
  · exact hb _ _ _ _ _ hh
end Go.Eng
end
noncomputable section
namespace Go.Eng
open Go.RowKit
theorem Quiet.below {w w' : World} (hb : Below w.heap.size w w') : Quiet w.heap.size w w' :=
  ⟨hb.size, fun b x hx _ => by rw [hb.block b (lt_of_get hx)]; exact hx, hb.block, hb.os, hb.tape, hb.output⟩
theorem CallD.lib {P : Program} {f : Nat} {args : List AV} {h : AH} {v : AV} (hf : Fex P f)
    (hc : ∀ (own : Nat → Prop) (β : Bl) (w : World) (cargs : Array Value), SimH own β h.H h.nx w → RL w.heap (LL own β h.H) β args cargs.toList → Calls P f cargs w fun e w' => ∃ cv, e = .returned cv ∧ VR w'.heap (LL own β h.H) β v cv ∧ Below w.heap.size w w') : CallD P f args h v h :=
  ⟨hf, fun own β w cargs hs hR => (hc own β w cargs hs hR).mono fun _ _ ⟨cv, he, hv, hb⟩ => ⟨cv, v, h, β, he, ⟨rfl, rfl⟩, hs.quiet (.below hb), hv, (Trans.refl own β h w).quiet (.below hb)⟩⟩
theorem VR.cap {hp : Array Obj} {L : Nat → Prop} {β : Bl} {a : AV} {x : Option Addr} {n c : Nat} (h : VR hp L β a (.slice x n c)) (hu : a ≠ .undef) : n ≤ c := by
  cases h <;> first | assumption | exact Nat.zero_le _ | exact absurd rfl hu
/-- a list of strings -/
def strsA : List (List AV) → Option (List (List UInt8))
  | [] => some []
  | [.str s] :: r => match strsA r with
    | some l => some (s :: l)
    | none => none
  | _ => none
theorem strsA_some : ∀ {xl : List (List AV)} {l : List (List UInt8)}, strsA xl = some l → xl = l.map fun s => [.str s]
  | [], l, h => by cases h; rfl
  | [.str s] :: r, l, h => by
    simp only [strsA] at h
    split at h
    · rename_i m hm; cases h; rw [strsA_some hm]; rfl
    · cases h
def okP (p : AV) (id : Nat) : Bool :=
  match p with
  | .nilptr => true
  | .ptr i o => Nat.beq i id && Nat.beq o 0
  | _ => false
theorem okP_or {p : AV} {id : Nat} (h : okP p id = true) : p = .nilptr ∨ p = .ptr id 0 := by
  unfold okP at h
  split at h
  · exact .inl rfl
  · simp only [Bool.and_eq_true] at h
    obtain ⟨h1, h2⟩ := h
    rw [Nat.eq_of_beq_eq_true h1, Nat.eq_of_beq_eq_true h2]
    exact .inr rfl
  · cases h
/-- WriteString -/
def wrH (fW tB tE : Nat) : Handler := fun f args h => cond (Nat.beq f fW) (match args with
  | [.ptr id o, .str s] => cond (Nat.beq o 0 && Nat.ble 1 s.length) (match h.H.get id with
    | some (.typ t [p, bv]) => cond (Nat.beq t (2 * tB + 1) && okP p id) (match bv with
      | .nilsl => cond (Nat.ble s.length 1000000000) (some (.tup [.int .i64 s.length, .nilif], writeH h id none tB tE [] s)) none
      | .rsl g off n z => cond (Nat.beq off 0 && Nat.beq z 1 && Nat.ble 1 n && !Nat.beq g id) (match h.H.get g with
        | some (.typ t2 cs) => cond (Nat.beq t2 (2 * tE) && Nat.beq cs.length n && cs.all plainAV && Nat.ble (n + s.length) 1000000000) (some (.tup [.int .i64 s.length, .nilif], writeH h id (some g) tB tE cs s)) none
        | _ => none) none
      | _ => none) none
    | _ => none) none
  | _ => none) none
theorem ne_of_beq {a b : Nat} (h : (!Nat.beq a b) = true) : a ≠ b := by
  intro e; subst e; simp at h
theorem wrH_ok {P : Program} {fW tB tE : Nat} (hw : WriteOk P fW tB tE) (hf : Fex P fW) : FOk P (wrH fW tB tE) := by
  intro f args h v h' ha
  unfold wrH at ha
  cases hff : Nat.beq f fW with
  | false => rw [hff] at ha; cases ha
  | true =>
  rw [hff] at ha
  obtain rfl := Nat.eq_of_beq_eq_true hff
  simp only [cond_true] at ha
  split at ha
  case h_2 => cases ha
  rename_i id o s
  cases h1 : (Nat.beq o 0 && Nat.ble 1 s.length) with
  | false => rw [h1] at ha; cases ha
  | true =>
  rw [h1] at ha
  simp only [cond_true] at ha
  simp only [Bool.and_eq_true] at h1
  obtain rfl := Nat.eq_of_beq_eq_true h1.1
  have hs0 : s ≠ [] := fun e => by have := Nat.le_of_ble_eq_true h1.2; rw [e] at this; simp at this
  split at ha
  case h_2 => cases ha
  rename_i t p bv hg
  cases h2 : (Nat.beq t (2 * tB + 1) && okP p id) with
  | false => rw [h2] at ha; cases ha
  | true =>
  rw [h2] at ha
  simp only [cond_true] at ha
  simp only [Bool.and_eq_true] at h2
  obtain rfl := Nat.eq_of_beq_eq_true h2.1
  have hp := okP_or h2.2
  split at ha
  case h_3 => cases ha
  · cases h3 : Nat.ble s.length 1000000000 with
    | false => rw [h3] at ha; cases ha
    | true =>
    rw [h3] at ha; cases ha
    have := Nat.le_of_ble_eq_true h3
    exact write_d hw hf hg hp (.inl ⟨rfl, rfl, rfl⟩) rfl hs0 (by simp; omega)
  · rename_i g off n z
    cases h3 : (Nat.beq off 0 && Nat.beq z 1 && Nat.ble 1 n && !Nat.beq g id) with
    | false => rw [h3] at ha; cases ha
    | true =>
    rw [h3] at ha
    simp only [cond_true] at ha
    simp only [Bool.and_eq_true] at h3
    obtain ⟨⟨⟨e1, e2⟩, e3⟩, e4⟩ := h3
    obtain rfl := Nat.eq_of_beq_eq_true e1
    obtain rfl := Nat.eq_of_beq_eq_true e2
    have hn := Nat.le_of_ble_eq_true e3
    have hgi := ne_of_beq e4
    split at ha
    case h_2 => cases ha
    rename_i t2 cs hg2
    cases h4 : (Nat.beq t2 (2 * tE) && Nat.beq cs.length n && cs.all plainAV && Nat.ble (n + s.length) 1000000000) with
    | false => rw [h4] at ha; cases ha
    | true =>
    rw [h4] at ha; cases ha
    simp only [Bool.and_eq_true] at h4
    obtain ⟨⟨⟨i1, i2⟩, i3⟩, i4⟩ := h4
    obtain rfl := Nat.eq_of_beq_eq_true i1
    obtain rfl := Nat.eq_of_beq_eq_true i2
    have := Nat.le_of_ble_eq_true i4
    exact write_d hw hf hg hp (.inr ⟨g, rfl, hgi, fun e => by rw [e] at hn; simp at hn, rfl, hg2⟩) i3 hs0 (by omega)
/-- String -/
def stH (fS tB tE : Nat) : Handler := fun f args h => cond (Nat.beq f fS) (match args with
  | [.ptr id o] => cond (Nat.beq o 0) (match h.H.get id with
    | some (.typ t [_, .rsl g off n z]) => cond (Nat.beq t (2 * tB + 1) && Nat.beq off 0 && Nat.beq z 1 && Nat.ble 1 n && !Nat.beq g id) (match h.H.get g with
      | some (.typ t2 cs) => match bytesI cs with
        | some l => cond (Nat.beq t2 (2 * tE) && Nat.beq l.length n && AV.beqL cs (bytA l)) (some (.str l, (h.kill g).kill id)) none
        | none => none
      | _ => none) none
    | _ => none) none
  | _ => none) none
theorem stH_ok {P : Program} {fS tB tE : Nat} (hw : StringOk P fS tB tE) (hf : Fex P fS) : FOk P (stH fS tB tE) := by
  intro f args h v h' ha
  unfold stH at ha
  cases hff : Nat.beq f fS with
  | false => rw [hff] at ha; cases ha
  | true =>
  rw [hff] at ha
  obtain rfl := Nat.eq_of_beq_eq_true hff
  simp only [cond_true] at ha
  split at ha
  case h_2 => cases ha
  rename_i id o
  cases h1 : Nat.beq o 0 with
  | false => rw [h1] at ha; cases ha
  | true =>
  rw [h1] at ha
  simp only [cond_true] at ha
  obtain rfl := Nat.eq_of_beq_eq_true h1
  split at ha
  case h_2 => cases ha
  rename_i t p g off n z hg
  cases h3 : (Nat.beq t (2 * tB + 1) && Nat.beq off 0 && Nat.beq z 1 && Nat.ble 1 n && !Nat.beq g id) with
  | false => rw [h3] at ha; cases ha
  | true =>
  rw [h3] at ha
  simp only [cond_true] at ha
  simp only [Bool.and_eq_true] at h3
  obtain ⟨⟨⟨⟨e0, e1⟩, e2⟩, e3⟩, e4⟩ := h3
  obtain rfl := Nat.eq_of_beq_eq_true e0
  obtain rfl := Nat.eq_of_beq_eq_true e1
  obtain rfl := Nat.eq_of_beq_eq_true e2
  have hn := Nat.le_of_ble_eq_true e3
  split at ha
  case h_2 => cases ha
  rename_i t2 cs hg2
  split at ha
  case h_2 => cases ha
  rename_i l hl
  cases h4 : (Nat.beq t2 (2 * tE) && Nat.beq l.length n && AV.beqL cs (bytA l)) with
  | false => rw [h4] at ha; cases ha
  | true =>
  rw [h4] at ha; cases ha
  simp only [Bool.and_eq_true] at h4
  obtain ⟨⟨i1, i2⟩, i3⟩ := h4
  obtain rfl := Nat.eq_of_beq_eq_true i1
  obtain rfl := Nat.eq_of_beq_eq_true i2
  obtain rfl := AV.beqL_eq _ _ i3
  exact string_d hw hf hg hg2 (ne_of_beq e4) (fun e => by rw [e] at hn; simp at hn)
end Go.Eng
end
noncomputable section
namespace Go.Proofs
open Go.Eng Go.RowKit
theorem fex31 : Fex Tryz.prog 31 := ⟨_, Tryz.func31, rfl, by decide⟩
theorem fex32 : Fex Tryz.prog 32 := ⟨_, Tryz.func32, rfl, by decide⟩
theorem fex69 : Fex Tryz.prog 69 := ⟨_, Tryz.func69, rfl, by decide⟩
theorem fex118 : Fex Tryz.prog 118 := ⟨_, Tryz.func118, rfl, by decide⟩
theorem fex123 : Fex Tryz.prog 123 := ⟨_, Tryz.func123, rfl, by decide⟩
theorem fex164 : Fex Tryz.prog 164 := ⟨_, Tryz.func164, rfl, by decide⟩
theorem idx_d (s : List UInt8) (c : Int) (h : AH) : CallD Tryz.prog 118 [.str s, .int .u8 c] h (.int .i64 (Lib.indexByte s c.toNat.toUInt8)) h := by
  refine CallD.lib fex118 fun own β w cargs hs hR => ?_
  obtain ⟨u, v, rfl, hu, hv⟩ := two_args hR
  cases hu; cases hv
  refine (Tryz.stringslite_IndexByte ⟨s.toArray⟩ c w).mono ?_
  rintro e w' ⟨rfl, rfl⟩
  exact ⟨_, rfl, .int _ _, Below.refl _ _⟩
theorem count_d (s : List UInt8) (c : UInt8) (h : AH) : CallD Tryz.prog 164 [.str s, .str [c]] h (.int .i64 ((Lib.countByte s c : Nat) : Int)) h := by
  refine CallD.lib fex164 fun own β w cargs hs hR => ?_
  obtain ⟨u, v, rfl, hu, hv⟩ := two_args hR
  cases hu; cases hv
  refine (Tryz.strings_Count_one ⟨s.toArray⟩ c w).mono ?_
  rintro e w' ⟨rfl, rfl⟩
  exact ⟨_, rfl, .int _ _, Below.refl _ _⟩
theorem atoi_d (s : List UInt8) (n : Int) (h : AH) (hl : s.length ≤ 18) (hn : Lib.atoi s = some n) : CallD Tryz.prog 123 [.str s] h (.tup [.int .i64 n, .nilif]) h := by
  refine CallD.lib fex123 fun own β w cargs hs hR => ?_
  obtain ⟨u, rfl, hu⟩ := one_arg hR
  cases hu
  refine (Tryz.strconv_Atoi ⟨s.toArray⟩ n (by simpa [ByteArray.size] using hl) hn w).mono ?_
  rintro e w' ⟨rfl, t, rfl⟩
  refine ⟨_, rfl, .tup _ _ rfl fun i c v hc hv => ?_, ?_⟩
  · match i with
    | 0 => simp at hc hv; subst hc; subst hv; exact .int _ _
    | 1 => simp at hc hv; subst hc; subst hv; exact .nilif
    | i + 2 => simp at hc
  · unfold Lib.bytesWorld
    exact Lib.below_freeze (Below.alloc (Below.drew (Below.refl _ _)) (Nat.le_refl _) _) (Nat.le_refl _) _
theorem join_d (sl : AV) (xl : List (List AV)) (l : List (List UInt8)) (sep : List UInt8) (h : AH) (he : elemsZ h 1 sl = some xl) (hl : strsA xl = some l) (hb : (Lib.join l sep).length ≤ 1000000) (hn : l.length ≤ 1000000) : CallD Tryz.prog 69 [sl, .str sep] h (.str (Lib.join l sep)) h := by
  refine CallD.lib fex69 fun own β w cargs hs hR => ?_
  obtain ⟨u, v, rfl, hu, hv⟩ := two_args hR
  cases hv
  have hx := strsA_some hl
  have hxl : xl.length = l.length := by rw [hx]; simp
  have hund : sl ≠ .undef := fun e => by rw [e] at he; simp [elemsZ] at he
  obtain ⟨_, h1⟩ := elems_val (en := none) hs hu he
  rcases h1 with ⟨h0, a, cap, rfl⟩ | ⟨b', o, cap, rfl, h2⟩
  · obtain rfl : l = [] := List.eq_nil_of_length_eq_zero (by omega)
    refine (Tryz.strings_Join_none a cap ⟨sep.toArray⟩ w).mono ?_
    rintro e w' ⟨rfl, rfl⟩
    exact ⟨_, rfl, .str [], Below.refl _ _⟩
  · by_cases h0 : l = []
    · subst h0
      have : xl.length = 0 := by simpa using hxl
      rw [this]
      refine (Tryz.strings_Join_none _ cap ⟨sep.toArray⟩ w).mono ?_
      rintro e w' ⟨rfl, rfl⟩
      exact ⟨_, rfl, .str [], Below.refl _ _⟩
    · have hcap := hu.cap hund
      have hpos : 0 < xl.length := by rw [hxl]; exact List.length_pos_iff.2 h0
      have hcell : ∀ (j : Nat) x, (l.map fun s => (⟨s.toArray⟩ : ByteArray))[j]? = some x → w.cell? ⟨b', o + j, none⟩ = some (.string x) := by
        intro j x hj
        rw [List.getElem?_map, Option.map_eq_some_iff] at hj
        obtain ⟨s, hs1, rfl⟩ := hj
        have hjl : j < l.length := (List.getElem?_eq_some_iff.1 hs1).1
        obtain ⟨v, k1, k2⟩ := h2 j (by omega)
        have k3 := k2 [.str s] (by rw [hx, List.getElem?_map, hs1]; rfl)
        have k4 : v = .string ⟨s.toArray⟩ := by
          simp only [elV, List.headD] at k3
          cases k3; rfl
        subst k4
        simpa [ElemAt] using k1
      have hmap : (l.map fun s => (⟨s.toArray⟩ : ByteArray)).map (·.data.toList) = l := by
        rw [List.map_map]
        show List.map (fun s : List UInt8 => s) l = l
        exact List.map_id' l
      have hlt : b' < w.heap.size := by
        obtain ⟨s, r, hlr⟩ := List.exists_cons_of_ne_nil h0
        have := hcell 0 ⟨s.toArray⟩ (by rw [hlr]; rfl)
        rcases Nat.lt_or_ge b' w.heap.size with k | k
        · exact k
        · simp [World.cell?, Array.getElem?_eq_none k] at this
      have hlen : (l.map fun s => (⟨s.toArray⟩ : ByteArray)).length = xl.length := by rw [hxl]; simp
      have hj := Tryz.strings_Join b' o cap (l.map fun s => (⟨s.toArray⟩ : ByteArray)) ⟨sep.toArray⟩ w hcell hlt (by rw [hlen]; omega) (by rw [hlen]; exact hcap) (by rw [hmap]; exact Nat.le_trans hb (by omega))
      rw [hlen, hmap] at hj
      refine hj.mono ?_
      rintro e w' ⟨rfl, hbl⟩
      exact ⟨_, rfl, .str _, hbl⟩
end Go.Proofs
end
noncomputable section
namespace Go.Proofs.YtndpneieplopaaaGreatDoor
open Go.Eng
/-- the library's functions and the builder, by contract -/
def libH : Handler := fun f args h =>
  match args with
  | [.str s, .int .u8 c] => cond (Nat.beq f 118) (some (.int .i64 (Lib.indexByte s c.toNat.toUInt8), h)) none
  | [.str s, .str [c]] => cond (Nat.beq f 164) (some (.int .i64 ((Lib.countByte s c : Nat) : Int), h)) none
  | [.str s] => cond (Nat.beq f 123 && Nat.ble s.length 18) (match Lib.atoi s with | some n => some (.tup [.int .i64 n, .nilif], h) | none => none) none
  | _ => none
def joinH : Handler := fun f args h => cond (Nat.beq f 69) (match args with
  | [sl, .str sep] => match elemsZ h 1 sl with
    | some xl => match strsA xl with
      | some l => cond (Nat.ble (Lib.join l sep).length 1000000 && Nat.ble l.length 1000000) (some (.str (Lib.join l sep), h)) none
      | none => none
    | none => none
  | _ => none) none
def lH : Handler := hor (wrH 31 85 5) (hor (stH 32 85 5) (hor joinH libH))
theorem libH_ok : FOk Tryz.prog libH := by
  intro f args h v h' ha
  unfold libH at ha
  split at ha
  · rename_i s c
    cases hf : Nat.beq f 118 with
    | false => rw [hf] at ha; cases ha
    | true => rw [hf] at ha; cases ha; rw [Nat.eq_of_beq_eq_true hf]; exact idx_d s c h
  · rename_i s c
    cases hf : Nat.beq f 164 with
    | false => rw [hf] at ha; cases ha
    | true => rw [hf] at ha; cases ha; rw [Nat.eq_of_beq_eq_true hf]; exact count_d s c h
  · rename_i s
    cases hf : (Nat.beq f 123 && Nat.ble s.length 18) with
    | false => rw [hf] at ha; cases ha
    | true =>
      rw [hf] at ha
      simp only [cond_true] at ha
      simp only [Bool.and_eq_true] at hf
      split at ha
      · rename_i n hn; cases ha; rw [Nat.eq_of_beq_eq_true hf.1]; exact atoi_d s n h (Nat.le_of_ble_eq_true hf.2) hn
      · cases ha
  · cases ha
theorem joinH_ok : FOk Tryz.prog joinH := by
  intro f args h v h' ha
  unfold joinH at ha
  cases hf : Nat.beq f 69 with
  | false => rw [hf] at ha; cases ha
  | true =>
  rw [hf] at ha
  simp only [cond_true] at ha
  split at ha
  case h_2 => cases ha
  rename_i sl sep
  split at ha
  case h_2 => cases ha
  rename_i xl he
  split at ha
  case h_2 => cases ha
  rename_i l hl
  cases hb : (Nat.ble (Lib.join l sep).length 1000000 && Nat.ble l.length 1000000) with
  | false => rw [hb] at ha; cases ha
  | true =>
  rw [hb] at ha; cases ha
  simp only [Bool.and_eq_true] at hb
  rw [Nat.eq_of_beq_eq_true hf]
  exact join_d sl xl l sep h he hl (Nat.le_of_ble_eq_true hb.1) (Nat.le_of_ble_eq_true hb.2)
theorem lH_ok : FOk Tryz.prog lH := hor_ok (wrH_ok writeX fex31) (hor_ok (stH_ok (fun b g cap p cur l w h1 h2 h3 h4 h5 h6 h7 => stringX b g cap p cur l w h1 h2 h3 h4 h5 h6 h7) fex32) (hor_ok joinH_ok libH_ok))
end Go.Proofs.YtndpneieplopaaaGreatDoor
end
