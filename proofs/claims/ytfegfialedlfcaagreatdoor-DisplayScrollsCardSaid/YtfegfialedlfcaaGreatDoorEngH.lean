/- Each abstract operation stands for the model's operation: append, copy, make. -/
import Derived.Test.YtfegfialedlfcaaGreatDoorEngG
set_option linter.unusedSimpArgs false
set_option linter.unusedVariables false
set_option linter.unnecessarySimpa false
noncomputable section
namespace Go.Eng
theorem cell?_heap {w w' : World} (h : w'.heap = w.heap) (a : Addr) : w'.cell? a = w.cell? a := by simp [World.cell?, h]

section
variable {P : Program} {own : Nat → Prop} {β : Bl} {h : AH} {w : World}
theorem flat_RL {hp : Array Obj} {L : Nat → Prop} {β : Bl} {cur : Array Value} {z : Nat} : ∀ (xs : List (List AV)) (o : Nat), (∀ (i : Nat) (x : List AV), xs[i]? = some x → x.length = z) →
    (∀ (i : Nat) (x : List AV) (j : Nat) (c : AV) (v : Value), xs[i]? = some x → x[j]? = some c → cur[o + i * z + j]? = some v → VR hp L β c v) → o + xs.length * z ≤ cur.size → RL hp L β xs.flatten ((cur.toList.drop o).take (xs.length * z))
  | [], o, _, _, _ => by simpa using RL.nil
  | x :: xs, o, hz, hr, hs => by
    have hxl : x.length = z := hz 0 x (by simp)
    have hs' : o + (z + xs.length * z) ≤ cur.size := by simp only [List.length_cons, Nat.add_mul, Nat.one_mul] at hs; omega
    have h1 : RL hp L β x ((cur.toList.drop o).take z) := by
      rw [← hxl]
      exact row_RL (by omega) (fun j c v hc hv => hr 0 x j c v (by simp) hc (by simpa using hv))
    have h2 := flat_RL xs (o + z) (fun i y hy => hz (i + 1) y (by simpa using hy)) (fun i y j c v hy hc hv => hr (i + 1) y j c v (by simpa using hy) hc (by rw [← hv]; congr 1; rw [Nat.add_mul]; omega)) (by omega)
    have h3 := h1.append h2
    have he : (cur.toList.drop o).take ((x :: xs).length * z) = (cur.toList.drop o).take z ++ (cur.toList.drop (o + z)).take (xs.length * z) := by
      rw [List.length_cons, Nat.add_mul, Nat.one_mul, Nat.add_comm (xs.length * z) z, List.take_add, List.drop_drop]
    rw [he]
    exact h3

/-- The elements of a slice: what firstCells gives. -/
theorem src_ok (hs : SimH own β h.H h.nx w) {z : Nat} {x : AV} {cx : Value} {new : List AV} {m : Nat} (hc : acells h z x = some new) (hm : alen x = some m) (hx : VR w.heap (LL own β h.H) β x cx) :
    ∃ a cap vs, cx = .slice a m cap ∧ m ≤ cap ∧ RL w.heap (LL own β h.H) β new vs ∧ vs.length = m * z ∧
      ∀ n, n ≤ m → ∀ w', w'.heap = w.heap → (Builtin.firstCells z n cx).run P w' = .ok (vs.take (n * z)).toArray w' := by
  have zero : ∀ (a : Option Addr) (cap n : Nat), n ≤ 0 → ∀ w' : World, (Builtin.firstCells z n (.slice a 0 cap)).run P w' = .ok (([] : List Value).take (n * z)).toArray w' := by
    intro a cap n hn w'
    have : n = 0 := by omega
    subst this
    cases a <;> simp [Builtin.firstCells, loadCells, loadCellsFrom]
  have fromRow : ∀ (b o n m cap : Nat) (cur : Array Value) (e : TypeId) (fz : Nat × Nat), w.heap[b]? = some (.cells cur e fz) → n ≤ m → o + m * z ≤ cur.size → ∀ w' : World, w'.heap = w.heap →
      (Builtin.firstCells z n (.slice (some ⟨b, o, none⟩) m cap)).run P w' = .ok (((cur.toList.drop o).take (m * z)).take (n * z)).toArray w' := by
    intro b o n m cap cur e fz hb hn hsz w' hw
    have hnm : n * z ≤ m * z := Nat.mul_le_mul_right _ hn
    rw [List.take_take, Nat.min_eq_left hnm]
    have hl : ((cur.toList.drop o).take (n * z)).length = n * z := by simp; omega
    exact run_firstCells_some w' z n ⟨b, o, none⟩ m cap _ hl (fun j v hv => by rw [cell?_heap hw]; exact row_cells hb j v hv)
  cases hx <;> simp only [acells] at hc <;> simp only [alen] at hm <;> try (cases hc; done)
  case nilsl => cases hc; cases hm; exact ⟨_, _, [], rfl, Nat.le_refl _, RL.nil, by simp, fun n hn w' _ => zero _ _ n hn w'⟩
  case esl a => cases hc; cases hm; exact ⟨_, _, [], rfl, Nat.le_refl _, RL.nil, by simp, fun n hn w' _ => zero _ _ n hn w'⟩
  case psl0 a cap => simp at hc hm; subst hc; subst hm; exact ⟨_, _, [], rfl, Nat.zero_le _, RL.nil, by simp, fun n hn w' _ => zero _ _ n hn w'⟩
  case psl xs z' b o cap cur e fz hb hL hsz hz hcap hr =>
    cases hm
    split at hc
    · rename_i hall
      cases hc
      have hz2 : ∀ (i : Nat) (x : List AV), xs[i]? = some x → x.length = z := fun i x hxi => by
        have := List.all_eq_true.1 hall x (List.mem_of_getElem? hxi); simpa using this
      by_cases hx0 : xs.length = 0
      · have : xs = [] := List.eq_nil_of_length_eq_zero hx0
        subst this
        exact ⟨_, _, [], rfl, hcap, RL.nil, by simp, fun n hn w' _ => zero _ _ n (by simpa using hn) w'⟩
      · have hzz : z' = z := by
          have h6 : 0 < xs.length := by omega
          rw [← hz 0 xs[0] (by simp [h6])]; exact hz2 0 xs[0] (by simp [h6])
        subst hzz
        exact ⟨_, _, _, rfl, hcap, flat_RL xs o hz hr hsz, by simp; omega, fun n hn w' hw => fromRow b o n xs.length cap cur e fz hb hn hsz w' hw⟩
    · cases hc
  case rsl id off len z' b base cap cur0 e0 fz0 hβ hb0 hcap hmax hsz =>
    simp only [Option.some.injEq] at hm
    subst hm
    split at hc
    · rename_i hz; subst hz
      cases hcs : h.cellsAt id with
      | none => simp [hcs] at hc
      | some cs =>
        simp only [hcs] at hc
        obtain ⟨h1, rfl⟩ := cut_some hc
        obtain ⟨b', base', cur, e, hg, hβ', hb, hlen, hr⟩ := hs.row hcs
        rw [hβ] at hβ'; cases hβ'
        have hR := ((row_RL hlen hr).drop off).take (len * z')
        have heq : (((cur.toList.drop base).take cs.length).drop off).take (len * z') = (cur.toList.drop (base + off)).take (len * z') := by
          rw [List.drop_take, List.take_take, List.drop_drop, Nat.min_eq_left (by omega)]
        rw [heq] at hR
        refine ⟨_, _, _, rfl, hcap, hR, ?_, fun n hn w' hw => fromRow b (base + off) n len cap cur e (0, 0) hb hn (by omega) w' hw⟩
        simp; omega
    · cases hc
  case rsl0 id off z' b base o hβ =>
    cases hm
    split at hc
    · rename_i hz; subst hz
      cases hcs : h.cellsAt id with
      | none => simp [hcs] at hc
      | some cs =>
        simp only [hcs, Nat.zero_mul] at hc
        obtain ⟨h1, rfl⟩ := cut_some hc
        exact ⟨_, _, [], rfl, Nat.le_refl _, by simpa using RL.nil, by simp, fun n hn w' _ => zero _ _ n hn w'⟩
    · cases hc

theorem run_append_in {t ty e : TypeId} {i : TypeInfo} (ht : P.underlying t = some (.slice e)) (hi : P.info? e = some i) (base a : Option Addr) (sLen sCap m c : Nat) (new : Array Value)
    (hnew : (Builtin.firstCells i.size m (.slice a m c)).run P w = .ok new w) (hroom : sLen + m ≤ sCap) :
    (Builtin.append_ #[t, t] ty #[.slice base sLen sCap, .slice a m c]).run P w =
      (match base with | some ad => (storeCells (ad.add (sLen * i.size)) new.toList).run P w | none => .ok () w).andThen fun _ w' => .ok (.slice base (sLen + m) sCap) w' := by
  cases base <;> simp [Builtin.append_, run_underlying ht, sizeOf, typeInfo, hi, Builtin.lenOf, hroom, hnew]

theorem run_append_out {t ty e : TypeId} {i : TypeInfo} {zv : Value} (ht : P.underlying t = some (.slice e)) (hi : P.info? e = some i) (hz : i.zero = some zv) (base a : Option Addr) (sLen sCap m c : Nat) (old new : Array Value)
    (hold : (Builtin.firstCells i.size sLen (.slice base sLen sCap)).run P w.drew = .ok old w.drew) (hnew : (Builtin.firstCells i.size m (.slice a m c)).run P w.drew = .ok new w.drew) (hroom : ¬ (sLen + m ≤ sCap))
    (h63 : sLen + m ≤ 9223372036854775807) (hb : (sLen + m) * i.bytes ≤ 140737488355328) :
    (Builtin.append_ #[t, t] ty #[.slice base sLen sCap, .slice a m c]).run P w =
      .ok (.slice (some ⟨w.heap.size, 0, none⟩) (sLen + m) (grownCap w (sLen + m) sCap e)) (w.drew.alloc (.cells (old ++ new ++ Builtin.zeroCells zv.cells (grownCap w (sLen + m) sCap e - (sLen + m))) e)) := by
  have h63' : ¬ (9223372036854775807 < ((sLen : Int) + (m : Int))) := by omega
  have h48' : ¬ (281474976710656 < Builtin.nextslicecap (sLen + m) sCap * i.bytes) := by
    have := growslice_fits (need := sLen + m) (old := sCap) (bytes := i.bytes) (by omega) hb
    omega
  simp [Builtin.append_, run_underlying ht, sizeOf, typeInfo, zeroValue, hi, hz, Builtin.lenOf, hroom, h63', h48', Question.forced, hold, hnew, newRow, grownCap]

theorem roomy_spec {n b : Nat} (hr : roomy n b = true) : n * b ≤ 140737488355328 ∧ n ≤ 9223372036854775807 := by
  simpa [roomy] using hr

theorem zeroOf_info {t : TypeId} {z : List AV} (hq : zeroOf P t = some z) : ∃ i v, P.info? t = some i ∧ i.zero = some v ∧ v.cells.size = z.length := by
  unfold zeroOf at hq
  split at hq
  · rename_i i hi
    split at hq
    · rename_i v hv
      exact ⟨i, v, hi, hv, by have := (cVals_ok (hp := #[]) (L := fun _ => True) (β := fun _ => none) hq).1; simp at this; omega⟩
    · cases hq
  · cases hq

/-- The new array of an append. -/
theorem grow_ok (hs : SimH own β h.H h.nx w) {e : TypeId} {z : Nat} {i : TypeInfo} {zv : Value} (hzs : zv.cells.size = z) (n old : Nat) (hn : n ≤ 9223372036854775807) {as : List AV} {vs : Array Value} (hR : RL w.heap (LL own β h.H) β as vs.toList) (hl : as.length = n * z) :
    ∃ β', SimH own β' (h.add (.cells as)).H (h.add (.cells as)).nx (w.drew.alloc (.cells (vs ++ Builtin.zeroCells zv.cells (grownCap w n old e - n)) e)) ∧
      VR (w.drew.alloc (.cells (vs ++ Builtin.zeroCells zv.cells (grownCap w n old e - n)) e)).heap (LL own β' (h.add (.cells as)).H) β' (.rsl h.nx 0 n z) (.slice (some ⟨w.heap.size, 0, none⟩) n (grownCap w n old e)) ∧
      Trans own β h w β' (h.add (.cells as)) (w.drew.alloc (.cells (vs ++ Builtin.zeroCells zv.cells (grownCap w n old e - n)) e)) := by
  have hge := grownCap_ge w n old e
  have hcm : grownCap w n old e ≤ maxLen := grownCap_le_maxLen w n old e (by simp only [maxLen]; omega)
  have hvl : vs.size = n * z := by have := hR.1; simp at this; omega
  obtain ⟨h1, h2, _⟩ := hs.newCells (w' := w.drew.alloc (.cells (vs ++ Builtin.zeroCells zv.cells (grownCap w n old e - n)) e)) h.nx (hs.fresh _ (Nat.le_refl _)) as (vs ++ Builtin.zeroCells zv.cells (grownCap w n old e - n)) e rfl rfl rfl rfl (by simp; omega) (fun j c v hc hv => by
    refine hR.2 j c v hc ?_
    have hj : j < vs.size := by rw [hvl, ← hl]; exact (List.getElem?_eq_some_iff.1 hc).1
    rw [Array.getElem?_append, if_pos hj] at hv
    simpa using hv)
  have hmx : max h.nx (h.nx + 1) = h.nx + 1 := by omega
  have h2' := h2 (Nat.le_refl _)
  rw [hmx] at h1 h2'
  refine ⟨_, h1, ?_, h2'⟩
  have hb : (w.drew.alloc (.cells (vs ++ Builtin.zeroCells zv.cells (grownCap w n old e - n)) e)).heap[w.heap.size]? = some (.cells (vs ++ Builtin.zeroCells zv.cells (grownCap w n old e - n)) e (0, 0)) := heap_alloc_new w.drew _
  refine VR.rsl h.nx 0 n z w.heap.size 0 _ _ e _ (upd_same _ _ _ _) hb hge hcm ?_
  simp only [Array.size_append, size_zeroCells, hzs, hvl, ← Nat.add_mul]
  have : n + (grownCap w n old e - n) = grownCap w n old e := by omega
  rw [this]; omega

theorem append_ok (hs : SimH own β h.H h.nx w) {t ty e : TypeId} {z bytes : Nat} {zero : List AV} {s x v : AV} {cs cx : Value} {h' : AH} (ht : P.underlying t = some (.slice e)) (hz : zeroOf P e = some zero) (hsz : szOf P e = some z) (hzl : zero.length = z) (hz0 : z ≠ 0) (hby : byOf P e = some bytes)
    (hvs : VR w.heap (LL own β h.H) β s cs) (hvx : VR w.heap (LL own β h.H) β x cx) (ha : aapp h z bytes s x = some (v, h')) :
    OpOk P own β h w (do pure (.value (← Builtin.append_ #[t, t] ty #[cs, cx]))) v h' := by
  unfold aapp at ha
  split at ha
  case h_2 => cases ha
  rename_i new m hnew hm
  split at ha
  · cases ha
  rename_i hones
  have hones' : ones new = true := by simpa using hones
  obtain ⟨i, zv, hi, hiz, hzc⟩ := zeroOf_info hz
  have hisz : i.size = z := by simp [szOf, hi] at hsz; exact hsz
  have hiby : i.bytes = bytes := by simp [byOf, hi] at hby; exact hby
  subst hisz
  subst hiby
  obtain ⟨xa, xc, nv, rfl, hxc, hnR, hnl, hfirst⟩ := src_ok (P := P) hs hnew hm hvx
  have hfirst' : ∀ w', w'.heap = w.heap → (Builtin.firstCells i.size m (.slice xa m xc)).run P w' = .ok nv.toArray w' := fun w' hw => by
    have := hfirst m (Nat.le_refl _) w' hw
    rwa [List.take_of_length_le (by omega)] at this
  have hnewl : new.length = m * i.size := by rw [hnR.1]; exact hnl
  -- a slice without an array, or without room
  have fresh : ∀ (b : Option Addr), m ≠ 0 → roomy m i.bytes = true → OpOk P own β h w (do pure (.value (← Builtin.append_ #[t, t] ty #[.slice b 0 0, .slice xa m xc]))) (.rsl h.nx 0 m i.size) (h.add (.cells new)) := by
    intro b hm0 hr
    obtain ⟨r1, r2⟩ := roomy_spec hr
    have h0 : (Builtin.firstCells i.size 0 (.slice b 0 0)).run P w.drew = .ok #[] w.drew := by
      cases b <;> simp [Builtin.firstCells, loadCells, loadCellsFrom]
    have hrun := run_append_out (P := P) (w := w) (ty := ty) ht hi hiz b xa 0 0 m xc #[] nv.toArray h0 (hfirst' w.drew rfl) (by omega) (by omega) (by rw [Nat.zero_add]; exact r1)
    obtain ⟨β', g1, g2, g3⟩ := grow_ok (e := e) (i := i) hs (hzc.trans hzl) m 0 r2 (as := new) (vs := nv.toArray) (by simpa using hnR) hnewl
    refine ⟨_, _, β', .inl ?_, g1, g2, g3⟩
    simp only [Nat.zero_add, Array.empty_append] at hrun
    simp only [Sem.run_bind, hrun, Result.andThen_ok, Sem.run_pure]
  have nothing : ∀ (b : Option Addr) (n cap : Nat), n ≤ cap → m = 0 → (Builtin.append_ #[t, t] ty #[.slice b n cap, .slice xa m xc]).run P w = .ok (.slice b n cap) w := by
    intro b n cap hn hm0
    subst hm0
    have hnv : nv = [] := List.eq_nil_of_length_eq_zero (by omega)
    subst hnv
    rw [run_append_in ht hi b xa n cap 0 xc _ (hfirst' w rfl) (by omega)]
    cases b <;> simp [storeCells]
  split at ha
  case h_1 =>
    cases hvs
    split at ha
    · rename_i hm0; cases ha
      exact .still hs (by simp only [Sem.run_bind, nothing _ 0 0 (Nat.le_refl _) hm0, Result.andThen_ok, Sem.run_pure]) .nilsl
    · rename_i hm0
      split at ha
      · rename_i hr; cases ha; exact fresh none hm0 hr
      · cases ha
  case h_2 =>
    cases hvs
    rename_i b
    split at ha
    · rename_i hm0; cases ha
      exact .still hs (by simp only [Sem.run_bind, nothing _ 0 0 (Nat.le_refl _) hm0, Result.andThen_ok, Sem.run_pure]) (.esl b)
    · rename_i hm0
      split at ha
      · rename_i hr; cases ha; exact fresh b hm0 hr
      · cases ha
  case h_3 xs =>
    split at ha
    · rename_i hm0; cases ha
      obtain ⟨b, cap, rfl, hc⟩ := alen_slice hvs (n := xs.length) rfl
      exact .still hs (by simp only [Sem.run_bind, nothing b xs.length cap hc hm0, Result.andThen_ok, Sem.run_pure]) hvs
    · cases ha
  case h_4 id off len z' =>
    split at ha
    case isFalse => cases ha
    rename_i hcond
    simp only [Bool.and_eq_true, decide_eq_true_eq] at hcond
    obtain ⟨hz', hr⟩ := hcond
    subst hz'
    obtain ⟨r1, r2⟩ := roomy_spec hr
    cases hcs : h.cellsAt id with
    | none => simp [hcs] at ha
    | some cells =>
      simp only [hcs] at ha
      cases hcut : cut cells off (len * i.size) with
      | none => simp [hcut] at ha
      | some old =>
        simp only [hcut] at ha
        cases ha
        obtain ⟨sa, scap, ov, hsv, hscap, hoR, hol, hofirst⟩ := src_ok (P := P) hs (z := i.size) (x := .rsl id off len i.size) (new := old) (m := len) (by simp [acells, hcs, hcut]) rfl hvs
        subst hsv
        have holdl : old.length = len * i.size := by rw [hoR.1]; exact hol
        obtain ⟨b', base', cur, e', hg, hβ', hb, hlen, hrow⟩ := hs.row hcs
        by_cases hroom : len + m ≤ scap
        · -- in place
          have hrun := run_append_in (P := P) (w := w) (ty := ty) ht hi sa xa len scap m xc _ (hfirst' w rfl) hroom
          obtain ⟨hcutl, hcutv⟩ := cut_some hcut
          cases hvs with
          | rsl _ _ _ _ b base cap cur0 e0 fz0 hβ hb0 hcap hmax hsz =>
            obtain ⟨rfl, rfl⟩ : b = b' ∧ base = base' := by rw [hβ] at hβ'; simpa using hβ'
            obtain ⟨rfl, rfl, rfl⟩ : cur = cur0 ∧ e' = e0 ∧ (0, 0) = fz0 := by rw [hb] at hb0; simpa using hb0
            have hmul : len * i.size + m * i.size ≤ scap * i.size := by rw [← Nat.add_mul]; exact Nat.mul_le_mul_right _ hroom
            have hst := run_storeCells_at P b (base + off + len * i.size) e' nv 0 cur w hb (by omega) (hnR.ones hones')
            simp only [Nat.add_zero] at hst
            have hsz' : (cur.toList.take (base + off + len * i.size) ++ nv ++ cur.toList.drop (base + off + len * i.size + nv.length)).toArray.size = cur.size := by simp; omega
            have hb' : (w.setRow b (cur.toList.take (base + off + len * i.size) ++ nv ++ cur.toList.drop (base + off + len * i.size + nv.length)).toArray).heap[b]? = some (.cells (cur.toList.take (base + off + len * i.size) ++ nv ++ cur.toList.drop (base + off + len * i.size + nv.length)).toArray e' (0, 0)) := setRow_heap w b cur _ e' _ hb
            have hw := hs.writeAs (w' := w.setRow b (cur.toList.take (base + off + len * i.size) ++ nv ++ cur.toList.drop (base + off + len * i.size + nv.length)).toArray) hg hβ h.nx (base + off) (.inr rfl) (.cells (old ++ new)) (by simp) (fun k hk => setRow_other w b k _ hk)
              (fun c1 e1 fz hc => by rw [hb] at hc; cases hc; exact ⟨_, _, hb', hsz', rfl⟩) rfl rfl rfl
              (fun L' β' hl' => ⟨_, e', hb', by rw [hsz']; simp; omega, fun j c v hc hv => by
                refine VR.later hl' ?_
                have hv2 : (cur.toList.take (base + off + len * i.size) ++ nv ++ cur.toList.drop (base + off + len * i.size + nv.length))[base + off + j]? = some v := by simpa using hv
                rw [getElem?_splice _ _ _ _ (by simp; omega)] at hv2
                rw [List.getElem?_append] at hc
                split at hc
                · rename_i hj
                  rw [if_pos (by omega)] at hv2
                  rw [hcutv, List.getElem?_take] at hc
                  split at hc
                  · rw [List.getElem?_drop] at hc
                    exact hrow _ c v hc (by rw [← Nat.add_assoc]; simpa using hv2)
                  · cases hc
                · rename_i hj
                  rw [if_neg (by omega)] at hv2
                  have hjl : j - old.length < new.length := (List.getElem?_eq_some_iff.1 hc).1
                  rw [if_pos (by omega)] at hv2
                  refine hnR.2 _ c v hc ?_
                  rw [← hv2]; congr 1; omega⟩)
            rw [if_pos rfl] at hw
            refine ⟨.slice (some ⟨b, base + off, none⟩) (len + m) scap, _, _, .inl ?_, hw.1, ?_, hw.2⟩
            · simp only [add_lit', hst, Result.andThen_ok] at hrun
              simp only [Sem.run_bind, hrun, Result.andThen_ok, Sem.run_pure]
            · have := VR.rsl (hp := (w.setRow b (cur.toList.take (base + off + len * i.size) ++ nv ++ cur.toList.drop (base + off + len * i.size + nv.length)).toArray).heap) (L := LL own (upd β h.nx b (base + off)) ((h.kill id).add (.cells (old ++ new))).H) (β := upd β h.nx b (base + off)) h.nx 0 (len + m) i.size b (base + off) scap _ e' _ (upd_same _ _ _ _) hb' hroom hmax (by rw [hsz']; omega)
              exact this
          | rsl0 _ _ _ b base o hβ =>
            obtain ⟨rfl, rfl⟩ : b = b' ∧ base = base' := by rw [hβ] at hβ'; simpa using hβ'
            have hm0 : m = 0 := by omega
            subst hm0
            have hnv : nv = [] := List.eq_nil_of_length_eq_zero (by omega)
            have hne : new = [] := List.eq_nil_of_length_eq_zero (by omega)
            have hol0 : old = [] := List.eq_nil_of_length_eq_zero (by omega)
            subst hnv; subst hne; subst hol0
            have hw := hs.writeAs (w' := w) hg hβ h.nx base (.inr rfl) (.cells []) rfl (fun _ _ => rfl) (fun c1 e1 fz hc => ⟨c1, fz, hc, rfl, rfl⟩) rfl rfl rfl
              (fun L' β' hl' => ⟨cur, e', hb, by simp; omega, fun j c v hc hv => by simp at hc⟩)
            rw [if_pos rfl] at hw
            refine ⟨.slice (some ⟨b, o, none⟩) 0 0, w, _, .inl ?_, hw.1, VR.rsl0 _ _ _ _ _ _ (upd_same _ _ _ _), hw.2⟩
            simp only [Sem.run_bind, nothing (some ⟨b, o, none⟩) 0 0 (Nat.le_refl _) rfl, Result.andThen_ok, Sem.run_pure]
        · -- a new array
          have hold' : (Builtin.firstCells i.size len (.slice sa len scap)).run P w.drew = .ok ov.toArray w.drew := by
            have := hofirst len (Nat.le_refl _) w.drew rfl
            rwa [List.take_of_length_le (by omega)] at this
          have hrun := run_append_out (P := P) (w := w) (ty := ty) ht hi hiz sa xa len scap m xc ov.toArray nv.toArray hold' (hfirst' w.drew rfl) hroom r2 r1
          obtain ⟨d1, d2⟩ := hs.drop id
          have hR2 := (hoR.append hnR).later d2.later
          obtain ⟨β', g1, g2, g3⟩ := grow_ok (h := h.kill id) (e := e) (i := i) d1 (hzc.trans hzl) (len + m) scap r2 (as := old ++ new) (vs := ov.toArray ++ nv.toArray) (by rw [Array.toList_append]; exact hR2) (by simp; rw [holdl, hnewl, Nat.add_mul])
          refine ⟨_, _, β', .inl ?_, g1, g2, d2.trans g3⟩
          simp only [Sem.run_bind, hrun, Result.andThen_ok, Sem.run_pure]
  case h_5 => cases ha
end
end Go.Eng
end
