/- What the library's Insert does at commands. What the library's Replace does at commands. What the copies of commands and the tests on them answer. What applying a transform to a rectangle answers. What comparing two lists of commands by a function answers, and what a clone of a list holds. -/
import Derived.Test.YtpnekpbehcbmkaaDAc
import Derived.Test.YtpnekpbehcbmkaaD7Cl
set_option linter.unusedSimpArgs false
set_option linter.unusedVariables false
set_option linter.unnecessarySimpa false
noncomputable section
namespace Go.Proofs.Ytpnekpbehcbmkaa
open Go.Eng Go.RowKit Go.Lib Go.Shelf
/-! slices.Insert and slices.Replace at commands: their contracts. -/
section
variable {α : Type}
theorem lE {A B D U new X X1 : List α} {a bl m d u : Nat} (hA : A.length = a) (hB : B.length = bl) (hD : D.length = d) (hU : U.length = u) (hm : new.length = m) (hu : m = bl + u) (hX : X = A ++ B ++ D ++ U) (h1 : X1 = X.take (a + m) ++ (X.drop (a + bl)).take d ++ X.drop (a + m + d)) :
    (X1.take a ++ new ++ X1.drop (a + m)).take (a + m + d) = A ++ new ++ D := by
  subst hX
  have e1 : ((A ++ B ++ D ++ U).drop (a + bl)).take d = D := by
    rw [List.append_assoc, List.drop_left' (by simp; omega), List.take_left' hD]
  have e2 : (A ++ B ++ D ++ U).drop (a + m + d) = [] := List.drop_eq_nil_of_le (by simp; omega)
  have l3 : ((A ++ B ++ D ++ U).take (a + m)).length = a + m := by simp; omega
  rw [e1, e2, List.append_nil] at h1
  subst h1
  have e3 : ((A ++ B ++ D ++ U).take (a + m) ++ D).take a = A := by
    rw [List.take_append_of_le_length (by omega), List.take_take, Nat.min_eq_left (by omega), List.append_assoc, List.append_assoc, List.take_left' hA]
  have e4 : ((A ++ B ++ D ++ U).take (a + m) ++ D).drop (a + m) = D := List.drop_left' l3
  rw [e3, e4, List.take_of_length_le (by simp; omega)]
theorem lC {A D U new X X1 : List α} {a m d : Nat} (hA : A.length = a) (hD : D.length = d) (hm : new.length = m) (hX : X = A ++ U) (h1 : X1 = X.take a ++ new ++ X.drop (a + m)) (R : List α) :
    (X1.take (a + m) ++ D ++ R).take (a + m + d) = A ++ new ++ D := by
  subst hX
  rw [List.take_left' hA] at h1
  subst h1
  rw [List.take_left' (l₁ := A ++ new) (by simp; omega), List.take_left' (by simp; omega)]
theorem lD {A B D new X X1 X2 : List α} {a bl m d : Nat} (hA : A.length = a) (hB : B.length = bl) (hD : D.length = d) (hm : new.length = m) (hmb : m ≤ bl) (hX : X = A ++ B ++ D) (h1 : X1 = X.take a ++ new ++ X.drop (a + m)) {R : List α} (h2 : X2 = X1.take (a + m) ++ (X1.drop (a + bl)).take d ++ R) (Z R2 : List α) :
    (X2.take (a + m + d) ++ Z ++ R2).take (a + m + d) = A ++ new ++ D := by
  subst hX
  have e0 : (A ++ B ++ D).take a = A := by rw [List.append_assoc, List.take_left' hA]
  rw [e0] at h1
  have e1 : X1.drop (a + bl) = D := by
    subst h1
    rw [List.drop_append, List.drop_eq_nil_of_le (by simp; omega), List.nil_append, List.drop_drop]
    rw [show a + m + (a + bl - (A ++ new).length) = a + bl by simp; omega]
    exact List.drop_left' (by simp; omega)
  have e2 : X1.take (a + m) = A ++ new := by subst h1; exact List.take_left' (by simp; omega)
  rw [e1, e2, List.take_of_length_le (by omega)] at h2
  subst h2
  rw [List.take_left' (l₁ := A ++ new ++ D) (by simp; omega), List.append_assoc (A ++ new ++ D), List.take_left' (by simp; omega)]
theorem lB {A B new X X1 : List α} {a m : Nat} (hA : A.length = a) (hm : new.length = m) (hX : X = A ++ B) (h1 : X1 = X.take a ++ new ++ X.drop (a + m)) (Z R2 : List α) :
    (X1.take (a + m) ++ Z ++ R2).take (a + m) = A ++ new := by
  subst hX
  rw [List.take_left' hA] at h1
  subst h1
  rw [List.take_left' (l₁ := A ++ new) (by simp; omega), List.append_assoc (A ++ new), List.take_left' (by simp; omega)]
theorem split2 (cs : List α) (i : Nat) : cs = cs.take i ++ cs.drop i := (List.take_append_drop i cs).symm
theorem split3' (cs : List α) {i j : Nat} (h : i ≤ j) : cs = cs.take i ++ (cs.drop i).take (j - i) ++ cs.drop j := by
  have e : cs.drop j = (cs.drop i).drop (j - i) := by rw [List.drop_drop]; congr 1; omega
  rw [e, List.append_assoc, List.take_append_drop, List.take_append_drop]
end
theorem ones_drop {cs : List AV} (h : ones cs = true) (k : Nat) : ones (cs.drop k) = true := by
  unfold ones at *
  rw [List.all_eq_true] at *
  exact fun x hx => h x (List.mem_of_mem_drop hx)
section
variable {own : Nat → Prop} {β : Bl} {h : AH} {w : World}
theorem Rw.init {b base : Nat} {e : TypeId} {cs : List AV} {cur : Array Value} (hb : w.heap[b]? = some (.cells cur e (0, 0))) (hr : ∀ (i : Nat) (c : AV) (v : Value), cs[i]? = some c → cur[base + i]? = some v → VR w.heap (LL own β h.H) β c v) (u : Nat) (hl : base + (cs.length + u) ≤ cur.size) :
    Rw own β h w b base w.heap.size e cur.size (cs ++ List.replicate u .undef) w := by
  refine ⟨⟨cur, hb, rfl, by simp; omega, fun i c v hc hv => ?_⟩, fun _ _ => rfl, rfl, rfl, rfl, rfl⟩
  rw [List.getElem?_append] at hc
  split at hc
  · exact hr i c v hc hv
  · rw [List.getElem?_replicate] at hc
    split at hc
    · cases hc; exact .undef _
    · cases hc
/-- where the row stands -/
theorem Two.at (hs : SimH own β h.H h.nx w) {v0 v3 : AV} {n m : Nat} {cs new : List AV} {id : Nat} (t : Two h v0 v3 n m cs new id) {c0 : Value} (hv0 : VR w.heap (LL own β h.H) β (.rsl id 0 n 22) c0) (hn : 0 < n) :
    ∃ b base c cur e, c0 = .slice (some ⟨b, base, none⟩) n c ∧ β id = some (b, base) ∧ w.heap[b]? = some (.cells cur e (0, 0)) ∧ n ≤ c ∧ c ≤ maxLen ∧ base + c * 22 ≤ cur.size ∧ (∀ (i : Nat) (x : AV) (v : Value), cs[i]? = some x → cur[base + i]? = some v → VR w.heap (LL own β h.H) β x v) ∧
      ∀ i, i ≤ n → VR w.heap (LL own β h.H) β (.rsl id 0 i 22) (.slice (some ⟨b, base, none⟩) i c) := by
  obtain ⟨b, base, cur, e, hg, hβ, hb, hlen, hr⟩ := hs.row t.c0
  cases hv0 with
  | rsl _ _ _ _ b' base' cap cur0 e0 hβ' hb' hcap hmax hsz =>
    rw [hβ] at hβ'; cases hβ'
    rw [hb] at hb'; cases hb'
    exact ⟨b, base, cap, cur, e, rfl, hβ, hb, hcap, hmax, hsz, hr, fun i hi => .rsl id 0 i 22 b base cap cur e hβ hb (by omega) hmax hsz⟩
  | rsl0 => omega
theorem maxLen_eq : maxLen = 9223372036854775807 := by unfold maxLen; rfl
theorem ins_all (hs : SimH own β h.H h.nx w) {v0 v3 : AV} {n m i : Nat} {cs new : List AV} {id : Nat} (t : Two h v0 v3 n m cs new id) (hi : i ≤ n) {c0 c3 : Value} (hv0 : VR w.heap (LL own β h.H) β (.rsl id 0 n 22) c0) (hv3 : VR w.heap (LL own β h.H) β v3 c3) :
    Calls Try.prog 80 #[c0, .int .i64 i, c3] w (Fin own β h w (if m = 0 then .rsl id 0 n 22 else .rsl h.nx 0 (n + m) 22) (if m = 0 then h else (h.kill id).add (.cells (rX cs new i i)))) := by
  obtain ⟨hl, ho, _, _⟩ := t.alen
  have bn := t.bn; have bm := t.bm; have l0 := t.l0; have o0 := t.o0
  obtain ⟨b0, base0, cur0, e0, hg0, hβ0, hb0, hlen0, hr0⟩ := hs.row t.c0
  obtain ⟨va, vc, rfl, hsr⟩ := t.src hs hβ0 hv3
  have hsl : ∃ b off c, c0 = .slice (some ⟨b, off, none⟩) n c ∧ n ≤ c ∧ c ≤ maxLen := by
    cases hv0 with
    | rsl _ _ _ _ b' base' cap cur1 e1 hβ' hb' hcap hmax hsz => exact ⟨_, _, _, rfl, hcap, hmax⟩
    | rsl0 => exact ⟨_, _, _, rfl, Nat.le_refl _, by rw [maxLen_eq]; omega⟩
  obtain ⟨bb, off, c, rfl, hnc, hcm⟩ := hsl
  rw [maxLen_eq] at hcm
  rcases Nat.eq_zero_or_pos m with rfl | hm
  · refine (ins_A hi hnc hcm bn).mono ?_
    rintro e w' ⟨rfl, rfl⟩
    exact ⟨_, β, rfl, hs, hv0, .refl _ _ _ _⟩
  have hm0 : m ≠ 0 := by omega
  rw [if_neg hm0, if_neg hm0]
  by_cases hin : i = n
  · subst hin
    obtain ⟨cv, w1, β1, q1, q2, q3, q4⟩ := t.app hs (Nat.le_refl _) hv0 hv3
    have hX : rX cs new i i = cs.take (i * 22) ++ new := by
      unfold rX; rw [List.drop_eq_nil_of_le (by omega), List.append_nil]
    rw [hX]
    refine (ins_B hm hnc hcm bm bn q1).mono ?_
    rintro e w' ⟨rfl, rfl⟩
    exact ⟨_, _, rfl, q2, q3, q4⟩
  have hlt : i < n := by omega
  obtain ⟨b, base, c', cur, e, hce, hβ, hb, hnc', hcm', hsz, hr, _⟩ := t.at hs hv0 (by omega)
  cases hce
  rw [hβ0] at hβ; cases hβ
  rw [hb0] at hb; cases hb
  have hA : (cs.take (i * 22)).length = i * 22 := by simp; omega
  have hD : (cs.drop (i * 22)).length = (n - i) * 22 := by simp; omega
  have hXf : ∀ Y : List AV, Y = cs.take (i * 22) ++ new ++ cs.drop (i * 22) → Y = rX cs new i i := fun Y h => h
  by_cases hroom : c < n + m
  · obtain ⟨c2, W1, ⟨k1, k2⟩, hap, r1⟩ := Rw.newZ (own := own) (β := β) (h := h) (w := w) (id := id) ⟨hlen0, hr⟩ hb0 (i := i) (k := n + m - i) (c := c) (by omega) (by omega) (by omega) (by omega) (W := w) rfl rfl rfl rfl
    rw [show i + (n + m - i) = n + m by omega] at k1 hap
    have hbw : b0 < w.heap.size := hs.lt _ _ _ hβ0
    have hsr2 : Sr own β h w w.heap.size va m new := by
      rcases hsr with q | ⟨q0, q1, q2, b2, o2, cur2, e2, q3, q4, q5, q6⟩
      · exact .inl q
      · exact .inr ⟨q0, q1, q2, b2, o2, cur2, e2, q3, by have := (Array.getElem?_eq_some_iff.1 q5).1; omega, q5, q6⟩
    have hsrD : Sr own β h w w.heap.size (some ⟨b0, base0 + i * 22, none⟩) (n - i) (cs.drop (i * 22)) := .inr ⟨by omega, hD, ones_drop o0 _, b0, base0 + i * 22, cur0, e0, rfl, by omega, hb0, by omega, fun q x v h1 h2 => hr (i * 22 + q) x v (by rwa [List.getElem?_drop] at h1) (by rw [← h2]; congr 1; omega)⟩
    have lX : (cs.take (i * 22) ++ List.replicate ((n + m - i) * 22) AV.undef).length = (n + m) * 22 := by simp; omega
    obtain ⟨w2, r1', hcA, r2⟩ := r1.cpFrom (d := i * 22) (n := n + m - i) hsr2 (by omega) (by simp [Nat.min_def]; omega)
    obtain ⟨X1, hX1⟩ : ∃ X1, X1 = (cs.take (i * 22) ++ List.replicate ((n + m - i) * 22) AV.undef).take (i * 22) ++ new ++ (cs.take (i * 22) ++ List.replicate ((n + m - i) * 22) AV.undef).drop (i * 22 + m * 22) := ⟨_, rfl⟩
    have lX1 : X1.length = (n + m) * 22 := by rw [hX1]; simp only [List.length_append, List.length_take, List.length_drop, lX, hl]; omega
    rw [← hX1] at r2
    obtain ⟨w3, r2', hcB, r3⟩ := r2.dr.cpFrom (d := (i + m) * 22) (n := n + m - (i + m)) hsrD (by omega) (by simp [Nat.min_def]; omega)
    obtain ⟨β', g1, g2, g3⟩ := r3.finNew hs id (N := n + m) (c := c2) (by simp only [List.length_append, List.length_take, List.length_drop, lX1, hD]; omega) k1 k2 (Nat.le_refl _)
    have hfin := lC (a := i * 22) (m := m * 22) (d := (n - i) * 22) hA hD hl rfl hX1 (X1.drop ((i + m) * 22 + (n - i) * 22))
    rw [show i * 22 + m * 22 + (n - i) * 22 = (n + m) * 22 by omega, show i * 22 + m * 22 = (i + m) * 22 by omega] at hfin
    rw [hfin] at g1 g2 g3
    refine (ins_C (b2 := w.heap.size) (o2 := 0) (c2 := c2) (w3 := w3) (r2 := r2') hm hlt hnc hroom k1 hcm (by rw [maxLen_eq] at k2; exact k2) bm bn (fun ty => ?_) (fun ty dc => hcA ty dc _) (fun ty dc sc => ?_)).mono ?_
    · rw [show (n : Int) + (m : Int) - (i : Int) = ((n + m - i : Nat) : Int) by omega]; exact hap ty
    · exact hcB ty dc sc
    · rintro e' w' ⟨rfl, rfl⟩
      exact ⟨_, _, rfl, g1, g2, g3⟩
  · have hroom' : n + m ≤ c := by omega
    have hmul : (n + m) * 22 ≤ c * 22 := Nat.mul_le_mul_right _ hroom'
    have r0 := Rw.init (own := own) (β := β) (h := h) (w := w) hb0 hr (m * 22) (by omega)
    obtain ⟨X0, hX0⟩ : ∃ X0, X0 = cs ++ List.replicate (m * 22) AV.undef := ⟨_, rfl⟩
    rw [← hX0] at r0
    have lX0 : X0.length = (n + m) * 22 := by rw [hX0]; simp; omega
    have hX0' : X0 = cs.take (i * 22) ++ [] ++ cs.drop (i * 22) ++ List.replicate (m * 22) AV.undef := by rw [hX0, List.append_nil, List.take_append_drop]
    have hmv : (X0.drop (i * 22)).take ((n - i) * 22) = cs.drop (i * 22) := by
      rw [hX0', List.append_nil, List.append_assoc, List.drop_left' hA, List.take_left' hD]
    obtain ⟨w1, hcp1, r1⟩ := r0.dr.cpSelf (d := (i + m) * 22) (s := i * 22) (k := n - i) (n := n + m - (i + m)) (q := n + m - i) (by omega) (by omega) (by rw [hmv]; exact ones_drop o0 _) (by show min (n + m - i) (n + m - (i + m)) = n - i; omega)
    obtain ⟨X1, hX1⟩ : ∃ X1, X1 = X0.take ((i + m) * 22) ++ (X0.drop (i * 22)).take ((n - i) * 22) ++ X0.drop ((i + m) * 22 + (n - i) * 22) := ⟨_, rfl⟩
    rw [← hX1] at r1
    have lX1 : X1.length = (n + m) * 22 := by rw [hX1]; simp only [List.length_append, List.length_take, List.length_drop, lX0]; omega
    obtain ⟨w2, r2', hcp2, r2⟩ := r1.cpFrom (d := i * 22) (n := n + m - i) hsr (by omega) (by simp [Nat.min_def]; omega)
    obtain ⟨β', g1, g2, g3⟩ := r2.finIn hs t.c0 hβ0 hb0 (N := n + m) (c := c) (by simp only [List.length_append, List.length_take, List.length_drop, lX1, hl]; omega) hroom' (by rw [maxLen_eq]; exact hcm) hsz
    have hfin := lE (a := i * 22) (bl := 0) (m := m * 22) (d := (n - i) * 22) (u := m * 22) (new := new) (X1 := X1) hA rfl hD (by simp) hl (by omega) hX0' (by rw [hX1, show i * 22 + m * 22 = (i + m) * 22 by omega, Nat.add_zero])
    rw [show i * 22 + m * 22 + (n - i) * 22 = (n + m) * 22 by omega] at hfin
    rw [hfin] at g1 g2 g3
    have hov : ∀ lb cb, (callFunc 81 #[.slice va m vc, .slice (some ⟨b0, base0 + (i + m) * 22, none⟩) lb cb]).run Try.prog w = .ok (.value (.bool false)) w := fun lb cb => by
      rcases hsr with ⟨q, _⟩ | ⟨_, _, _, b2, o2, cur2, e2, rfl, q4, q5, q6, _⟩
      · omega
      · exact ov_apart q4 q5 hb0 (by omega)
    refine (ins_D (w2 := w2) (r2 := r2') hm hlt hroom' hcm bm bn hov (fun ty dc sc => hcp1 ty dc sc) (fun ty dc => hcp2 ty dc _)).mono ?_
    rintro e' w' ⟨rfl, rfl⟩
    exact ⟨_, _, rfl, g1, g2, g3⟩
end
end Go.Proofs.Ytpnekpbehcbmkaa
end
noncomputable section
namespace Go.Proofs.Ytpnekpbehcbmkaa
open Go.Eng Go.RowKit Go.Lib Go.Shelf
section
variable {own : Nat → Prop} {β : Bl} {h : AH} {w : World}
theorem rep_all (hs : SimH own β h.H h.nx w) {v0 v3 : AV} {n m i j : Nat} {cs new : List AV} {id : Nat} (t : Two h v0 v3 n m cs new id) (hij : i ≤ j) (hjn : j ≤ n) {c0 c3 : Value} (hv0 : VR w.heap (LL own β h.H) β (.rsl id 0 n 22) c0) (hv3 : VR w.heap (LL own β h.H) β v3 c3) :
    Calls Try.prog 60 #[c0, .int .i64 i, .int .i64 j, c3] w (Fin own β h w (if i = j ∧ m = 0 then .rsl id 0 n 22 else .rsl h.nx 0 (i + m + (n - j)) 22) (if i = j ∧ m = 0 then h else (h.kill id).add (.cells (rX cs new i j)))) := by
  obtain ⟨hl, ho, _, _⟩ := t.alen
  have bn := t.bn; have bm := t.bm; have l0 := t.l0; have o0 := t.o0
  have hsl : ∃ b off c, c0 = .slice (some ⟨b, off, none⟩) n c ∧ n ≤ c ∧ c ≤ maxLen := by
    cases hv0 with
    | rsl _ _ _ _ b' base' cap cur1 e1 hβ' hb' hcap hmax hsz => exact ⟨_, _, _, rfl, hcap, hmax⟩
    | rsl0 => exact ⟨_, _, _, rfl, Nat.le_refl _, by rw [maxLen_eq]; omega⟩
  obtain ⟨bb, off, c, rfl, hnc, hcm⟩ := hsl
  obtain ⟨b0, base0, cur0, e0, hg0, hβ0, hb0, hlen0, hr0⟩ := hs.row t.c0
  have h3 := hv3
  obtain ⟨va, vc, rfl, hsr⟩ := t.src hs hβ0 hv3
  rw [maxLen_eq] at hcm
  by_cases he : i = j
  · subst he
    have hins := ins_all hs t hjn hv0 h3
    rw [show i + m + (n - i) = n + m by omega]
    have e1 : (if m = 0 then AV.rsl id 0 n 22 else .rsl h.nx 0 (n + m) 22) = (if i = i ∧ m = 0 then .rsl id 0 n 22 else .rsl h.nx 0 (n + m) 22) := by simp
    have e2 : (if m = 0 then h else (h.kill id).add (.cells (rX cs new i i))) = (if i = i ∧ m = 0 then h else (h.kill id).add (.cells (rX cs new i i))) := by simp
    rw [e1, e2] at hins
    exact rep_A hjn hnc hcm bn (hins.mono fun e w' hf => ⟨let ⟨cv, _, h1, _⟩ := hf; ⟨cv, h1⟩, hf⟩)
  have hlt : i < j := by omega
  have hne : ¬ (i = j ∧ m = 0) := fun h => he h.1
  rw [if_neg hne, if_neg hne]
  obtain ⟨b, base, c', cur, e, hce, hβ, hb, hnc', hcm', hsz, hr, hvi⟩ := t.at hs hv0 (by omega)
  cases hce
  rw [hβ0] at hβ; cases hβ
  rw [hb0] at hb; cases hb
  have hA : (cs.take (i * 22)).length = i * 22 := by simp; omega
  have hB : ((cs.drop (i * 22)).take ((j - i) * 22)).length = (j - i) * 22 := by simp; omega
  have hD : (cs.drop (j * 22)).length = (n - j) * 22 := by simp; omega
  have hcs := split3' cs (i := i * 22) (j := j * 22) (by omega)
  rw [show j * 22 - i * 22 = (j - i) * 22 by omega] at hcs
  by_cases hjn' : j = n
  · subst hjn'
    have hX : rX cs new i j = cs.take (i * 22) ++ new := by
      unfold rX; rw [List.drop_eq_nil_of_le (by omega), List.append_nil]
    rw [hX, show i + m + (j - j) = i + m by omega]
    by_cases him : i + m < j
    · have r0 := Rw.init (own := own) (β := β) (h := h) (w := w) hb0 hr 0 (by omega)
      rw [List.replicate_zero, List.append_nil] at r0
      obtain ⟨w1, hap, r1⟩ := r0.appIn (i := i) (c := c) (m := m) (vc := vc) hsr (by omega) (by omega)
      obtain ⟨X1, hX1⟩ : ∃ X1, X1 = cs.take (i * 22) ++ new ++ cs.drop (i * 22 + m * 22) := ⟨_, rfl⟩
      have lX1 : X1.length = j * 22 := by rw [hX1]; simp only [List.length_append, List.length_take, List.length_drop, l0, hl]; omega
      rw [← hX1] at r1
      obtain ⟨w2, r1', hcl, r2⟩ := r1.clr (off := (i + m) * 22) (k := j - (i + m)) (by omega)
      obtain ⟨β', g1, g2, g3⟩ := r2.finIn hs t.c0 hβ0 hb0 (N := i + m) (c := c) (by simp only [List.length_append, List.length_take, List.length_drop, List.length_replicate, lX1]; omega) (by omega) (by rw [maxLen_eq]; exact hcm) hsz
      have hfin := lB (a := i * 22) (m := m * 22) hA hl (split2 cs (i * 22)) hX1 (List.replicate ((j - (i + m)) * 22) AV.undef) (X1.drop ((i + m) * 22 + (j - (i + m)) * 22))
      rw [show i * 22 + m * 22 = (i + m) * 22 by omega] at hfin
      rw [hfin] at g1 g2 g3
      refine (rep_B (w2 := w2) (r1 := r1') hlt hnc hcm hcm bm bn hap (fun _ ty sc => hcl ty _ sc (.inl rfl)) (fun hh => by omega)).mono ?_
      rintro e' w' ⟨rfl, rfl⟩
      exact ⟨_, _, rfl, g1, g2, g3⟩
    · obtain ⟨cv, w1, β1, q1, q2, q3, q4⟩ := t.app hs (i := i) (by omega) (hvi i (by omega)) h3
      have hcv : ∃ b2 o2 c2, cv = .slice (some ⟨b2, o2, none⟩) (i + m) c2 ∧ c2 ≤ maxLen := by
        generalize hN : i + m = N at q3
        cases q3 with
        | rsl _ _ _ _ b' base' cap cur1 e1 hβ' hb' hcap hmax hsz => exact ⟨_, _, _, rfl, hmax⟩
        | rsl0 => omega
      obtain ⟨b2, o2, c2, rfl, hc2⟩ := hcv
      refine (rep_B (w2 := w1) (r1 := .tuple #[]) hlt hnc hcm (by rw [maxLen_eq] at hc2; exact hc2) bm bn q1 (fun hh => by omega) (fun _ => rfl)).mono ?_
      rintro e' w' ⟨rfl, rfl⟩
      exact ⟨_, _, rfl, q2, q3, q4⟩
  have hjl : j < n := by omega
  by_cases hroom : c < i + m + (n - j)
  · obtain ⟨c2, W1, ⟨k1, k2⟩, hap, r1⟩ := Rw.newZ (own := own) (β := β) (h := h) (w := w) (id := id) ⟨hlen0, hr⟩ hb0 (i := i) (k := m + (n - j)) (c := c) (by omega) (by omega) (by omega) (by omega) (W := w.drew) rfl rfl rfl rfl
    rw [show i + (m + (n - j)) = i + m + (n - j) by omega] at k1 hap
    have hbw : bb < w.heap.size := hs.lt _ _ _ hβ0
    have hsr2 : Sr own β h w w.heap.size va m new := by
      rcases hsr with q | ⟨q0, q1, q2, b2, o2, cur2, e2, q3, q4, q5, q6⟩
      · exact .inl q
      · exact .inr ⟨q0, q1, q2, b2, o2, cur2, e2, q3, by have := (Array.getElem?_eq_some_iff.1 q5).1; omega, q5, q6⟩
    have hsrD : Sr own β h w w.heap.size (some ⟨bb, off + j * 22, none⟩) (n - j) (cs.drop (j * 22)) := .inr ⟨by omega, hD, ones_drop o0 _, bb, off + j * 22, cur0, e0, rfl, by omega, hb0, by omega, fun q x v h1 h2 => hr (j * 22 + q) x v (by rwa [List.getElem?_drop] at h1) (by rw [← h2]; congr 1; omega)⟩
    have lX : (cs.take (i * 22) ++ List.replicate ((m + (n - j)) * 22) AV.undef).length = (i + m + (n - j)) * 22 := by simp; omega
    obtain ⟨w2, r1', hcA, r2⟩ := r1.cpFrom (d := i * 22) (n := i + m + (n - j) - i) hsr2 (by omega) (by show min _ _ = _; omega)
    obtain ⟨X1, hX1⟩ : ∃ X1, X1 = (cs.take (i * 22) ++ List.replicate ((m + (n - j)) * 22) AV.undef).take (i * 22) ++ new ++ (cs.take (i * 22) ++ List.replicate ((m + (n - j)) * 22) AV.undef).drop (i * 22 + m * 22) := ⟨_, rfl⟩
    have lX1 : X1.length = (i + m + (n - j)) * 22 := by rw [hX1]; simp only [List.length_append, List.length_take, List.length_drop, lX, hl]; omega
    rw [← hX1] at r2
    obtain ⟨w3, r2', hcB, r3⟩ := r2.dr.cpFrom (d := (i + m) * 22) (n := n - j) hsrD (by omega) (by show min _ _ = _; omega)
    obtain ⟨β', g1, g2, g3⟩ := r3.finNew hs id (N := i + m + (n - j)) (c := c2) (by simp only [List.length_append, List.length_take, List.length_drop, lX1, hD]; omega) k1 k2 (Nat.le_refl _)
    have hfin := lC (a := i * 22) (m := m * 22) (d := (n - j) * 22) hA hD hl rfl hX1 (X1.drop ((i + m) * 22 + (n - j) * 22))
    rw [show i * 22 + m * 22 + (n - j) * 22 = (i + m + (n - j)) * 22 by omega, show i * 22 + m * 22 = (i + m) * 22 by omega] at hfin
    rw [hfin] at g1 g2 g3
    refine (rep_C (b2 := w.heap.size) (o2 := 0) (c2 := c2) (w3 := w3) (r2 := r2') hlt hjl hnc hroom k1 hcm (by rw [maxLen_eq] at k2; exact k2) bm bn (fun ty => ?_) (fun ty dc => hcA ty dc _) (fun ty dc sc => hcB ty dc sc)).mono ?_
    · rw [show (i : Int) + (m : Int) + ((n - j : Nat) : Int) - (i : Int) = ((m + (n - j) : Nat) : Int) by omega]; exact hap ty
    · rintro e' w' ⟨rfl, rfl⟩
      exact ⟨_, _, rfl, g1, g2, g3⟩
  have hroom' : i + m + (n - j) ≤ c := by omega
  have hmul : (i + m + (n - j)) * 22 ≤ c * 22 := Nat.mul_le_mul_right _ hroom'
  by_cases him : i + m ≤ j
  · have r0 := Rw.init (own := own) (β := β) (h := h) (w := w) hb0 hr 0 (by omega)
    rw [List.replicate_zero, List.append_nil] at r0
    obtain ⟨w1, r1', hcp1, r1⟩ := r0.dr.cpFrom (d := i * 22) (n := i + m + (n - j) - i) hsr (by omega) (by show min _ _ = _; omega)
    obtain ⟨X1, hX1⟩ : ∃ X1, X1 = cs.take (i * 22) ++ new ++ cs.drop (i * 22 + m * 22) := ⟨_, rfl⟩
    have lX1 : X1.length = n * 22 := by rw [hX1]; simp only [List.length_append, List.length_take, List.length_drop, l0, hl]; omega
    rw [← hX1] at r1
    have hmv : (X1.drop (j * 22)).take ((n - j) * 22) = cs.drop (j * 22) := by
      have q1 : X1.drop (j * 22) = cs.drop (j * 22) := by
        rw [hX1, List.drop_append, List.drop_eq_nil_of_le (by simp only [List.length_append, List.length_take, l0, hl]; omega), List.nil_append, List.drop_drop]
        congr 1
        simp only [List.length_append, List.length_take, l0, hl]; omega
      rw [q1, List.take_of_length_le (by omega)]
    obtain ⟨w2, hcp2, r2⟩ := r1.dr.cpSelf (d := (i + m) * 22) (s := j * 22) (k := n - j) (n := n - j) (q := n - j) (by omega) (by omega) (by rw [hmv]; exact ones_drop o0 _) (by show min _ _ = _; omega)
    obtain ⟨X2, hX2⟩ : ∃ X2, X2 = X1.take ((i + m) * 22) ++ (X1.drop (j * 22)).take ((n - j) * 22) ++ X1.drop ((i + m) * 22 + (n - j) * 22) := ⟨_, rfl⟩
    have lX2 : X2.length = n * 22 := by rw [hX2]; simp only [List.length_append, List.length_take, List.length_drop, lX1]; omega
    rw [← hX2] at r2
    obtain ⟨w3, r3', hcl, r3⟩ := r2.clr (off := (i + m + (n - j)) * 22) (k := n - (i + m + (n - j))) (by omega)
    obtain ⟨β', g1, g2, g3⟩ := r3.finIn hs t.c0 hβ0 hb0 (N := i + m + (n - j)) (c := c) (by simp only [List.length_append, List.length_take, List.length_drop, List.length_replicate, lX2]; omega) hroom' (by rw [maxLen_eq]; exact hcm) hsz
    have hfin := lD (a := i * 22) (bl := (j - i) * 22) (m := m * 22) (d := (n - j) * 22) hA hB hD hl (by omega) hcs hX1 (X2 := X2) (R := X1.drop ((i + m) * 22 + (n - j) * 22)) (by rw [hX2, show i * 22 + m * 22 = (i + m) * 22 by omega, show i * 22 + (j - i) * 22 = j * 22 by omega]) (List.replicate ((n - (i + m + (n - j))) * 22) AV.undef) (X2.drop ((i + m + (n - j)) * 22 + (n - (i + m + (n - j))) * 22))
    rw [show i * 22 + m * 22 + (n - j) * 22 = (i + m + (n - j)) * 22 by omega] at hfin
    rw [hfin] at g1 g2 g3
    refine (rep_D (w3 := w3) (r3 := r3') hlt hjl hnc hroom' him hcm bm bn (fun ty dc => hcp1 ty dc _) (fun ty dc sc => hcp2 ty dc sc) (fun ty o sc ho => hcl ty o sc (ho.imp (fun hc => hc) fun hc => by omega))).mono ?_
    rintro e' w' ⟨rfl, rfl⟩
    exact ⟨_, _, rfl, g1, g2, g3⟩
  · have him' : j < i + m := by omega
    have r0 := Rw.init (own := own) (β := β) (h := h) (w := w) hb0 hr ((i + m - j) * 22) (by omega)
    obtain ⟨X0, hX0⟩ : ∃ X0, X0 = cs ++ List.replicate ((i + m - j) * 22) AV.undef := ⟨_, rfl⟩
    rw [← hX0] at r0
    have lX0 : X0.length = (i + m + (n - j)) * 22 := by rw [hX0]; simp; omega
    have hX0' : X0 = cs.take (i * 22) ++ (cs.drop (i * 22)).take ((j - i) * 22) ++ cs.drop (j * 22) ++ List.replicate ((i + m - j) * 22) AV.undef := by rw [hX0, ← hcs]
    have hmv : (X0.drop (j * 22)).take ((n - j) * 22) = cs.drop (j * 22) := by
      rw [hX0, List.drop_append_of_le_length (by omega), List.take_left' hD]
    obtain ⟨w1, hcp1, r1⟩ := r0.dr.dr.cpSelf (d := (i + m) * 22) (s := j * 22) (k := n - j) (n := n - j) (q := n - j) (by omega) (by omega) (by rw [hmv]; exact ones_drop o0 _) (by show min _ _ = _; omega)
    obtain ⟨X1, hX1⟩ : ∃ X1, X1 = X0.take ((i + m) * 22) ++ (X0.drop (j * 22)).take ((n - j) * 22) ++ X0.drop ((i + m) * 22 + (n - j) * 22) := ⟨_, rfl⟩
    rw [← hX1] at r1
    have lX1 : X1.length = (i + m + (n - j)) * 22 := by rw [hX1]; simp only [List.length_append, List.length_take, List.length_drop, lX0]; omega
    obtain ⟨w2, r2', hcp2, r2⟩ := r1.cpFrom (d := i * 22) (n := i + m + (n - j) - i) hsr (by omega) (by show min _ _ = _; omega)
    obtain ⟨β', g1, g2, g3⟩ := r2.finIn hs t.c0 hβ0 hb0 (N := i + m + (n - j)) (c := c) (by simp only [List.length_append, List.length_take, List.length_drop, lX1, hl]; omega) hroom' (by rw [maxLen_eq]; exact hcm) hsz
    have hfin := lE (a := i * 22) (bl := (j - i) * 22) (m := m * 22) (d := (n - j) * 22) (u := (i + m - j) * 22) (new := new) (X1 := X1) hA hB hD (by simp) hl (by omega) hX0' (by rw [hX1, show i * 22 + m * 22 = (i + m) * 22 by omega, show i * 22 + (j - i) * 22 = j * 22 by omega])
    rw [show i * 22 + m * 22 + (n - j) * 22 = (i + m + (n - j)) * 22 by omega] at hfin
    rw [hfin] at g1 g2 g3
    have hov : ∀ lb cb, (callFunc 81 #[.slice (some ⟨bb, off + (i + m) * 22, none⟩) lb cb, .slice va m vc]).run Try.prog w.drew = .ok (.value (.bool false)) w.drew := fun lb cb => by
      rcases hsr with ⟨q, _⟩ | ⟨_, _, _, b2, o2, cur2, e2, rfl, q4, q5, q6, _⟩
      · omega
      · exact ov_apart (W := w.drew) (Ne.symm q4) hb0 q5 (by omega)
    refine (rep_E (w2 := w2) (r2 := r2') hlt hjl hnc hroom' him' hcm bm bn hov (fun ty dc sc => hcp1 ty dc sc) (fun ty dc => hcp2 ty dc _)).mono ?_
    rintro e' w' ⟨rfl, rfl⟩
    exact ⟨_, _, rfl, g1, g2, g3⟩
end
end Go.Proofs.Ytpnekpbehcbmkaa
end
noncomputable section
namespace Go.Proofs.Ytpnekpbehcbmkaa
open Go.Eng
@[simp] theorem kEqn_p1 (h : AH) (neg : Bool) (a b : Nat) : kEqn h .ptr neg (.ptr a b) .nilptr = some (.bool (if neg then true else false), h) := by cases neg <;> rfl
@[simp] theorem kEqn_p2 (h : AH) (neg : Bool) : kEqn h .ptr neg .nilptr .nilptr = some (.bool (if neg then false else true), h) := by cases neg <;> rfl
@[simp] theorem kEqn_s1 (h : AH) (x : List AV) (xs : List (List AV)) : kEqn h .sl false (.psl (x :: xs)) .nilsl = some (.bool false, h) := Eq.trans rfl rfl
theorem flat_get {α : Type} {e : α → List AV} {z : Nat} (he : ∀ a, (e a).length = z) : ∀ (l : List α) (i j : Nat) (a : α), l[i]? = some a → j < z → ((l.map e).flatten)[i * z + j]? = (e a)[j]?
  | [], i, j, a, h, _ => by simp at h
  | x :: l, 0, j, a, h, hj => by
    simp at h; subst h
    simp only [List.map_cons, List.flatten_cons, Nat.zero_mul, Nat.zero_add]
    rw [List.getElem?_append_left (by rw [he]; exact hj)]
  | x :: l, i + 1, j, a, h, hj => by
    simp at h
    simp only [List.map_cons, List.flatten_cons]
    rw [List.getElem?_append_right (by rw [he, Nat.succ_mul]; omega), he]
    rw [show (i + 1) * z + j - z = i * z + j by rw [Nat.succ_mul]; omega]
    exact flat_get he l i j a h hj
theorem frz_rows {α : Type} {e : α → List AV} {z : Nat} (he : ∀ a, (e a).length = z) {h : AH} {n : Bool} {l : List α} {id : Nat} (hc : h.cellsAt id = some ((l.map e).flatten)) (hp : ∀ a ∈ l, ∀ c ∈ e a, Frz h n c c) : Frz h n (.rsl id 0 l.length z) (.psl (l.map e)) := by
  have := Frz.rsl (h := h) (n := n) id 0 z _ (l.map e) hc (by rw [flat_len he]; simp) (fun i y hy => by simp at hy; obtain ⟨a, _, rfl⟩ := hy; exact he a) (fun i y j c d h1 h2 h3 => ?_)
  · simpa using this
  · simp only [List.getElem?_map, Option.map_eq_some_iff] at h1
    obtain ⟨a, ha, rfl⟩ := h1
    have hj : j < z := by rw [← he a]; exact (List.getElem?_eq_some_iff.1 h2).1
    rw [Nat.zero_add, flat_get he l i j a ha hj] at h3
    rw [h3] at h2; cases h2
    exact hp a (List.mem_of_getElem? ha) c (List.mem_of_getElem? h3)
theorem ones_flat {α : Type} {e : α → List AV} (ho : ∀ a, ones (e a) = true) : ∀ (l : List α), ones ((l.map e).flatten) = true
  | [] => rfl
  | a :: l => by
    have h1 := ho a
    have h2 := ones_flat ho l
    unfold ones at h1 h2 ⊢
    rw [List.map_cons, List.flatten_cons, List.all_append, h1, h2]; rfl
def Lite (l : List Cmd) : Prop := l.length ≤ 100000 ∧ ∀ c ∈ l, c.line.gl.length ≤ 1000
theorem Lite.sm {l : List Cmd} (h : Lite l) : SmL l := ⟨by unfold Sm; have := h.1; omega, fun c hc => by have := h.2 c hc; unfold SmC Sm; omega⟩
theorem gls_plain (h : AH) (n : Bool) (g : Gl) : ∀ c ∈ g.enc, Frz h n c c := by
  intro c hc
  simp [Gl.enc] at hc
  rcases hc with rfl | rfl | rfl | rfl | rfl | rfl | rfl | rfl <;> exact .int _ _
theorem kApp_gls (h : AH) (id : Nat) (l : List Gl) (hid : h.cellsAt id = some []) (hl : l.length ≤ 1000) : kApp h 8 64 (.rsl id 0 0 8) (gls l) = some (.rsl h.nx 0 l.length 8, (h.kill id).add (.cells (l.map Gl.enc).flatten)) := by
  have h1 : (l.map Gl.enc).all (fun x => x.length == 8) = true := by simp
  have h2 := ones_flat Gl.ones l
  have h3 : roomy (0 + l.length) 64 = true := roomy_ok _ _ (by omega) (by omega)
  simp only [kApp, aapp, acells, alen, gls, h1, if_true, h2, Bool.not_true, Bool.false_eq_true, if_false, hid, List.length_map, h3, Bool.and_true, decide_true]
  simp [cut]
theorem clone_c (l : List Gl) (hl : l.length ≤ 1000) : Pure Try.prog 86 [gls l] (gls l) := by
  cases l with
  | nil => exact fun h => clone0_d h
  | cons g t =>
    refine .of (by simp [gls_cl]) (C86 (tb_ok []) ?_)
    have hk : kEqn emp .sl false (gls (g :: t)) .nilsl = some (.bool false, emp) := kEqn_s1 _ _ _
    have ha := kApp_gls (emp.add (.cells [])) 0 (g :: t) (by simp) hl
    simp (disch := first | (simp; done) | omega | (simp only [nx_add, nx_set, nx_kill, nx_mk, nx_emp]; omega) | fail) [g86, hk, ha]
    simp only [gls]
    exact frz_rows Gl.len (l := g :: t) (by simp) (fun a _ => gls_plain _ _ a)
def e86 : QE Try.prog := .pure 86 (fun (l : List Gl) => [gls l]) (fun (l : List Gl) => l.length ≤ 1000) (fun (l : List Gl) => gls l) (fun l hx => clone_c l hx)
@[simp ↓] theorem e86_h (l : List (QE Try.prog)) (args : List AV) (h : AH) (Q : AV → AH → Prop) : tb (e86 :: l) 86 args h Q = e86.q args h Q := tb_here e86 l 86 args h Q rfl
@[simp ↓] theorem e86_q (l : List Gl) (h : AH) (Q : AV → AH → Prop) : e86.q [gls l] h Q = ((l.length ≤ 1000) ∧ Q (gls l) h) := (QE.pure_q (x := l) (by rintro _ h; simp at h; simp [h]) h Q)
@[simp] theorem stow_gls (l : List Gl) : stow (gls l) = true := by unfold gls; exact stow_psl _
@[simp] theorem cells_gls (l : List Gl) : (gls l).cells = [gls l] := Eq.trans rfl rfl
@[simp] theorem one_gls (l : List Gl) : (gls l).one = true := Eq.trans rfl rfl
@[simp] theorem Ln.spl (l : Ln) : splice l.enc 9 [gls l.gl] = some l.enc := by cases l; exact Eq.trans rfl rfl
theorem lpl (l : Ln) : ∀ x ∈ l.enc, Plain x := by simp [Ln.enc, Plain.int, gls_pl]
theorem copied_c (l : Ln) (hl : l.gl.length ≤ 1000) : Pure Try.prog 79 [.agg l.enc] (.agg l.enc) := by
  refine .of (by simp [Ln.cl]) (C79 (tb_ok [e86]) ?_)
  simp (disch := first | (simp; done) | omega | (simp only [nx_add, nx_set, nx_kill, nx_mk, nx_emp]; omega) | fail) [g79, hl]
  simp (disch := first | (simp; done) | omega | (simp only [nx_add, nx_set, nx_kill, nx_mk, nx_emp]; omega) | fail) [g79_s1]
  rw [FrzL_iff]
  exact ⟨rfl, fun i c d h1 h2 => by rw [h1] at h2; cases h2; exact lpl l c (List.mem_of_getElem? h1) _⟩
def e79 : QE Try.prog := .pure 79 (fun (l : Ln) => [.agg l.enc]) (fun (l : Ln) => l.gl.length ≤ 1000) (fun (l : Ln) => .agg l.enc) (fun l hx => copied_c l hx)
@[simp ↓] theorem e79_h (l : List (QE Try.prog)) (args : List AV) (h : AH) (Q : AV → AH → Prop) : tb (e79 :: l) 79 args h Q = e79.q args h Q := tb_here e79 l 79 args h Q rfl
@[simp ↓] theorem e79_q (l : Ln) (h : AH) (Q : AV → AH → Prop) : e79.q [.agg l.enc] h Q = ((l.gl.length ≤ 1000) ∧ Q (.agg l.enc) h) := (QE.pure_q (x := l) (by rintro _ h; simp at h; simp [h]) h Q)
def strct (c : Cmd) : Bool := c.kind == 1 || c.kind == 2 || c.kind == 3
theorem structural_c (c : Cmd) : Pure Try.prog 52 [.agg c.enc] (.bool (strct c)) := by
  refine .of (by simp [Cmd.cl]) (C52 (tb_ok []) ?_)
  by_cases q1 : c.kind = 1 <;> by_cases q2 : c.kind = 2 <;> by_cases q3 : c.kind = 3 <;> simp (disch := first | (simp; done) | omega | (simp only [nx_add, nx_set, nx_kill, nx_mk, nx_emp]; omega) | fail) [g52, q1, q2, q3] <;> simp (disch := first | (simp; done) | omega | (simp only [nx_add, nx_set, nx_kill, nx_mk, nx_emp]; omega) | fail) [g52_s1, strct, q1, q2, q3] <;> omega
theorem indexFuncC_c (l : List Cmd) (fn : Nat) (cap : List AV) (p : Cmd → Bool) (hcap : ∀ c ∈ cap, Closed c) (hp : ∀ g ∈ l, Pure Try.prog fn (.agg g.enc :: cap) (.bool (p g))) (hl : Sm l) : Pure Try.prog 74 [cmds l, .func (.func fn) [] cap] (I (idx p l)) := by
  refine .of (by simp [cmds_cl]; exact .func (by simp) hcap) (C74 (tb_ok [eH fn l Cmd.enc cap p hp]) ?_)
  unfold Sm at hl
  simp [g74]
  refine ⟨fun m vs h => ∃ i : Nat, i ≤ l.length ∧ m = l.length - i ∧ vs = [cmds l, .func (.func fn) [] cap, I l.length, I i] ∧ (∀ j (hj : j < i) (hj2 : j < l.length), p l[j] = false) ∧ h = emp, l.length, ⟨0, by simp⟩, ?_⟩
  rintro m vs h ⟨i, hi, rfl, rfl, hn, rfl⟩
  by_cases hlt : i < l.length
  · simp (disch := first | omega | (simp; done) | fail) [g74_l1, hlt]
    refine eH_h hlt ?_
    simp (disch := first | omega | (simp; done) | fail) [g74_j3]
    refine ⟨fun h1 => (idx_some hlt h1 (fun j hj => hn j hj (by omega))).symm, fun h1 => ⟨l.length - (i + 1), by omega, i + 1, by omega, rfl, by simp, fun j hj hj2 => ?_⟩⟩
    by_cases hj3 : j < i
    · exact hn j hj3 hj2
    · obtain rfl : j = i := by omega
      exact h1
  · have : i = l.length := by omega
    subst this
    simp [g74_l1, g74_j3, g74_c2]
    exact (idx_none fun j hj => hn j hj hj).symm
theorem anyStruct_c (l : List Cmd) (hl : Sm l) : Pure Try.prog 53 [cmds l, .func (.func 52) [] []] (.bool (l.any strct)) := by
  refine .of (by simp [cmds_cl]; exact .func (by simp) (by simp)) (C53 (tb_ok [.pure 74 (fun _ : Unit => [cmds l, .func (.func 52) [] []]) (fun _ => True) (fun _ => I (idx strct l)) (fun _ _ => indexFuncC_c l 52 [] strct (by simp) (fun g _ => structural_c g) hl)]) ?_)
  simp [g53]
  rw [tb_here (QE.pure 74 _ _ _ _) [] 74 _ _ _ rfl]
  refine ⟨(), rfl, trivial, ?_⟩
  simp [idx_nonneg]
def e53 : QE Try.prog := .pure 53 (fun (l : List Cmd) => [cmds l, .func (.func 52) [] []]) (fun (l : List Cmd) => Sm l) (fun (l : List Cmd) => .bool (l.any strct)) (fun l hx => anyStruct_c l hx)
@[simp ↓] theorem e53_h (l : List (QE Try.prog)) (args : List AV) (h : AH) (Q : AV → AH → Prop) : tb (e53 :: l) 53 args h Q = e53.q args h Q := tb_here e53 l 53 args h Q rfl
@[simp ↓] theorem e53_q (l : List Cmd) (h : AH) (Q : AV → AH → Prop) : e53.q [cmds l, .func (.func 52) [] []] h Q = ((Sm l) ∧ Q (.bool (l.any strct)) h) := (QE.pure_q (x := l) (by rintro _ h; simp at h; simp [h]) h Q)
def rects (l : List Rect) : AV := .psl (l.map Rect.enc)
def evr : List Rect := [⟨-1048576, -1048576, 1048576, 1048576⟩, ⟨0, -1048576, 1048576, 1048576⟩, ⟨-1048576, 0, 1048576, 1048576⟩, ⟨0, 0, 1048576, 1048576⟩]
def fillC (x y w h c : Int) : Cmd := ⟨4, ⟨x, y, w, h⟩, ⟨0, false, 0, 0, 0⟩, c, [], ⟨0, 0, 0, 0, 0, 0, 0, 0, 0, []⟩⟩
theorem fill_c (x y w h c : Int) : Pure Try.prog 26 [I x, I y, I w, I h, I c] (.agg (fillC x y w h c).enc) := by
  refine .of (by simp [cI]) (C26 (tb_ok []) ?_)
  simp (disch := first | (simp; done) | omega | (simp only [nx_add, nx_set, nx_kill, nx_mk, nx_emp]; omega) | fail) [g26]
  simp [splice, fillC, Cmd.enc, gls]
  exact .nilsl
def e26 : QE Try.prog := .pure 26 (fun (((x, y, w, e, c)) : Int × Int × Int × Int × Int) => [I x, I y, I w, I e, I c]) (fun (((x, y, w, e, c)) : Int × Int × Int × Int × Int) => True) (fun (((x, y, w, e, c)) : Int × Int × Int × Int × Int) => .agg (fillC x y w e c).enc) (fun ⟨x, y, w, e, c⟩ _ => fill_c x y w e c)
@[simp ↓] theorem e26_h (l : List (QE Try.prog)) (args : List AV) (h : AH) (Q : AV → AH → Prop) : tb (e26 :: l) 26 args h Q = e26.q args h Q := tb_here e26 l 26 args h Q rfl
@[simp ↓] theorem e26_t (l : List (QE Try.prog)) (f : Nat) (args : List AV) (h : AH) (Q : AV → AH → Prop) (hf : 26 ≠ f) : tb (e26 :: l) f args h Q = tb l f args h Q := tb_there e26 l f args h Q hf
@[simp ↓] theorem e26_q (x : Int) (y : Int) (w : Int) (e : Int) (c : Int) (h : AH) (Q : AV → AH → Prop) : e26.q [I x, I y, I w, I e, I c] h Q = Q (.agg (fillC x y w e c).enc) h := (QE.pure_q (x := (x, y, w, e, c)) (by rintro ⟨_, _, _, _, _⟩ h; simp at h; simp [h]) h Q).trans (by simp)
def emptyR (r : Rect) : Bool := decide ((vld r).w = 0) || decide ((vld r).h = 0)
theorem empty_c (r : Rect) : Pure Try.prog 77 [.agg r.enc] (.bool (emptyR r)) := by
  refine .of (by simp [Rect.cl]) (C77 (tb_ok [e70]) ?_)
  by_cases q1 : (vld r).w = 0 <;> by_cases q2 : (vld r).h = 0 <;> simp (disch := first | (simp; done) | omega | (simp only [nx_add, nx_set, nx_kill, nx_mk, nx_emp]; omega) | fail) [g77, q1, q2] <;> simp (disch := first | (simp; done) | omega | (simp only [nx_add, nx_set, nx_kill, nx_mk, nx_emp]; omega) | fail) [g77_s1, q1, q2, emptyR]
def e77 : QE Try.prog := .pure 77 (fun (r : Rect) => [.agg r.enc]) (fun (r : Rect) => True) (fun (r : Rect) => .bool (emptyR r)) (fun r _ => empty_c r)
@[simp ↓] theorem e77_h (l : List (QE Try.prog)) (args : List AV) (h : AH) (Q : AV → AH → Prop) : tb (e77 :: l) 77 args h Q = e77.q args h Q := tb_here e77 l 77 args h Q rfl
@[simp ↓] theorem e77_q (r : Rect) (h : AH) (Q : AV → AH → Prop) : e77.q [.agg r.enc] h Q = Q (.bool (emptyR r)) h := (QE.pure_q (x := r) (by rintro _ h; simp at h; simp [h]) h Q).trans (by simp)
end Go.Proofs.Ytpnekpbehcbmkaa
end
noncomputable section
namespace Go.Proofs.Ytpnekpbehcbmkaa
open Go.Eng
def rotR : Nat → Rect → Rect
  | 0, r => r
  | n + 1, r => rotR n ⟨-r.y - r.h, r.x, r.h, r.w⟩
def mirR (t : Tf) (r : Rect) : Rect := ⟨if t.mirror then -r.x - r.w else r.x, r.y, r.w, r.h⟩
def scR (t : Tf) (q : Rect) : Rect := ⟨q.x * t.scale + t.dx, q.y * t.scale + t.dy, q.w * t.scale, q.h * t.scale⟩
def apl (t : Tf) (r : Rect) : Rect := if okT t && okR r then scR t (rotR t.turn.toNat (mirR t r)) else zR
def Box (r : Rect) : Prop := -2097152 ≤ r.x ∧ r.x + r.w ≤ 2097152 ∧ -2097152 ≤ r.y ∧ r.y + r.h ≤ 2097152 ∧ 0 ≤ r.w ∧ 0 ≤ r.h
theorem mirR_box {t : Tf} {r : Rect} (h : okR r = true) : Box (mirR t r) := by
  have := okR_bd h
  unfold Box mirR
  cases t.mirror <;> simp <;> omega
theorem mul_k {a b : Int} (h1 : -4194304 ≤ a) (h2 : a ≤ 4194304) (h3 : 0 ≤ b) (h4 : b ≤ 16) : -67108864 ≤ a * b ∧ a * b ≤ 67108864 := mul_bd (A := 4194304) (B := 16) h1 h2 h3 h4
theorem mul_e {a b : Int} (h1 : -4194304 ≤ a) (h2 : a ≤ 4194304) (h3 : 0 ≤ b) (h4 : b ≤ 16) (h : AH) : kArith h .mul (I a) (I b) = some (I (a * b), h) := by
  obtain ⟨m1, m2⟩ := mul_k h1 h2 h3 h4
  exact kArith_mul h _ _ (Int.le_trans (by decide) m1) (Int.le_trans m2 (by decide))
theorem mul_a {a b d : Int} (h1 : -4194304 ≤ a) (h2 : a ≤ 4194304) (h3 : 0 ≤ b) (h4 : b ≤ 16) (h5 : -1048576 ≤ d) (h6 : d ≤ 1048576) (h : AH) : kArith h .add (I (a * b)) (I d) = some (I (a * b + d), h) := by
  obtain ⟨m1, m2⟩ := mul_k h1 h2 h3 h4
  generalize a * b = p at m1 m2 ⊢
  exact kArith_add h _ _ (by omega) (by omega)
def apI (t : Tf) (r : Rect) (m : Nat) (vs : List AV) (h : AH) : Prop := ∃ (i : Nat) (q : Rect), (i : Int) ≤ t.turn ∧ m = t.turn.toNat - i ∧ vs = [.ptr 0 0, .ptr 1 0, .ptr 2 0, I i] ∧ h.cellsAt 0 = some t.enc ∧ h.cellsAt 1 = some q.enc ∧ h.cellsAt 2 = some [I 0, I 0, I 0, I 0] ∧ rotR (t.turn.toNat - i) q = rotR t.turn.toNat (mirR t r) ∧ Box q
set_option maxHeartbeats 1000000 in
theorem apply_c (t : Tf) (r : Rect) : Pure Try.prog 76 [.agg t.enc, .agg r.enc] (.agg (apl t r).enc) := by
  refine .of (by simp [Tf.cl, Rect.cl]) (C76 (tb_ok [e65, e36]) ?_)
  simp (disch := first | (simp; done) | omega | (simp only [nx_add, nx_set, nx_kill, nx_mk, nx_emp]; omega) | fail) [g76]
  refine ⟨fun vs h => vs = [.ptr 0 0, .ptr 1 0, .ptr 2 0, .bool (!(okT t && okR r))] ∧ h.cellsAt 0 = some t.enc ∧ h.cellsAt 1 = some r.enc ∧ h.cellsAt 2 = some [I 0, I 0, I 0, I 0] ∧ h.nx = 3, ?_, ?_⟩
  · cases q1 : okT t <;> cases q2 : okR r <;> simp (disch := first | (simp; done) | omega | (simp only [nx_add, nx_set, nx_kill, nx_mk, nx_emp]; omega) | fail) [g76_a1, q1, q2] <;> simp (disch := first | (simp; done) | omega | (simp only [nx_add, nx_set, nx_kill, nx_mk, nx_emp]; omega) | fail) [g76_s1, q1, q2]
  rintro vs h ⟨rfl, h0, h1, h2, hn⟩
  cases hab : (okT t && okR r)
  · simp (disch := first | (simp; done) | omega | (simp only [nx_add, nx_set, nx_kill, nx_mk, nx_emp]; omega) | fail) [g76_j7, h0, h1, h2, hn]
    simp [apl, hab, zR, Rect.enc]
  · have ht : okT t = true := by simp at hab; exact hab.1
    have hr : okR r = true := by simp at hab; exact hab.2
    have bt := okT_bd ht
    have br := okR_bd hr
    simp (disch := first | (simp; done) | omega | (simp only [nx_add, nx_set, nx_kill, nx_mk, nx_emp]; omega) | fail) [g76_j7, h0, h1, h2, hn]
    refine ⟨fun vs h => vs = [.ptr 0 0, .ptr 1 0, .ptr 2 0] ∧ h.cellsAt 0 = some t.enc ∧ h.cellsAt 1 = some (mirR t r).enc ∧ h.cellsAt 2 = some [I 0, I 0, I 0, I 0], ?_, ?_⟩
    · cases hm : t.mirror <;> simp (disch := first | (simp; done) | omega | (simp only [nx_add, nx_set, nx_kill, nx_mk, nx_emp]; omega) | fail) [g76_a2, h0, h1, h2, hn, hm, mirR, Rect.enc]
    rintro vs h ⟨rfl, h0, h1, h2⟩
    simp (disch := first | (simp; done) | omega | (simp only [nx_add, nx_set, nx_kill, nx_mk, nx_emp]; omega) | fail) [g76_j6]
    refine ⟨apI t r, t.turn.toNat, ⟨0, mirR t r, by omega, rfl, rfl, h0, h1, h2, rfl, mirR_box hr⟩, ?_⟩
    rintro m vs h ⟨i, q, hi, rfl, rfl, h0, h1, h2, hrq, hb⟩
    obtain ⟨b1, b2, b3, b4, b5, b6⟩ := hb
    by_cases hlt : (i : Int) < t.turn
    · simp (disch := first | (simp; done) | omega | (simp only [nx_add, nx_set, nx_kill, nx_mk, nx_emp]; omega) | fail) [g76_l3, h0, h1, h2, hlt]
      simp (disch := first | (simp; done) | omega | (simp only [nx_add, nx_set, nx_kill, nx_mk, nx_emp]; omega) | fail) [g76_s3, h0, h1, h2, hlt]
      simp (disch := first | (simp; done) | omega | (simp only [nx_add, nx_set, nx_kill, nx_mk, nx_emp]; omega) | fail) [g76_s2, h0, h1, h2, hlt]
      refine ⟨t.turn.toNat - (i + 1), by omega, i + 1, ⟨-q.y - q.h, q.x, q.h, q.w⟩, by omega, rfl, by simp, ?_⟩
      simp (disch := first | (simp; done) | omega | (simp only [nx_add, nx_set, nx_kill, nx_mk, nx_emp]; omega) | fail) [h0, h1, h2, Rect.enc]
      refine ⟨?_, ?_⟩
      · rw [← hrq, show t.turn.toNat - i = (t.turn.toNat - (i + 1)) + 1 by omega]; rfl
      · unfold Box; simp; omega
    · have hz : t.turn.toNat - i = 0 := by omega
      rw [hz] at hrq
      have hs0 : 0 ≤ t.scale := by omega
      have x1 : q.x ≤ 4194304 := by omega
      have x2 : q.y ≤ 4194304 := by omega
      have x3 : q.w ≤ 4194304 := by omega
      have x4 : q.h ≤ 4194304 := by omega
      have y1 : -4194304 ≤ q.x := by omega
      have y2 : -4194304 ≤ q.y := by omega
      have y3 : -4194304 ≤ q.w := by omega
      have y4 : -4194304 ≤ q.h := by omega
      obtain ⟨_, _, _, t4, t5, t6, t7, t8⟩ := bt
      have k1 := fun h => mul_e y1 x1 hs0 t4 h
      have k2 := fun h => mul_e y2 x2 hs0 t4 h
      have k3 := fun h => mul_e y3 x3 hs0 t4 h
      have k4 := fun h => mul_e y4 x4 hs0 t4 h
      have k5 := fun h => mul_a y1 x1 hs0 t4 t5 t6 h
      have k6 := fun h => mul_a y2 x2 hs0 t4 t7 t8 h
      simp (disch := first | (simp; done) | omega | (simp only [nx_add, nx_set, nx_kill, nx_mk, nx_emp]; omega) | fail) [g76_l3, h0, h1, h2, hlt]
      clear x1 x2 x3 x4 y1 y2 y3 y4
      simp (disch := first | (simp; done) | fail) only [g76_j5, g76_c4, xs]
      simp (disch := first | (simp; done) | fail) [g76_c4, h0, h1, h2, k1, k5, -kArith_mul, -kArith_add]
      simp (disch := first | (simp; done) | fail) [g76_s6, h0, h1, h2, k2, k6, -kArith_mul, -kArith_add]
      simp (disch := first | (simp; done) | fail) [g76_s5, h0, h1, h2, k3, -kArith_mul, -kArith_add]
      simp (disch := first | (simp; done) | fail) [g76_s4, h0, h1, h2, k4, -kArith_mul, -kArith_add]
      have : apl t r = scR t q := by
        rw [show q = rotR t.turn.toNat (mirR t r) from hrq]
        unfold apl; rw [if_pos hab]
      rw [this]
      simp [scR, Rect.enc]
def e76 : QE Try.prog := .pure 76 (fun (((t, r)) : Tf × Rect) => [.agg t.enc, .agg r.enc]) (fun (((t, r)) : Tf × Rect) => True) (fun (((t, r)) : Tf × Rect) => .agg (apl t r).enc) (fun ⟨t, r⟩ _ => apply_c t r)
@[simp ↓] theorem e76_h (l : List (QE Try.prog)) (args : List AV) (h : AH) (Q : AV → AH → Prop) : tb (e76 :: l) 76 args h Q = e76.q args h Q := tb_here e76 l 76 args h Q rfl
@[simp ↓] theorem e76_t (l : List (QE Try.prog)) (f : Nat) (args : List AV) (h : AH) (Q : AV → AH → Prop) (hf : 76 ≠ f) : tb (e76 :: l) f args h Q = tb l f args h Q := tb_there e76 l f args h Q hf
@[simp ↓] theorem e76_q (t : Tf) (r : Rect) (h : AH) (Q : AV → AH → Prop) : e76.q [.agg t.enc, .agg r.enc] h Q = Q (.agg (apl t r).enc) h := (QE.pure_q (x := (t, r)) (by rintro ⟨_, _⟩ h; simp at h; simp [h]) h Q).trans (by simp)
end Go.Proofs.Ytpnekpbehcbmkaa
end
noncomputable section
namespace Go.Proofs.Ytpnekpbehcbmkaa
open Go.Eng
def eqfI (a b : List Cmd) (m : Nat) (vs : List AV) (h : AH) : Prop := ∃ i : Nat, i ≤ a.length ∧ m = a.length - i ∧ vs = [cmds b, .func (.func 11) [] [], cmds a, I a.length, I i] ∧ ∀ j (h1 : j < i) (h2 : j < a.length) (h3 : j < b.length), a[j] = b[j]
theorem equalFunc_c (a b : List Cmd) (hx : SmL a ∧ SmL b) : Pure Try.prog 58 [cmds a, cmds b, .func (.func 11) [] []] (.bool (eqD a b)) := by
  refine .of (by simp [cmds_cl]; exact .func (by simp) (by simp)) (C58 (tb_ok [e11]) ?_)
  obtain ⟨ha, hb⟩ := hx
  have ha1 := ha.1; have hb1 := hb.1
  unfold Sm at ha1 hb1
  simp (disch := first | (simp; done) | omega | (simp only [nx_add, nx_set, nx_kill, nx_mk, nx_emp]; omega) | fail) [g58]
  refine ⟨fun hne => ?_, fun heq => ?_⟩
  · simp [eqD]; intro e; exact hne (by rw [e])
  have heq' : a.length = b.length := by omega
  refine ⟨eqfI a b, a.length, ⟨0, by simp⟩, ?_⟩
  rintro m vs h ⟨i, hi, rfl, rfl, hall⟩
  by_cases hlt : i < a.length
  · have hlt2 : i < b.length := by omega
    have s1 : SmC a[i] := ha.2 _ (List.getElem_mem hlt)
    have s2 : SmC b[i] := hb.2 _ (List.getElem_mem hlt2)
    have q1 : ¬ h.nx = h.nx + 1 := by omega
    simp (disch := first | (simp; done) | omega | (simp only [nx_add, nx_set, nx_kill, nx_mk, nx_emp]; omega) | fail) [g58_l1, hlt, hlt2, s1, s2, q1]
    simp (disch := first | (simp; done) | omega | (simp only [nx_add, nx_set, nx_kill, nx_mk, nx_emp]; omega) | fail) [g58_s1, hlt, hlt2, s1, s2, q1]
    refine ⟨fun hne => ?_, fun he => ?_⟩
    · simp [g58_j3, eqD]
      rintro rfl
      simp [eqD] at hne
    · refine ⟨a.length - (i + 1), by omega, i + 1, by omega, rfl, by simp, fun j h1 h2 h3 => ?_⟩
      by_cases hji : j < i
      · exact hall j hji h2 h3
      · obtain rfl : j = i := by omega
        exact eqD_iff.1 he
  · simp (disch := first | (simp; done) | omega | (simp only [nx_add, nx_set, nx_kill, nx_mk, nx_emp]; omega) | fail) [g58_l1, hlt]
    simp (disch := first | (simp; done) | omega | (simp only [nx_add, nx_set, nx_kill, nx_mk, nx_emp]; omega) | fail) [g58_j3, hlt]
    simp (disch := first | (simp; done) | omega | (simp only [nx_add, nx_set, nx_kill, nx_mk, nx_emp]; omega) | fail) [g58_c2, hlt]
    exact eqD_iff.2 (List.ext_getElem heq' fun j h1 h2 => hall j (by omega) h1 h2)
def e58 : QE Try.prog := .pure 58 (fun (((a, b)) : List Cmd × List Cmd) => [cmds a, cmds b, .func (.func 11) [] []]) (fun (((a, b)) : List Cmd × List Cmd) => SmL a ∧ SmL b) (fun (((a, b)) : List Cmd × List Cmd) => .bool (eqD a b)) (fun ⟨a, b⟩ hx => equalFunc_c a b hx)
@[simp ↓] theorem e58_h (l : List (QE Try.prog)) (args : List AV) (h : AH) (Q : AV → AH → Prop) : tb (e58 :: l) 58 args h Q = e58.q args h Q := tb_here e58 l 58 args h Q rfl
@[simp ↓] theorem e58_t (l : List (QE Try.prog)) (f : Nat) (args : List AV) (h : AH) (Q : AV → AH → Prop) (hf : 58 ≠ f) : tb (e58 :: l) f args h Q = tb l f args h Q := tb_there e58 l f args h Q hf
@[simp ↓] theorem e58_q (a : List Cmd) (b : List Cmd) (h : AH) (Q : AV → AH → Prop) : e58.q [cmds a, cmds b, .func (.func 11) [] []] h Q = ((SmL a ∧ SmL b) ∧ Q (.bool (eqD a b)) h) := (QE.pure_q (x := (a, b)) (by rintro ⟨_, _⟩ h; simp at h; simp [h]) h Q)
@[simp] theorem kApp_nr (h : AH) (z bytes id2 off2 m : Nat) (hm : m ≠ 0) : kApp h z bytes .nilsl (.rsl id2 off2 m z) =
    match h.cellsAt id2 with
    | some cs2 => match cut cs2 off2 (m * z) with
      | some new => if ones new = true ∧ roomy m bytes = true then some (.rsl h.nx 0 m z, h.add (.cells new)) else none
      | none => none
    | none => none := by
  simp only [kApp, aapp, acells, alen, if_true]
  cases h2 : h.cellsAt id2 with
  | none => simp
  | some cs2 =>
    simp
    cases h4 : cut cs2 off2 (m * z) with
    | none => simp
    | some new => cases ho : ones new <;> cases hr : roomy m bytes <;> simp [ho, hr, hm]
def grow (v : AV) (h : AH) (z : Nat) {α : Type} (e : α → List AV) (l : List α) : Prop := (l = [] ∧ v = .nilsl) ∨ ∃ id, v = .rsl id 0 l.length z ∧ id < h.nx ∧ h.cellsAt id = some ((l.map e).flatten)
@[simp] theorem Ln.spl12 (c : Cmd) : splice c.enc 12 c.line.enc = some c.enc := by cases c; exact Eq.trans rfl rfl
def clI (l : List Cmd) (m : Nat) (vs : List AV) (h : AH) : Prop := ∃ (i : Nat) (v : AV), i ≤ l.length ∧ m = l.length - i ∧ vs = [v, cmds l, I l.length, I i] ∧ grow v h 22 Cmd.enc (l.take i)
theorem take_snoc {α : Type} (l : List α) (i : Nat) (hi : i < l.length) : l.take (i + 1) = l.take i ++ [l[i]] := by rw [List.take_add_one]; simp [hi]
theorem cloned_c (l : List Cmd) (hl : Lite l) : Pure Try.prog 59 [cmds l] (cmds l) := by
  refine .of (by simp [cmds_cl]) (C59 (tb_ok [e79]) ?_)
  have hl1 := hl.1
  simp (disch := first | (simp; done) | omega | (simp only [nx_add, nx_set, nx_kill, nx_mk, nx_emp]; omega) | fail) [g59]
  refine ⟨clI l, l.length, ⟨0, .nilsl, by omega, rfl, rfl, .inl ⟨by simp, rfl⟩⟩, ?_⟩
  rintro m vs h ⟨i, v, hi, rfl, rfl, hv⟩
  by_cases hlt : i < l.length
  · have hg : l[i].line.gl.length ≤ 1000 := hl.2 _ (List.getElem_mem hlt)
    have hlen : (l.take i).length = i := by simp; omega
    rcases hv with ⟨he, rfl⟩ | ⟨id, rfl, hid, hc⟩
    · have hi0 : i = 0 := by rw [he] at hlen; simpa using hlen.symm
      simp (disch := first | (simp; done) | omega | (simp only [nx_add, nx_set, nx_kill, nx_mk, nx_emp]; omega) | fail) [g59_l1, hlt, hg]
      simp (disch := first | (simp; done) | omega | (simp only [nx_add, nx_set, nx_kill, nx_mk, nx_emp]; omega) | fail) [g59_s1, hlt, hg]
      refine ⟨l.length - (i + 1), by omega, i + 1, _, by omega, rfl, by simp; rfl, .inr ⟨h.nx + 1 + 1, by rw [take_snoc l i hlt, he]; simp, by simp, ?_⟩⟩
      rw [take_snoc l i hlt, he]; simp
    · have q1 : ¬ id = h.nx := by omega
      have q2 : ¬ id = h.nx + 1 := by omega
      rw [hlen]
      have hF2 : ((l.take (i + 1)).map Cmd.enc).flatten = ((l.take i).map Cmd.enc).flatten ++ l[i].enc := by rw [take_snoc l i hlt, List.map_append, List.flatten_append]; simp only [List.map_cons, List.map_nil, List.flatten_cons, List.flatten_nil, List.append_nil]
      have hcut : cut (((l.take i).map Cmd.enc).flatten) 0 (i * 22) = some (((l.take i).map Cmd.enc).flatten) := by
        have := cut_zero_app (α := ((l.take i).map Cmd.enc).flatten) (b := []) (n := i * 22) (by rw [flat_len Cmd.len, hlen])
        rwa [List.append_nil] at this
      have hones : ones (((l.take i).map Cmd.enc).flatten) = true := ones_flat Cmd.ones _
      generalize ((l.take i).map Cmd.enc).flatten = F at hc hF2 hcut hones
      simp (disch := first | (simp; done) | omega | (simp only [nx_add, nx_set, nx_kill, nx_mk, nx_emp]; omega) | fail) [g59_l1, hlt, hg, q1, q2, hc, hcut, hones]
      simp (disch := first | (simp; done) | omega | (simp only [nx_add, nx_set, nx_kill, nx_mk, nx_emp]; omega) | fail) [g59_s1, hlt, hg, q1, q2, hc, hcut, hones]
      refine ⟨l.length - (i + 1), by omega, i + 1, _, by omega, rfl, by simp; rfl, .inr ⟨h.nx + 1 + 1, by rw [show (l.take (i + 1)).length = i + 1 by simp; omega], by simp, ?_⟩⟩
      rw [hF2]; simp
  · have hil : i = l.length := by omega
    subst hil
    rw [List.take_length] at hv
    simp (disch := first | (simp; done) | omega | (simp only [nx_add, nx_set, nx_kill, nx_mk, nx_emp]; omega) | fail) [g59_l1, hlt]
    simp (disch := first | (simp; done) | omega | (simp only [nx_add, nx_set, nx_kill, nx_mk, nx_emp]; omega) | fail) [g59_j3, hlt]
    simp (disch := first | (simp; done) | omega | (simp only [nx_add, nx_set, nx_kill, nx_mk, nx_emp]; omega) | fail) [g59_c2, hlt]
    rcases hv with ⟨rfl, rfl⟩ | ⟨id, rfl, hid, hc⟩
    · exact .nilsl
    · exact frz_rows Cmd.len hc (fun a _ c hc => a.pls c hc h)
def e59 : QE Try.prog := .pure 59 (fun (l : List Cmd) => [cmds l]) (fun (l : List Cmd) => Lite l) (fun (l : List Cmd) => cmds l) (fun l hx => cloned_c l hx)
@[simp ↓] theorem e59_h (l : List (QE Try.prog)) (args : List AV) (h : AH) (Q : AV → AH → Prop) : tb (e59 :: l) 59 args h Q = e59.q args h Q := tb_here e59 l 59 args h Q rfl
@[simp ↓] theorem e59_q (l : List Cmd) (h : AH) (Q : AV → AH → Prop) : e59.q [cmds l] h Q = ((Lite l) ∧ Q (cmds l) h) := (QE.pure_q (x := l) (by rintro _ h; simp at h; simp [h]) h Q)
end Go.Proofs.Ytpnekpbehcbmkaa
end
