/- What the reader of numbers of the laws answers, and what it does to its object. What the reader of numbers of the laws answers, and what it does to its object. The commands that the laws make, as a plain function of the numbers. One round of the laws' maker of commands. -/
import Derived.Test.YtpnekpbehcbmkaaEngDD
set_option linter.unusedSimpArgs false
set_option linter.unusedVariables false
set_option linter.unnecessarySimpa false
noncomputable section
namespace Go.Proofs.Ytpnekpbehcbmkaa
open Go.Eng
/-! The reader of numbers of the laws: what it answers, and what it does to its object. -/
def ints (L : List Int) : AV := .psl (L.map fun x => [I x])
def srcC (L : List Int) (a : Nat) : List AV := [ints L, I a]
def nxA (L : List Int) (a : Nat) : Nat := if a < L.length then a + 1 else a
def nV (L : List Int) (a : Nat) (n : Int) : Int := if a < L.length then (if 0 ≤ (L.getD a 0).tmod n then (L.getD a 0).tmod n else (L.getD a 0).tmod n + n) else 0
def nH (h : AH) (id : Nat) (L : List Int) (a : Nat) : AH := if a < L.length then ⟨(h.set id (.cells (srcC L (a + 1)))).H, h.nx + 27⟩ else ⟨h.H, h.nx + 14⟩
def OkL (L : List Int) : Prop := L.length ≤ 4000
theorem tmod_lt {x n : Int} (hn : 1 ≤ n) : x.tmod n < n := Int.tmod_lt_of_pos x (by omega)
theorem tmod_gt {x n : Int} (hn : 1 ≤ n) : -n < x.tmod n := by
  have h1 := Int.tmod_lt_of_pos (-x) (show 0 < n by omega)
  have h2 : (-x).tmod n = -(x.tmod n) := Int.neg_tmod x n
  omega
theorem nV_ge (L : List Int) (a : Nat) {n : Int} (hn : 1 ≤ n) : 0 ≤ nV L a n := by
  unfold nV
  have := tmod_gt (x := L.getD a 0) hn
  split <;> (try split) <;> omega
theorem nV_lt (L : List Int) (a : Nat) {n : Int} (hn : 1 ≤ n) : nV L a n < n := by
  unfold nV
  have := tmod_lt (x := L.getD a 0) hn
  split <;> (try split) <;> omega
theorem nxA_le (L : List Int) {a : Nat} (h : a ≤ L.length) : nxA L a ≤ L.length := by unfold nxA; split <;> omega
theorem nx_nH (h : AH) (id : Nat) (L : List Int) (a : Nat) : h.nx ≤ (nH h id L a).nx ∧ (nH h id L a).nx ≤ h.nx + 27 := by unfold nH; split <;> simp
theorem get_nH (h : AH) (id : Nat) (L : List Int) (a : Nat) {i : Nat} (hi : i ≠ id) : (nH h id L a).H.get i = h.H.get i := by
  unfold nH; split
  · show (h.set _ _).H.get i = _
    rw [get_set, if_neg hi]
  · rfl
theorem cells_nH {h : AH} {id : Nat} {L : List Int} {a : Nat} (hc : h.cellsAt id = some (srcC L a)) : (nH h id L a).cellsAt id = some (srcC L (nxA L a)) := by
  unfold nH nxA; split
  · exact cellsAt_set_self _ _ _ _ rfl
  · exact hc
theorem kLen_ints (h : AH) (L : List Int) : kLen h (ints L) = some (I L.length, h) := by simp [ints]
theorem kIdx_ints (h : AH) (L : List Int) (a : Nat) (ha : a < L.length) : kIdxA h 1 (ints L) (I a) = some (.pptr [I (L.getD a 0)], h) := kIdxA_psl (by simp [ha]) rfl
theorem n_d {h : AH} {id : Nat} {L : List Int} {a : Nat} {n : Int} (hc : h.cellsAt id = some (srcC L a)) (ha : a ≤ L.length) (hL : OkL L) (h1 : 1 ≤ n) (h2 : n ≤ 100000) : CallD Try.prog 20 [.ptr id 0, I n] h (I (nV L a n)) (nH h id L a) := by
  refine C20 (tb_ok []) ?_
  have hb1 := nV_ge L a h1
  have hb2 := nV_lt L a h1
  have t1 := tmod_gt (x := L.getD a 0) h1
  have t2 := tmod_lt (x := L.getD a 0) h1
  unfold OkL at hL
  have hc' : h.cellsAt id = some [ints L, I a] := hc
  by_cases hlt : a < L.length
  · simp (disch := first | (simp; done) | omega | (simp only [nx_add, nx_set, nx_kill, nx_mk, nx_emp]; omega) | fail) [g20]
    refine ⟨fun vs h' => vs = [.ptr id 0, I n, .bool false] ∧ h' = ⟨h.H, h.nx + 14⟩, ?_, ?_⟩
    · simp (disch := first | (simp; done) | omega | (simp only [nx_add, nx_set, nx_kill, nx_mk, nx_emp]; omega) | fail) [g20_a1, hc', kLen_ints]
      simp (disch := first | (simp; done) | omega | (simp only [nx_add, nx_set, nx_kill, nx_mk, nx_emp]; omega) | fail) [g20_s1, hc', kLen_ints]
      omega
    · rintro vs h' ⟨rfl, rfl⟩
      simp (disch := first | (simp; done) | omega | (simp only [nx_add, nx_set, nx_kill, nx_mk, nx_emp]; omega) | fail) [g20_j4, hc', kLen_ints]
      simp (disch := first | (simp; done) | omega | (simp only [nx_add, nx_set, nx_kill, nx_mk, nx_emp]; omega) | fail) [g20_s3, hc', kIdx_ints _ _ _ hlt]
      have hxe : L[a] = L.getD a 0 := by simp [List.getD, hlt]
      have hv : nV L a n = if 0 ≤ (L.getD a 0).tmod n then (L.getD a 0).tmod n else (L.getD a 0).tmod n + n := by unfold nV; rw [if_pos hlt]
      have hh : nH h id L a = ⟨(h.set id (.cells (srcC L (a + 1)))).H, h.nx + 27⟩ := by unfold nH; rw [if_pos hlt]
      have hn0 : n ≠ 0 := by omega
      rw [hxe, hv, hh]
      generalize L.getD a 0 = x at *
      simp (disch := first | (simp; done) | omega | (simp only [nx_add, nx_set, nx_kill, nx_mk, nx_emp]; omega) | fail) [kArith_rem, hn0, hc']
      simp (disch := first | (simp; done) | omega | (simp only [nx_add, nx_set, nx_kill, nx_mk, nx_emp]; omega) | fail) [g20_s2, hc']
      refine ⟨fun vs h' => vs = [I (if 0 ≤ x.tmod n then x.tmod n else x.tmod n + n)] ∧ h' = ⟨(h.set id (.cells (srcC L (a + 1)))).H, h.nx + 27⟩, ?_, ?_⟩
      · by_cases h0 : 0 ≤ x.tmod n
        · have h0' : ¬ x.tmod n < 0 := by omega
          simp (disch := first | (simp; done) | omega | (simp only [nx_add, nx_set, nx_kill, nx_mk, nx_emp]; omega) | fail) [g20_a2, h0, h0']
          rfl
        · have h0' : x.tmod n < 0 := by omega
          simp (disch := first | (simp; done) | omega | (simp only [nx_add, nx_set, nx_kill, nx_mk, nx_emp]; omega) | fail) [g20_a2, h0, h0']
          rfl
      · rintro vs h' ⟨rfl, rfl⟩
        simp (disch := first | (simp; done) | omega | (simp only [nx_add, nx_set, nx_kill, nx_mk, nx_emp]; omega) | fail) [g20_j3]
  · simp (disch := first | (simp; done) | omega | (simp only [nx_add, nx_set, nx_kill, nx_mk, nx_emp]; omega) | fail) [g20]
    refine ⟨fun vs h' => vs = [.ptr id 0, I n, .bool true] ∧ h' = ⟨h.H, h.nx + 14⟩, ?_, ?_⟩
    · simp (disch := first | (simp; done) | omega | (simp only [nx_add, nx_set, nx_kill, nx_mk, nx_emp]; omega) | fail) [g20_a1, hc', kLen_ints]
      simp (disch := first | (simp; done) | omega | (simp only [nx_add, nx_set, nx_kill, nx_mk, nx_emp]; omega) | fail) [g20_s1, hc', kLen_ints]
      omega
    · rintro vs h' ⟨rfl, rfl⟩
      simp (disch := first | (simp; done) | omega | (simp only [nx_add, nx_set, nx_kill, nx_mk, nx_emp]; omega) | fail) [g20_j4, hc', kLen_ints, nV, nH, hlt]
/-- what a call that reads numbers does to the heap: only the reader's object turns -/
structure Upd (h h1 : AH) (id : Nat) : Prop where
  lo : h.nx ≤ h1.nx
  hi : h1.nx ≤ h.nx + 60
  get : ∀ i, i ≠ id → i < h.nx → h1.H.get i = h.H.get i
  wf : (∀ i, h.nx ≤ i → h.H.get i = none) → ∀ i, h1.nx ≤ i → h1.H.get i = none
theorem upd_nH {h : AH} {id : Nat} {L : List Int} {a : Nat} (hid : id < h.nx) : Upd h (nH h id L a) id := by
  have := nx_nH h id L a
  refine ⟨this.1, by omega, fun i hi _ => get_nH h id L a hi, fun hw i hi => ?_⟩
  rw [get_nH h id L a (by omega)]
  exact hw i (by omega)
def e20 : QE Try.prog := ⟨20, fun args h Q => ∃ id L a n, args = [.ptr id 0, I n] ∧ (h.cellsAt id = some (srcC L a) ∧ a ≤ L.length ∧ OkL L ∧ 1 ≤ n ∧ n ≤ 100000) ∧ Q (I (nV L a n)) (nH h id L a), fun args h Q ⟨id, L, a, n, h1, ⟨h2, h3, h4, h5, h6⟩, h7⟩ => by
  subst h1; exact ⟨_, _, n_d h2 h3 h4 h5 h6, h7⟩⟩
theorem e20_h {tl : List (QE Try.prog)} {id : Nat} {L : List Int} {a : Nat} {n : Int} {h : AH} {Q : AV → AH → Prop} (hx : h.cellsAt id = some (srcC L a) ∧ a ≤ L.length ∧ OkL L ∧ 1 ≤ n ∧ n ≤ 100000) (hq : Q (I (nV L a n)) (nH h id L a)) : tb (e20 :: tl) 20 [.ptr id 0, I n] h Q := by
  rw [tb_here e20 tl 20 _ _ _ rfl]
  exact ⟨id, L, a, n, rfl, hx, hq⟩
@[simp ↓] theorem e20_t (tl : List (QE Try.prog)) (f : Nat) (args : List AV) (h : AH) (Q : AV → AH → Prop) (hf : 20 ≠ f) : tb (e20 :: tl) f args h Q = tb tl f args h Q := tb_there e20 tl f args h Q hf
/-- the reader stands -/
structure Src (h : AH) (id : Nat) (L : List Int) (a : Nat) : Prop where
  c : h.cellsAt id = some (srcC L a)
  le : a ≤ L.length
  ok : OkL L
  lt : id < h.nx
theorem Src.nH {h : AH} {id : Nat} {L : List Int} {a : Nat} (hs : Src h id L a) : Src (nH h id L a) id L (nxA L a) :=
  ⟨cells_nH hs.c, nxA_le L hs.le, hs.ok, Nat.lt_of_lt_of_le hs.lt (nx_nH h id L a).1⟩
theorem N_step {tl : List (QE Try.prog)} {id : Nat} {L : List Int} {a : Nat} {n : Int} {h : AH} {Q : AV → AH → Prop} (hs : Src h id L a) (h1 : 1 ≤ n) (h2 : n ≤ 100000)
    (hq : ∀ h1, Src h1 id L (nxA L a) → Upd h h1 id → Q (I (nV L a n)) h1) : tb (e20 :: tl) 20 [.ptr id 0, I n] h Q :=
  e20_h ⟨hs.c, hs.le, hs.ok, h1, h2⟩ (hq _ hs.nH (upd_nH hs.lt))
theorem r_d {h : AH} {id : Nat} {L : List Int} {a : Nat} {lo hi : Int} (hc : h.cellsAt id = some (srcC L a)) (ha : a ≤ L.length) (hL : OkL L) (h0 : -10000 ≤ lo) (h1 : lo ≤ hi) (h2 : hi ≤ 10000) : CallD Try.prog 21 [.ptr id 0, I lo, I hi] h (I (lo + nV L a (hi - lo + 1))) (nH h id L a) := by
  refine C21 (tb_ok [e20]) ?_
  have hb1 := nV_ge L a (show 1 ≤ hi - lo + 1 by omega)
  have hb2 := nV_lt L a (show 1 ≤ hi - lo + 1 by omega)
  simp (disch := first | (simp; done) | omega | (simp only [nx_add, nx_set, nx_kill, nx_mk, nx_emp]; omega) | fail) [g21]
  refine e20_h ⟨hc, ha, hL, by omega, by omega⟩ ?_
  simp (disch := first | (simp; done) | omega | (simp only [nx_add, nx_set, nx_kill, nx_mk, nx_emp]; omega) | fail)
def e21 : QE Try.prog := ⟨21, fun args h Q => ∃ id L a lo hi, args = [.ptr id 0, I lo, I hi] ∧ (h.cellsAt id = some (srcC L a) ∧ a ≤ L.length ∧ OkL L ∧ -10000 ≤ lo ∧ lo ≤ hi ∧ hi ≤ 10000) ∧ Q (I (lo + nV L a (hi - lo + 1))) (nH h id L a), fun args h Q ⟨id, L, a, lo, hi, h1, ⟨h2, h3, h4, h5, h6, h7⟩, h8⟩ => by
  subst h1; exact ⟨_, _, r_d h2 h3 h4 h5 h6 h7, h8⟩⟩
@[simp ↓] theorem e21_t (tl : List (QE Try.prog)) (f : Nat) (args : List AV) (h : AH) (Q : AV → AH → Prop) (hf : 21 ≠ f) : tb (e21 :: tl) f args h Q = tb tl f args h Q := tb_there e21 tl f args h Q hf
theorem R_step {tl : List (QE Try.prog)} {id : Nat} {L : List Int} {a : Nat} {lo hi m : Int} {h : AH} {Q : AV → AH → Prop} (hs : Src h id L a) (h0 : -10000 ≤ lo) (h1 : lo ≤ hi) (h2 : hi ≤ 10000) (hm : m = hi - lo + 1)
    (hq : ∀ h1, Src h1 id L (nxA L a) → Upd h h1 id → Q (I (lo + nV L a m)) h1) : tb (e21 :: tl) 21 [.ptr id 0, I lo, I hi] h Q := by
  rw [tb_here e21 tl 21 _ _ _ rfl]
  subst hm
  exact ⟨id, L, a, lo, hi, rfl, ⟨hs.c, hs.le, hs.ok, h0, h1, h2⟩, hq _ hs.nH (upd_nH hs.lt)⟩
/-! A new reader. -/
def newL (l : List Int) : List Int := l.take 4000
theorem newL_ok (l : List Int) : OkL (newL l) := by unfold OkL newL; simp; omega
theorem kSl_ints (l : List Int) (hl : 4000 ≤ l.length) (h : AH) : kSl h 1 (ints l) none (some (I 4000)) none = some (ints (newL l), h) := by
  have hall : (l.map fun x => [I x]).all (fun x => x.length == 1) = true := by simp
  have q2 : (4000 : Int) ≤ l.length := by omega
  simp [kSl, aslice, asl, alen, abd, aidx, ints, q2, newL]
theorem new_d {h : AH} {l : List Int} (hl : SmX l) : CallD Try.prog 18 [ints l] h (.ptr h.nx 0) (h.add (.cells (srcC (newL l) 0))) := by
  refine C18 (tb_ok []) ?_
  unfold SmX at hl
  simp (disch := first | (simp; done) | omega | (simp only [nx_add, nx_set, nx_kill, nx_mk, nx_emp]; omega) | fail) [g18, kLen_ints]
  refine ⟨fun vs h' => vs = [ints (newL l)] ∧ h' = h, ?_, ?_⟩
  · by_cases h1 : 4000 < l.length
    · have h1' : ¬ (l.length : Int) ≤ 4000 := by omega
      simp (disch := first | (simp; done) | omega | (simp only [nx_add, nx_set, nx_kill, nx_mk, nx_emp]; omega) | fail) [g18_a1, h1', kSl_ints l (by omega)]
    · have : newL l = l := by unfold newL; rw [List.take_of_length_le (by omega)]
      have h1' : ¬ (4000 : Int) < l.length := by omega
      simp (disch := first | (simp; done) | omega | (simp only [nx_add, nx_set, nx_kill, nx_mk, nx_emp]; omega) | fail) [g18_a1, h1', this]
  · rintro vs h' ⟨rfl, rfl⟩
    simp (disch := first | (simp; done) | omega | (simp only [nx_add, nx_set, nx_kill, nx_mk, nx_emp]; omega) | fail) [g18_j2, ints]
    rfl
end Go.Proofs.Ytpnekpbehcbmkaa
end
noncomputable section
namespace Go.Proofs.Ytpnekpbehcbmkaa
open Go.Eng
def wV (L : List Int) (a : Nat) : List UInt8 := if nV L a 2 = 0 then [] else [UInt8.ofNat (97 + nV L (nxA L a) 4).toNat]
def wA (L : List Int) (a : Nat) : Nat := if nV L a 2 = 0 then nxA L a else nxA L (nxA L a)
def wH (h : AH) (id : Nat) (L : List Int) (a : Nat) : AH := if nV L a 2 = 0 then (nH h id L a).add (.cells []) else (nH ((nH h id L a).add (.cells [.int .u8 0])) id L (nxA L a)).set (nH h id L a).nx (.cells [.int .u8 (97 + nV L (nxA L a) 4)])
theorem w_d {h : AH} {id : Nat} {L : List Int} {a : Nat} (hs : Src h id L a) : CallD Try.prog 50 [.ptr id 0, I 1] h (.str (wV L a)) (wH h id L a) := by
  refine C50 (tb_ok [e20]) ?_
  have hb1 := nV_ge L a (show (1 : Int) ≤ 2 by omega)
  have hb2 := nV_lt L a (show (1 : Int) ≤ 2 by omega)
  simp (disch := first | (simp; done) | omega | (simp only [nx_add, nx_set, nx_kill, nx_mk, nx_emp]; omega) | fail) [g50]
  refine e20_h ⟨hs.c, hs.le, hs.ok, by omega, by omega⟩ ?_
  have hs1 := hs.nH
  have hn1 := nx_nH h id L a
  have hlt := hs.lt
  by_cases h0 : nV L a 2 = 0
  · have hw : wH h id L a = (nH h id L a).add (.cells []) := by unfold wH; rw [if_pos h0]
    have hv : wV L a = [] := by unfold wV; rw [if_pos h0]
    rw [hw, hv, h0]
    generalize nH h id L a = h1 at *
    refine wk_of (v := .rsl h1.nx 0 0 1) (h := h1.add (.cells [])) rfl ?_
    refine ⟨fun m vs h' => m = 0 ∧ vs = [.ptr id 0, I 0, .rsl h1.nx 0 0 1, I 0] ∧ h' = h1.add (.cells []), 0, ?_, ?_⟩
    · simp
    · rintro m vs h' ⟨rfl, rfl, rfl⟩
      simp (disch := first | (simp; done) | omega | (simp only [nx_add, nx_set, nx_kill, nx_mk, nx_emp]; omega) | fail) [g50_l1]
      simp (disch := first | (simp; done) | omega | (simp only [nx_add, nx_set, nx_kill, nx_mk, nx_emp]; omega) | fail) [g50_j3, g50_c2]
      simp [kX, acells, alen, bytesI, cut]
  · have h0' : nV L a 2 = 1 := by omega
    have hw : wH h id L a = (nH ((nH h id L a).add (.cells [.int .u8 0])) id L (nxA L a)).set (nH h id L a).nx (.cells [.int .u8 (97 + nV L (nxA L a) 4)]) := by unfold wH; rw [if_neg h0]
    have hv : wV L a = [UInt8.ofNat (97 + nV L (nxA L a) 4).toNat] := by unfold wV; rw [if_neg h0]
    have hx1 := nV_ge L (nxA L a) (show (1 : Int) ≤ 4 by omega)
    have hx2 := nV_lt L (nxA L a) (show (1 : Int) ≤ 4 by omega)
    rw [hw, hv, h0']
    generalize nH h id L a = h1 at *
    have hltx : id < h1.nx := by omega
    have hsA : Src (h1.add (.cells [.int .u8 0])) id L (nxA L a) := ⟨by rw [cellsAt_add_ne _ _ _ (by omega)]; exact hs1.c, hs1.le, hs1.ok, by simp; omega⟩
    have hcA : (h1.add (.cells [.int .u8 0])).cellsAt h1.nx = some [.int .u8 0] := cellsAt_add_self _ _ _ rfl
    refine wk_of (v := .rsl h1.nx 0 1 1) (h := h1.add (.cells [.int .u8 0])) rfl ?_
    generalize h1.add (.cells [.int .u8 0]) = hA at *
    have hcB : (nH hA id L (nxA L a)).cellsAt h1.nx = some [.int .u8 0] := by rw [cellsAt_congr (get_nH hA id L _ (by omega))]; exact hcA
    refine ⟨fun m vs h' => (m = 1 ∧ vs = [.ptr id 0, I 1, .rsl h1.nx 0 1 1, I 0] ∧ h' = hA) ∨ (m = 0 ∧ vs = [.ptr id 0, I 1, .rsl h1.nx 0 1 1, I 1] ∧ h' = (nH hA id L (nxA L a)).set h1.nx (.cells [.int .u8 (97 + nV L (nxA L a) 4)])), 1, ?_, ?_⟩
    · simp
    · rintro m vs h' (⟨rfl, rfl, rfl⟩ | ⟨rfl, rfl, rfl⟩)
      · simp (disch := first | (simp; done) | omega | (simp only [nx_add, nx_set, nx_kill, nx_mk, nx_emp]; omega) | fail) [g50_l1]
        refine e20_h ⟨hsA.c, hsA.le, hsA.ok, by omega, by omega⟩ ?_
        generalize nH h' id L (nxA L a) = hB at *
        generalize nV L (nxA L a) 4 = x at *
        simp (disch := first | (simp; done) | omega | (simp only [nx_add, nx_set, nx_kill, nx_mk, nx_emp]; omega) | fail) [g50_s1]
        have hwr : IntKind.u8.wrap (97 + x) = 97 + x := by
          obtain rfl | rfl | rfl | rfl : x = 0 ∨ x = 1 ∨ x = 2 ∨ x = 3 := by omega
          all_goals rfl
        rw [hwr, kIdxA_rsl (i := 0) (by omega) (by simp)]
        simp (disch := first | (simp; done) | omega | (simp only [nx_add, nx_set, nx_kill, nx_mk, nx_emp]; omega) | fail) [hcB]
      · simp (disch := first | (simp; done) | omega | (simp only [nx_add, nx_set, nx_kill, nx_mk, nx_emp]; omega) | fail) [g50_l1]
        simp (disch := first | (simp; done) | omega | (simp only [nx_add, nx_set, nx_kill, nx_mk, nx_emp]; omega) | fail) [g50_j3, g50_c2]
        simp [kX, acells, alen, bytesI, cut]
/-- a word is read, too -/
theorem upd_wH {h : AH} {id : Nat} {L : List Int} {a : Nat} (hs : Src h id L a) : Upd h (wH h id L a) id := by
  have u1 := upd_nH (h := h) (L := L) (a := a) hs.lt
  have hn1 := nx_nH h id L a
  have hlt := hs.lt
  unfold wH
  split
  · refine ⟨by simp; omega, by simp; omega, fun i hi hl => ?_, fun hw i hi => ?_⟩
    · rw [get_add, if_neg (by omega)]; exact u1.get i hi hl
    · simp at hi
      rw [get_add, if_neg (by omega)]; exact u1.wf hw i (by omega)
  · generalize nH h id L a = h1 at *
    have u2 := upd_nH (h := h1.add (.cells [.int .u8 0])) (L := L) (a := nxA L a) (id := id) (by simp; omega)
    have hn2 := nx_nH (h1.add (.cells [.int .u8 0])) id L (nxA L a)
    simp at hn2
    refine ⟨by simp; omega, by simp; omega, fun i hi hl => ?_, fun hw i hi => ?_⟩
    · rw [get_set, if_neg (by omega), u2.get i hi (by simp; omega), get_add, if_neg (by omega)]; exact u1.get i hi hl
    · simp at hi
      rw [get_set, if_neg (by omega)]
      refine u2.wf (fun j hj => ?_) i hi
      simp at hj
      rw [get_add, if_neg (by omega)]
      exact u1.wf hw j (by omega)
theorem Src.wH {h : AH} {id : Nat} {L : List Int} {a : Nat} (hs : Src h id L a) : Src (wH h id L a) id L (wA L a) := by
  have hs1 := hs.nH
  have hn1 := nx_nH h id L a
  have hlt := hs.lt
  have hu := upd_wH hs
  refine ⟨?_, ?_, hs.ok, by have := hu.lo; omega⟩
  · unfold Go.Proofs.Ytpnekpbehcbmkaa.wH wA
    split
    · rw [cellsAt_add_ne _ _ _ (by omega)]; exact hs1.c
    · rw [cellsAt_set_ne _ _ _ _ (by omega)]
      exact cells_nH (by rw [cellsAt_add_ne _ _ _ (by omega)]; exact hs1.c)
  · unfold wA; split
    · exact hs1.le
    · exact nxA_le _ hs1.le
def e50 : QE Try.prog := ⟨50, fun args h Q => ∃ id L a, args = [.ptr id 0, I 1] ∧ Src h id L a ∧ Q (.str (wV L a)) (wH h id L a), fun args h Q ⟨id, L, a, h1, h2, h3⟩ => by
  subst h1; exact ⟨_, _, w_d h2, h3⟩⟩
theorem W_step {tl : List (QE Try.prog)} {id : Nat} {L : List Int} {a : Nat} {h : AH} {Q : AV → AH → Prop} (hs : Src h id L a)
    (hq : ∀ h1, Src h1 id L (wA L a) → Upd h h1 id → Q (.str (wV L a)) h1) : tb (e50 :: tl) 50 [.ptr id 0, I 1] h Q := by
  rw [tb_here e50 tl 50 _ _ _ rfl]
  exact ⟨id, L, a, rfl, hs, hq _ hs.wH (upd_wH hs)⟩
end Go.Proofs.Ytpnekpbehcbmkaa
end
noncomputable section
namespace Go.Proofs.Ytpnekpbehcbmkaa
open Go.Eng
/-! The commands that the laws make: a plain function of the numbers. -/
def zTf : Tf := ⟨0, false, 0, 0, 0⟩
def zLn : Ln := ⟨0, 0, 0, 0, 0, 0, 0, 0, 0, []⟩
def clipC (r : Rect) : Cmd := ⟨1, r, zTf, 0, [], zLn⟩
def tfC (t : Tf) : Cmd := ⟨2, zR, t, 0, [], zLn⟩
def popC : Cmd := ⟨3, zR, zTf, 0, [], zLn⟩
def filC (r : Rect) (col : Int) : Cmd := ⟨4, r, zTf, col, [], zLn⟩
def imgC (r : Rect) (s : List UInt8) : Cmd := ⟨6, r, zTf, 0, s, zLn⟩
def glLn (x : Int) (g : List Gl) : Ln := ⟨0, 0, 0, x, 0, 0, 0, 0, 0, g⟩
def glC (r : Rect) (col x : Int) (g : List Gl) : Cmd := ⟨5, r, zTf, col, [], glLn x g⟩
def gM (L : List Int) : Nat → List Gl → Nat → List Gl × Nat
  | 0, g, a => (g, a)
  | k + 1, g, a => gM L k (g ++ [⟨97, 0, 0, 0, nV L a 40, nV L (nxA L a) 12, 0, 0⟩]) (nxA L (nxA L a))
def at4 (L : List Int) (a : Nat) : Nat := nxA L (nxA L (nxA L (nxA L a)))
def rM (L : List Int) (a : Nat) : Rect := ⟨-20 + nV L a 61, -20 + nV L (nxA L a) 61, nV L (nxA L (nxA L a)) 40, nV L (nxA L (nxA L (nxA L a))) 40⟩
def tM (L : List Int) (a : Nat) : Tf := ⟨nV L a 4, decide (nV L (nxA L a) 2 = 1), 1 + nV L (nxA L (nxA L a)) 3, -20 + nV L (nxA L (nxA L (nxA L a))) 41, -20 + nV L (at4 L a) 41⟩
/-- one round: what is appended, how many brackets are open, where the reader stands -/
def sM (L : List Int) (o a : Nat) : List Cmd × Nat × Nat :=
  if nV L (at4 L a) 9 = 0 then ([clipC (rM L a)], o + 1, nxA L (at4 L a))
  else if nV L (at4 L a) 9 = 1 then ([tfC (tM L (nxA L (at4 L a)))], o + 1, nxA L (at4 L (nxA L (at4 L a))))
  else if nV L (at4 L a) 9 = 2 ∨ nV L (at4 L a) 9 = 3 then (if 0 < o then ([popC], o - 1, nxA L (at4 L a)) else ([], o, nxA L (at4 L a)))
  else if nV L (at4 L a) 9 = 4 then ([imgC (rM L a) (wV L (nxA L (at4 L a)))], o, wA L (nxA L (at4 L a)))
  else if nV L (at4 L a) 9 = 5 then
    ([glC (rM L a) (nV L (gM L (nV L (nxA L (nxA L (at4 L a))) 4).toNat [] (nxA L (nxA L (nxA L (at4 L a))))).2 3) (nV L (nxA L (at4 L a)) 5) (gM L (nV L (nxA L (nxA L (at4 L a))) 4).toNat [] (nxA L (nxA L (nxA L (at4 L a))))).1], o, nxA L (gM L (nV L (nxA L (nxA L (at4 L a))) 4).toNat [] (nxA L (nxA L (nxA L (at4 L a))))).2)
  else ([filC (rM L a) (nV L (nxA L (at4 L a)) 4)], o, nxA L (nxA L (at4 L a)))
def lM (L : List Int) : Nat → List Cmd → Nat → Nat → List Cmd × Nat × Nat
  | 0, l, o, a => (l, o, a)
  | i + 1, l, o, a => lM L i (l ++ (sM L o a).1) (sM L o a).2.1 (sM L o a).2.2
/-- the list -/
def cM (L : List Int) (a : Nat) (n : Int) : List Cmd × Nat :=
  ((lM L (nV L a (n + 1)).toNat [] 0 (nxA L a)).1 ++ List.replicate (lM L (nV L a (n + 1)).toNat [] 0 (nxA L a)).2.1 popC, (lM L (nV L a (n + 1)).toNat [] 0 (nxA L a)).2.2)
def flatC (l : List Cmd) : List AV := (l.map Cmd.enc).flatten
/-- old objects stand, but for the reader's -/
structure Gr (h h1 : AH) (id c : Nat) : Prop where
  lo : h.nx ≤ h1.nx
  hi : h1.nx ≤ h.nx + c
  get : ∀ i, i ≠ id → i < h.nx → h1.H.get i = h.H.get i
  wf : WF h1
theorem Gr.refl {h : AH} {id : Nat} (hw : WF h) : Gr h h id 0 := ⟨by omega, by omega, fun _ _ _ => rfl, hw⟩
theorem Gr.upd {h h1 h2 : AH} {id c : Nat} (g : Gr h h1 id c) (u : Upd h1 h2 id) : Gr h h2 id (c + 60) :=
  ⟨by have := g.lo; have := u.lo; omega, by have := g.hi; have := u.hi; omega, fun i hi hl => by rw [u.get i hi (by have := g.lo; omega), g.get i hi hl], u.wf g.wf⟩
theorem Gr.add {h h1 : AH} {id c : Nat} (g : Gr h h1 id c) (o : AObj) : Gr h (h1.add o) id (c + 1) :=
  ⟨by have := g.lo; simp; omega, by have := g.hi; simp; omega, fun i hi hl => by rw [get_add, if_neg (by have := g.lo; omega), g.get i hi hl], g.wf.add o⟩
theorem Gr.set {h h1 : AH} {id c j : Nat} (g : Gr h h1 id c) (o : AObj) (hj : h.nx ≤ j) (hj1 : j < h1.nx) : Gr h (h1.set j o) id c :=
  ⟨by have := g.lo; simpa, by have := g.hi; simpa, fun i hi hl => by rw [get_set, if_neg (by omega), g.get i hi hl], g.wf.set j hj1 o⟩
theorem Gr.bump {h h1 : AH} {id c : Nat} (g : Gr h h1 id c) (n : Nat) (hn : h1.nx ≤ n) (d : Nat) (hd : n ≤ h1.nx + d) : Gr h ⟨h1.H, n⟩ id (c + d) :=
  ⟨by have := g.lo; show h.nx ≤ n; omega, by have := g.hi; show n ≤ _; omega, g.get, g.wf.bump n hn⟩
def LV (h0 h : AH) (lv : AV) (l : List Cmd) : Prop :=
  (lv = .nilsl ∧ l = []) ∨ ∃ id cs, lv = .rsl id 0 l.length 22 ∧ l ≠ [] ∧ h0.nx ≤ id ∧ id < h.nx ∧ h.cellsAt id = some cs ∧ FrzL (rest h h0.nx id) false cs (flatC l)
structure St (h0 h : AH) (sid : Nat) (L : List Int) (a : Nat) (lv : AV) (l : List Cmd) (c : Nat) : Prop where
  src : Src h sid L a
  slt : sid < h0.nx
  gr : Gr h0 h sid c
  list : LV h0 h lv l
theorem wdp_of {h h' : AH} {x : Option (AV × AH)} {v : AV} {c : Rec} {k : AV → Rec → AH → Prop} (hr : x = some (v, h')) (hk : k v c h) : wdp h x c k := by subst hr; exact hk
theorem wda_of {r : Nat} {h : AH} {x : Option (List AV × (Nat → AV))} {cs : List AV} {mk : Nat → AV} {k : AV → Rec → AH → Prop} (hr : x = some (cs, mk)) (hk : k (mk r) (.alloc r cs) (h.set r (.cells cs))) : wda r h x k := by subst hr; exact hk
theorem wde_of {h h' : AH} {x : Option (AV × AH)} {v : AV} {k : AV → Rec → AH → Prop} (hr : x = some (v, h')) (hn : h.nx ≤ h'.nx) (hk : k v (.eff h h') h') : wde h x k := by subst hr; exact ⟨hn, hk⟩
theorem app_step {h0 h h' : AH} {sid : Nat} {L : List Int} {a a' c d t : Nat} {lv : AV} {l : List Cmd} {tc : List AV} {x : Cmd} (hst : St h0 h sid L a lv l c) (hg : Gr h h' sid d) (hs : Src h' sid L a')
    (ht : h.nx ≤ t) (ht' : t < h'.nx) (htc : h'.cellsAt t = some tc) (hlen : tc.length = 22) (ho : ones tc = true) (hf : FrzL (rest h' h.nx t) false tc x.enc) (hl : l.length ≤ 1000) :
    ∃ lv' h'', kApp h' 22 200 lv (.rsl t 0 1 22) = some (lv', h'') ∧ h'.nx ≤ h''.nx ∧ St h0 h'' sid L a' lv' (l ++ [x]) (c + d + 1) := by
  have hlo := hst.gr.lo
  have hlo' := hg.lo
  have hhi := hst.gr.hi
  have hhi' := hg.hi
  have hslt := hst.slt
  have hcut : cut tc 0 22 = some tc := by
    have := cut_zero_app (α := tc) (b := []) (n := 22) hlen
    rwa [List.append_nil] at this
  have hlow : ∀ i cs, (rest h' h.nx t).cellsAt i = some cs → h.nx ≤ i ∧ i ≠ t ∧ i < h'.nx ∧ h'.cellsAt i = some cs := by
    intro i cs hi
    have hgi := cellsAt_get hi
    rw [get_rest] at hgi
    split at hgi
    · cases hgi
    · rename_i hn
      refine ⟨by omega, by omega, ?_, ?_⟩
      · refine Nat.lt_of_not_le fun hle => ?_
        rw [hg.wf i hle] at hgi; cases hgi
      · rw [← hi]; exact (cellsAt_rest (by omega) (by omega)).symm
  rcases hst.list with ⟨rfl, rfl⟩ | ⟨id, cs, rfl, hne, hid, hidl, hcs, hfc⟩
  · refine ⟨.rsl h'.nx 0 1 22, h'.add (.cells tc), ?_, by simp, ?_⟩
    · rw [kApp_nr _ _ _ _ _ _ (by omega)]
      simp [htc, hcut, ho]
    · refine ⟨⟨?_, hs.le, hs.ok, by have := hs.lt; simp; omega⟩, hslt, ?_, .inr ⟨h'.nx, tc, rfl, by simp, by omega, by simp, by simp, ?_⟩⟩
      · rw [cellsAt_add_ne _ _ _ (by have := hs.lt; omega)]; exact hs.c
      · refine ⟨by simp; omega, by simp; omega, fun i hi hl => ?_, hg.wf.add _⟩
        rw [get_add, if_neg (by omega), hg.get i hi (by omega), hst.gr.get i hi hl]
      · have : flatC ([] ++ [x]) = x.enc := by simp [flatC]
        rw [this]
        refine hf.ext fun i cs hi => ?_
        obtain ⟨k1, k2, k3, k4⟩ := hlow i cs hi
        rw [cellsAt_rest (by omega) (by omega), cellsAt_add_ne _ _ _ (by omega)]; exact k4
  · have hcs' : h'.cellsAt id = some cs := by rw [← hcs]; exact cellsAt_congr (hg.get id (by omega) hidl)
    have hlcs : cs.length = l.length * 22 := by rw [((FrzL_iff _ _ _ _).1 hfc).1]; unfold flatC; exact flat_len Cmd.len l
    have hcut' : cut cs 0 (l.length * 22) = some cs := by
      have := cut_zero_app (α := cs) (b := []) (n := l.length * 22) hlcs
      rwa [List.append_nil] at this
    have hro : roomy (l.length + 1) 200 = true := roomy_ok _ _ (by omega) (by omega)
    refine ⟨.rsl h'.nx 0 (l.length + 1) 22, (h'.kill id).add (.cells (cs ++ tc)), ?_, by simp, ?_⟩
    · rw [kApp_rr]
      simp [htc, hcut, ho, hcs', hcut', hro]
    · refine ⟨⟨?_, hs.le, hs.ok, by have := hs.lt; simp; omega⟩, hslt, ?_, .inr ⟨h'.nx, cs ++ tc, by simp, by simp, by omega, by simp, by simp, ?_⟩⟩
      · rw [cellsAt_add_ne _ _ _ (by have := hs.lt; simp; omega), cellsAt_kill_ne _ _ _ (by omega)]; exact hs.c
      · refine ⟨by simp; omega, by simp; omega, fun i hi hl => ?_, (hg.wf.kill id).add _⟩
        rw [get_add, if_neg (by simp; omega), get_kill, if_neg (by omega), hg.get i hi (by omega), hst.gr.get i hi hl]
      · have hfl : flatC (l ++ [x]) = flatC l ++ x.enc := by simp [flatC]
        rw [hfl]
        refine FrzL.app (hfc.ext fun i cs hi => ?_) (hf.ext fun i cs hi => ?_)
        · have hgi := cellsAt_get hi
          rw [get_rest] at hgi
          split at hgi
          · cases hgi
          · rename_i hn
            have hlt : i < h.nx := Nat.lt_of_not_le fun hle => by rw [hst.gr.wf i hle] at hgi; cases hgi
            rw [cellsAt_rest (by omega) (by omega), cellsAt_add_ne _ _ _ (by simp; omega), cellsAt_kill_ne _ _ _ (by omega), ← hi, cellsAt_rest (by omega) (by omega)]
            exact cellsAt_congr (hg.get i (by omega) hlt)
        · obtain ⟨k1, k2, k3, k4⟩ := hlow i cs hi
          rw [cellsAt_rest (by omega) (by omega), cellsAt_add_ne _ _ _ (by simp; omega), cellsAt_kill_ne _ _ _ (by omega)]; exact k4
theorem nil_frz (H : AH) (c : Cmd) (hc : c.line.gl = []) : FrzL H false (c.enc.take 21 ++ [.nilsl]) c.enc := by
  have h2 : c.enc = c.enc.take 21 ++ [gls []] := by rw [← hc]; rfl
  have h1 : FrzL H false (c.enc.take 21) (c.enc.take 21) := by
    rw [FrzL_iff]
    refine ⟨rfl, fun i x y hx hy => ?_⟩
    rw [hx] at hy; cases hy
    exact c.pls x (List.mem_of_mem_take (List.mem_of_getElem? hx)) H
  have h3 : FrzL H false [AV.nilsl] [gls []] := by
    rw [FrzL_iff]
    refine ⟨rfl, fun i x y hx hy => ?_⟩
    match i with
    | 0 => simp at hx hy; subst hx; subst hy; exact .nilsl
    | i + 1 => simp at hx
  have := h1.app h3
  rwa [← h2] at this
end Go.Proofs.Ytpnekpbehcbmkaa
end
noncomputable section
namespace Go.Proofs.Ytpnekpbehcbmkaa
open Go.Eng
theorem St.mono {h0 h : AH} {sid : Nat} {L : List Int} {a : Nat} {lv : AV} {l : List Cmd} {c d : Nat} (hs : St h0 h sid L a lv l c) (hcd : c ≤ d) : St h0 h sid L a lv l d :=
  ⟨hs.src, hs.slt, ⟨hs.gr.lo, by have := hs.gr.hi; omega, hs.gr.get, hs.gr.wf⟩, hs.list⟩
/-- a step that appends nothing -/
theorem St.go {h0 h h' : AH} {sid : Nat} {L : List Int} {a a' c d : Nat} {lv : AV} {l : List Cmd} (hst : St h0 h sid L a lv l c) (hg : Gr h h' sid d) (hs : Src h' sid L a') : St h0 h' sid L a' lv l (c + d) := by
  have hlo := hst.gr.lo
  have hlo' := hg.lo
  have hslt := hst.slt
  refine ⟨hs, hst.slt, ⟨by omega, by have := hst.gr.hi; have := hg.hi; omega, fun i hi hl => by rw [hg.get i hi (by omega), hst.gr.get i hi hl], hg.wf⟩, ?_⟩
  rcases hst.list with h1 | ⟨id, cs, rfl, hne, hid, hidl, hcs, hfc⟩
  · exact .inl h1
  · refine .inr ⟨id, cs, rfl, hne, hid, by omega, by rw [← hcs]; exact cellsAt_congr (hg.get id (by omega) hidl), hfc.ext fun i cs hi => ?_⟩
    have hgi := cellsAt_get hi
    rw [get_rest] at hgi
    split at hgi
    · cases hgi
    · rename_i hn
      have hlt : i < h.nx := Nat.lt_of_not_le fun hle => by rw [hst.gr.wf i hle] at hgi; cases hgi
      rw [cellsAt_rest (by omega) (by omega), ← hi, cellsAt_rest (by omega) (by omega)]
      exact cellsAt_congr (hg.get i (by omega) hlt)
theorem Src.gr {h h' : AH} {sid : Nat} {L : List Int} {a : Nat} (hs : Src h sid L a) (hc : h'.cellsAt sid = h.cellsAt sid) (hn : h.nx ≤ h'.nx) : Src h' sid L a :=
  ⟨by rw [hc]; exact hs.c, hs.le, hs.ok, Nat.lt_of_lt_of_le hs.lt hn⟩
def sP (h0 : AH) (sid : Nat) (L : List Int) (o a : Nat) (l : List Cmd) (i : Int) (c : Nat) (vs : List AV) (h : AH) : Prop :=
  ∃ lv, vs = [.ptr sid 0, lv, I (sM L o a).2.1, I i] ∧ St h0 h sid L (sM L o a).2.2 lv (l ++ (sM L o a).1) (c + 2000)
/-- the glyphs of a run, as they grow -/
def GV (h hh : AH) (b b2 : Nat) (gv : AV) (g : List Gl) : Prop :=
  (gv = .nilsl ∧ g = []) ∨ ∃ gid, gv = .rsl gid 0 g.length 8 ∧ g ≠ [] ∧ h.nx ≤ gid ∧ gid < hh.nx ∧ gid ≠ b ∧ gid ≠ b2 ∧ hh.cellsAt gid = some (g.map Gl.enc).flatten
theorem g_app {h hh : AH} {b b2 t : Nat} {gv : AV} {g : List Gl} {x : Gl} (hv : GV h hh b b2 gv g) (ht : hh.cellsAt t = some x.enc) (hl : g.length ≤ 100) (hn : h.nx ≤ hh.nx) :
    ∃ hh', kApp hh 8 64 gv (.rsl t 0 1 8) = some (.rsl hh.nx 0 (g.length + 1) 8, hh') ∧ hh'.nx = hh.nx + 1 ∧ hh'.cellsAt hh.nx = some ((g ++ [x]).map Gl.enc).flatten ∧
      (∀ j, j < h.nx ∨ j = b ∨ j = b2 → j < hh.nx → hh'.H.get j = hh.H.get j) ∧ (WF hh → WF hh') := by
  have hcut : cut x.enc 0 8 = some x.enc := x.all
  rcases hv with ⟨rfl, rfl⟩ | ⟨gid, rfl, hne, h1, h2, h3, h4, h5⟩
  · refine ⟨hh.add (.cells x.enc), ?_, by simp, by simp, fun j _ hj => by rw [get_add, if_neg (by omega)], fun hw => hw.add _⟩
    rw [kApp_nr _ _ _ _ _ _ (by omega)]
    simp [ht]
  · have hfl : ((g ++ [x]).map Gl.enc).flatten = (g.map Gl.enc).flatten ++ x.enc := by simp
    have hcut' : cut (g.map Gl.enc).flatten 0 (g.length * 8) = some (g.map Gl.enc).flatten := by
      have := cut_zero_app (α := (g.map Gl.enc).flatten) (b := []) (n := g.length * 8) (flat_len Gl.len g)
      rwa [List.append_nil] at this
    have hro : roomy (g.length + 1) 64 = true := roomy_ok _ _ (by omega) (by omega)
    refine ⟨(hh.kill gid).add (.cells ((g.map Gl.enc).flatten ++ x.enc)), ?_, by simp, by rw [hfl]; simp, fun j hj hjl => ?_, fun hw => (hw.kill _).add _⟩
    · rw [kApp_rr]
      simp [ht, h5, hcut', hro]
    · rw [get_add, if_neg (by simp; omega), get_kill, if_neg (by omega)]
def lnC (x : Int) (gv : AV) : List AV := [I 0, I 0, I 0, I x, I 0, I 0, I 0, I 0, I 0, gv]
def gI (h : AH) (sid b b2 : Nat) (L : List Int) (lv : AV) (o : Nat) (i x : Int) (r : Rect) (K a7 : Nat) (m : Nat) (vs : List AV) (hh : AH) : Prop :=
  ∃ (g : List Gl) (a' : Nat) (gv : AV), vs = [.ptr sid 0, lv, I o, I i, .ptr b 0, .ptr b2 0, I m] ∧ Gr h hh sid (600 + 200 * g.length) ∧ Src hh sid L a' ∧ b < hh.nx ∧ b2 < hh.nx ∧ hh.cellsAt b = some [I r.x, I r.y, I r.w, I r.h] ∧ hh.cellsAt b2 = some (lnC x gv) ∧ GV h hh b b2 gv g ∧ gM L m g a' = gM L K [] a7 ∧ g.length + m = K
theorem glyphs {h0 h h7 : AH} {sid b : Nat} {L : List Int} {a a5 o c : Nat} {lv : AV} {l : List Cmd} {i x : Int} {r : Rect} (hst : St h0 h sid L a lv l c) (hl : l.length ≤ 500) (ho : o ≤ 1000) (g7 : Gr h h7 sid 400) (hs7 : Src h7 sid L a5)
    (hbl : h.nx ≤ b) (hb : b < h7.nx) (hbs : b ≠ sid) (hbc : h7.cellsAt b = some [I r.x, I r.y, I r.w, I r.h])
    (hsm : sM L o a = ([glC r (nV L (gM L (nV L a5 4).toNat [] (nxA L a5)).2 3) x (gM L (nV L a5 4).toNat [] (nxA L a5)).1], o, nxA L (gM L (nV L a5 4).toNat [] (nxA L a5)).2)) :
    g19_s10 (tb [e20, e21, e50]) (.ptr sid 0) lv (I o) (I i) (.ptr b 0) (I x) h7 (sP h0 sid L o a l i c) := by
  have hsl := hst.src.lt
  have h7l := hs7.lt
  simp (disch := first | (simp; done) | omega | (simp only [nx_add, nx_set, nx_kill, nx_mk, nx_emp]; omega) | fail) [g19_s10]
  obtain ⟨h8, hh8⟩ : ∃ h8, h8 = (h7.add (.cells [I 0, I 0, I 0, I 0, I 0, I 0, I 0, I 0, I 0, .nilsl])).set h7.nx (.cells (lnC x .nilsl)) := ⟨_, rfl⟩
  have g8 : Gr h h8 sid 401 := by rw [hh8]; exact (g7.add _).set _ g7.lo (by simp)
  have hs8 : Src h8 sid L a5 := hs7.gr (by rw [hh8, cellsAt_set_ne _ _ _ _ (by omega), cellsAt_add_ne _ _ _ (by omega)]) (by rw [hh8]; simp)
  have hb8 : h8.cellsAt h7.nx = some (lnC x .nilsl) := by rw [hh8]; simp
  have hb8' : h7.nx < h8.nx := by rw [hh8]; simp
  have hb8b : h8.cellsAt b = some [I r.x, I r.y, I r.w, I r.h] := by rw [hh8, cellsAt_set_ne _ _ _ _ (by omega), cellsAt_add_ne _ _ _ (by omega)]; exact hbc
  have hb2 : h.nx ≤ h7.nx := g7.lo
  have hb2s : h7.nx ≠ sid := by omega
  have hbb : b ≠ h7.nx := by omega
  have hb8'' : b < h8.nx := by omega
  rw [show (h7.add (.cells [AV.int IntKind.i64 0, AV.int IntKind.i64 0, AV.int IntKind.i64 0, AV.int IntKind.i64 0, AV.int IntKind.i64 0, AV.int IntKind.i64 0, AV.int IntKind.i64 0, AV.int IntKind.i64 0, AV.int IntKind.i64 0, AV.nilsl])).set h7.nx (.cells [AV.int IntKind.i64 0, AV.int IntKind.i64 0, AV.int IntKind.i64 0, AV.int IntKind.i64 x, AV.int IntKind.i64 0, AV.int IntKind.i64 0, AV.int IntKind.i64 0, AV.int IntKind.i64 0, AV.int IntKind.i64 0, AV.nilsl]) = h8 from hh8.symm]
  clear hh8
  generalize h7.nx = b2 at *
  have hk1 := nV_ge L a5 (show (1 : Int) ≤ 4 by omega)
  have hk2 := nV_lt L a5 (show (1 : Int) ≤ 4 by omega)
  obtain ⟨K, hK⟩ : ∃ K, K = (nV L a5 4).toNat := ⟨_, rfl⟩
  have hKi : nV L a5 4 = (K : Int) := by omega
  have hK3 : K ≤ 3 := by omega
  rw [← hK] at hsm
  refine N_step hs8 (by omega) (by omega) fun h9 hs9 u9 => ?_
  rw [hKi]
  have hc9 : ∀ j, j ≠ sid → j < h8.nx → h9.cellsAt j = h8.cellsAt j := fun j h1 h2 => cellsAt_congr (u9.get j h1 h2)
  refine ⟨gI h sid b b2 L lv o i x r K (nxA L a5), K, ⟨[], nxA L a5, .nilsl, rfl, ?_, hs9, by have := u9.lo; omega, by have := u9.lo; omega, by rw [hc9 _ hbs hb8'']; exact hb8b, by rw [hc9 _ hb2s hb8']; exact hb8, .inl ⟨rfl, rfl⟩, rfl, by simp⟩, ?_⟩
  · have := g8.upd u9
    exact ⟨this.lo, by have := this.hi; simp; omega, this.get, this.wf⟩
  rintro m vs hh ⟨g, a', gv, rfl, gg, hsg, hbn, hb2n, hcb, hcb2, hgv, hgm, hgk⟩
  by_cases hm : 0 < m
  · have hm' : (0 : Int) < m := by omega
    obtain ⟨m, rfl⟩ : ∃ k, m = k + 1 := ⟨m - 1, by omega⟩
    simp (disch := first | (simp; done) | omega | (simp only [nx_add, nx_set, nx_kill, nx_mk, nx_emp]; omega) | fail) [g19_l2, hm', hcb2, lnC]
    refine N_step (hsg.gr rfl (by simp)) (by omega) (by omega) fun p hp up => ⟨up.lo, ?_⟩
    refine N_step hp (by omega) (by omega) fun q hq uq => ⟨uq.lo, ?_⟩
    have lp : hh.nx + 11 ≤ p.nx := up.lo
    have lq := uq.lo
    have hp' : p.nx ≤ hh.nx + 11 + 60 := up.hi
    have hq' := uq.hi
    have glo := gg.lo
    have ghi := gg.hi
    have same : ∀ j, j ≠ sid → j < hh.nx → q.H.get j = hh.H.get j := fun j h1 h2 => by
      rw [uq.get j h1 (by omega), up.get j h1 (by show j < hh.nx + 11; omega)]
    have wq : WF q := uq.wf (up.wf (gg.wf.bump _ (by omega)))
    obtain ⟨y, hy⟩ : ∃ y : Gl, y = ⟨97, 0, 0, 0, nV L a' 40, nV L (nxA L a') 12, 0, 0⟩ := ⟨_, rfl⟩
    refine wdp_of (v := .agg y.enc) (h' := q) (by rw [hy]; rfl) ?_
    simp only [g19_s8]
    refine wda_of (cs := y.enc) (mk := fun r => .rsl r 0 1 8) (by rw [hy]; rfl) ?_
    obtain ⟨q1, hq1⟩ : ∃ q1, q1 = q.set (hh.nx + 7) (.cells y.enc) := ⟨_, rfl⟩
    have same1 : ∀ j, j ≠ sid → j < hh.nx → q1.H.get j = hh.H.get j := fun j h1 h2 => by rw [hq1, get_set, if_neg (by omega)]; exact same j h1 h2
    have hn1 : q1.nx = q.nx := by rw [hq1]; simp
    have hgv1 : GV h q1 b b2 gv g := by
      rcases hgv with h1 | ⟨gid, h1, h2, h3, h4, h5, h6, h7⟩
      · exact .inl h1
      · exact .inr ⟨gid, h1, h2, h3, by omega, h5, h6, by rw [cellsAt_congr (same1 gid (by omega) h4)]; exact h7⟩
    have ht1 : q1.cellsAt (hh.nx + 7) = some y.enc := by rw [hq1]; simp
    obtain ⟨q2, k1, k2, k3, k4, k5⟩ := g_app hgv1 ht1 (by omega) (by omega)
    have wq2 : WF q2 := k5 (by rw [hq1]; exact wq.set _ (by omega) _)
    rw [← hq1]
    refine wde_of k1 (by omega) ?_
    have hb2q : q2.cellsAt b2 = some [I 0, I 0, I 0, I x, I 0, I 0, I 0, I 0, I 0, gv] := by rw [cellsAt_congr (k4 b2 (.inr (.inr rfl)) (by omega)), cellsAt_congr (same1 b2 hb2s hb2n)]; exact hcb2
    have hbq : q2.cellsAt b = some [I r.x, I r.y, I r.w, I r.h] := by rw [cellsAt_congr (k4 b (.inr (.inl rfl)) (by omega)), cellsAt_congr (same1 b hbs hbn)]; exact hcb
    have r1 : recOk (.read b2) (.eff ⟨hh.H, hh.nx + 11⟩ p) = true := recOk_rd (up.get b2 hb2s (by show b2 < hh.nx + 11; omega)).symm
    have r2 : recOk (.read b2) (.eff p q) = true := recOk_rd (uq.get b2 hb2s (by omega)).symm
    have r3 : recOk (.read b2) (.alloc (hh.nx + 7) y.enc) = true := by simp; omega
    simp (disch := first | (simp; done) | omega | (simp only [nx_add, nx_set, nx_kill, nx_mk, nx_emp]; omega) | fail) [hb2q, r1, r2, r3]
    refine ⟨m, by omega, g ++ [y], nxA L (nxA L a'), .rsl q1.nx 0 (g.length + 1) 8, rfl, ⟨by simp; omega, by simp; omega, fun j h1 h2 => ?_, wq2.set _ (by omega) _⟩, ⟨?_, hq.le, hq.ok, by simp; omega⟩, by simp; omega, by simp; omega, ?_, ?_, ?_, ?_, by simp; omega⟩
    · rw [get_set, if_neg (by omega), k4 j (.inl h2) (by omega), same1 j h1 (by omega), gg.get j h1 h2]
    · rw [cellsAt_set_ne _ _ _ _ (by omega), cellsAt_congr (k4 sid (.inl hsl) (by omega)), hq1, cellsAt_set_ne _ _ _ _ (by omega)]; exact hq.c
    · rw [cellsAt_set_ne _ _ _ _ (by omega)]; exact hbq
    · rw [cellsAt_set_self _ _ _ _ rfl]; rfl
    · refine .inr ⟨q1.nx, by simp, by simp, by omega, by simp; omega, by omega, by omega, ?_⟩
      rw [cellsAt_set_ne _ _ _ _ (by omega)]; exact k3
    · rw [← hgm, hy]; rfl
  · obtain rfl : m = 0 := by omega
    simp (disch := first | (simp; done) | omega | (simp only [nx_add, nx_set, nx_kill, nx_mk, nx_emp]; omega) | fail) [g19_l2]
    simp (disch := first | (simp; done) | omega | (simp only [nx_add, nx_set, nx_kill, nx_mk, nx_emp]; omega) | fail) [g19_j4, g19_c3, hcb]
    have hgm' : gM L K [] (nxA L a5) = (g, a') := hgm.symm
    rw [hgm'] at hsm
    refine N_step (hsg.gr rfl (by simp)) (by omega) (by omega) fun p hp up => ⟨up.lo, ?_⟩
    have lp : hh.nx + 9 ≤ p.nx := up.lo
    have hp' : p.nx ≤ hh.nx + 9 + 60 := up.hi
    have glo := gg.lo
    have ghi := gg.hi
    have same : ∀ j, j ≠ sid → j < hh.nx → p.H.get j = hh.H.get j := fun j h1 h2 => up.get j h1 (by show j < hh.nx + 9; omega)
    have wp : WF p := up.wf (gg.wf.bump _ (by omega))
    have hcb2p : p.cellsAt b2 = some (lnC x gv) := by rw [cellsAt_congr (same b2 hb2s hb2n)]; exact hcb2
    refine wdp_of (v := .agg (lnC x gv)) (h' := p) (by rw [hcb2p]; rfl) ?_
    obtain ⟨X, hX⟩ : ∃ X, X = glC r (nV L a' 3) x g := ⟨_, rfl⟩
    refine wdp_of (v := .agg (X.enc.take 21 ++ [gv])) (h' := p) (by rw [hX]; rfl) ?_
    refine wda_of (cs := X.enc.take 21 ++ [gv]) (mk := fun r => .rsl r 0 1 22) (by rw [hX]; rfl) ?_
    obtain ⟨p1, hp1⟩ : ∃ p1, p1 = p.set (hh.nx + 6) (.cells (X.enc.take 21 ++ [gv])) := ⟨_, rfl⟩
    have gp1 : Gr h p1 sid 1300 := by
      have := ((gg.bump (hh.nx + 9) (by omega) 9 (by omega)).upd up).set (.cells (X.enc.take 21 ++ [gv])) (j := hh.nx + 6) (by omega) (by omega)
      rw [hp1]
      exact ⟨this.lo, by have := this.hi; omega, this.get, this.wf⟩
    have hsp1 : Src p1 sid L (nxA L a') := hp.gr (by rw [hp1, cellsAt_set_ne _ _ _ _ (by omega)]) (by rw [hp1]; simp)
    have hn1 : p1.nx = p.nx := by rw [hp1]; simp
    have hfz : FrzL (rest p1 h.nx (hh.nx + 6)) false (X.enc.take 21 ++ [gv]) X.enc := by
      have hXg : X.line.gl = g := by rw [hX]; rfl
      rcases hgv with ⟨rfl, rfl⟩ | ⟨gid, rfl, q2, q3, q4, q5, q6, q7⟩
      · exact nil_frz _ X hXg
      · have h2 : X.enc = X.enc.take 21 ++ [gls g] := by rw [← hXg]; rfl
        have h1 : FrzL (rest p1 h.nx (hh.nx + 6)) false (X.enc.take 21) (X.enc.take 21) := by
          rw [FrzL_iff]
          refine ⟨rfl, fun i x y hx hy => ?_⟩
          rw [hx] at hy; cases hy
          exact X.pls x (List.mem_of_mem_take (List.mem_of_getElem? hx)) _
        have h3 : FrzL (rest p1 h.nx (hh.nx + 6)) false [AV.rsl gid 0 g.length 8] [gls g] := by
          rw [FrzL_iff]
          refine ⟨rfl, fun i x y hx hy => ?_⟩
          match i with
          | 0 =>
            simp at hx hy; subst hx; subst hy
            refine frz_rows Gl.len (l := g) ?_ (fun y _ c hc => by simp [Gl.enc] at hc; rcases hc with rfl | rfl | rfl | rfl | rfl | rfl | rfl | rfl <;> exact .int _ _)
            rw [cellsAt_rest (by omega) (by omega), hp1, cellsAt_set_ne _ _ _ _ (by omega), cellsAt_congr (same gid (by omega) q4)]
            exact q7
          | i + 1 => simp at hx
        have h4 := h1.app h3
        rwa [← h2] at h4
    have hones : ones (X.enc.take 21 ++ [gv]) = true := by
      rw [hX]
      rcases hgv with ⟨rfl, rfl⟩ | ⟨gid, rfl, _⟩
      · rfl
      · rfl
    obtain ⟨lv', h'', k1, k2, k3⟩ := app_step (x := X) hst gp1 hsp1 (by omega) (by omega) (by rw [hp1]; simp) (by simp) hones hfz (by omega)
    rw [← hp1]
    refine wde_of k1 k2 ?_
    have r1 : recOk (.read b) (.eff ⟨hh.H, hh.nx + 9⟩ p) = true := recOk_rd (up.get b hbs (by show b < hh.nx + 9; omega)).symm
    have r2 : recOk (.eff ⟨hh.H, hh.nx + 9⟩ p) (.read b2) = true := recOk_rd' (up.get b2 hb2s (by show b2 < hh.nx + 9; omega)).symm
    simp (disch := first | (simp; done) | omega | (simp only [nx_add, nx_set, nx_kill, nx_mk, nx_emp]; omega) | fail) [g19_s9, r1, r2]
    refine ⟨lv', by rw [hsm], ?_⟩
    rw [hsm]
    rw [hX] at k3
    exact k3.mono (by omega)
theorem round {h0 h : AH} {sid : Nat} {L : List Int} {a o c : Nat} {lv : AV} {l : List Cmd} {i : Int} (hst : St h0 h sid L a lv l c) (hl : l.length ≤ 500) (ho : o ≤ 1000) :
    g19_a6 (tb [e20, e21, e50]) (.ptr sid 0) lv (I o) (I i) h (sP h0 sid L o a l i c) := by
  have hs0 := hst.src
  have w0 := hst.gr.wf
  simp (disch := first | (simp; done) | omega | (simp only [nx_add, nx_set, nx_kill, nx_mk, nx_emp]; omega) | fail) [g19_a6]
  refine R_step hs0 (by omega) (by omega) (by omega) rfl fun h1 hs1 u1 => ?_
  have g1 := (Gr.refl (id := sid) w0).upd u1
  simp (disch := first | (simp; done) | omega | (simp only [nx_add, nx_set, nx_kill, nx_mk, nx_emp]; omega) | fail) [g19_s15]
  refine R_step hs1 (by omega) (by omega) (by omega) rfl fun h2 hs2 u2 => ?_
  have g2 := g1.upd u2
  simp (disch := first | (simp; done) | omega | (simp only [nx_add, nx_set, nx_kill, nx_mk, nx_emp]; omega) | fail) [g19_s14]
  refine N_step hs2 (by omega) (by omega) fun h3 hs3 u3 => ?_
  have g3 := g2.upd u3
  simp (disch := first | (simp; done) | omega | (simp only [nx_add, nx_set, nx_kill, nx_mk, nx_emp]; omega) | fail) [g19_s13]
  refine N_step hs3 (by omega) (by omega) fun h4 hs4 u4 => ?_
  have g4' := g3.upd u4
  simp (disch := first | (simp; done) | omega | (simp only [nx_add, nx_set, nx_kill, nx_mk, nx_emp]; omega) | fail) [g19_s12]
  obtain ⟨h5, hh5⟩ : ∃ h5, h5 = (h4.add (.cells [I 0, I 0, I 0, I 0])).set h4.nx (.cells (rM L a).enc) := ⟨_, rfl⟩
  have g5 : Gr h h5 sid 241 := by rw [hh5]; exact (g4'.add _).set _ g4'.lo (by simp)
  have hs5 : Src h5 sid L (at4 L a) := hs4.gr (by rw [hh5, cellsAt_set_ne _ _ _ _ (by have := hs4.lt; omega), cellsAt_add_ne _ _ _ (by have := hs4.lt; omega)]) (by rw [hh5]; simp)
  have hb5 : h5.cellsAt h4.nx = some (rM L a).enc := by rw [hh5]; simp
  have hb5' : h4.nx < h5.nx := by rw [hh5]; simp
  have hbl := g4'.lo
  have hn4 : h4.nx ≠ sid := by have := hs4.lt; omega
  generalize h4.nx = b at *
  rw [show (h4.add (.cells [AV.int IntKind.i64 0, AV.int IntKind.i64 0, AV.int IntKind.i64 0, AV.int IntKind.i64 0])).set b (.cells [AV.int IntKind.i64 (-20 + nV L a 61), AV.int IntKind.i64 (-20 + nV L (nxA L a) 61), AV.int IntKind.i64 (nV L (nxA L (nxA L a)) 40), AV.int IntKind.i64 (nV L (nxA L (nxA L (nxA L a))) 40)]) = h5 from hh5.symm]
  refine N_step hs5 (by omega) (by omega) fun h6 hs6 u6 => ?_
  have g6 := g5.upd u6
  have hb6 : h6.cellsAt b = some (rM L a).enc := by rw [← hb5]; exact cellsAt_congr (u6.get b hn4 hb5')
  have hb6' : b < h6.nx := by have := u6.lo; omega
  clear hh5 hb5 hb5' g5 hs5 u6 g4' u4 hs4 g3 u3 hs3 g2 u2 hs2 g1 u1 hs1
  have hk1 := nV_ge L (at4 L a) (show (1 : Int) ≤ 9 by omega)
  have hk2 := nV_lt L (at4 L a) (show (1 : Int) ≤ 9 by omega)
  have hb7 : h6.cellsAt b = some [I (rM L a).x, I (rM L a).y, I (rM L a).w, I (rM L a).h] := hb6
  generalize hrm : rM L a = r at *
  -- a command of the box alone, appended
  have fin : ∀ {h7 : AH} {t : Nat} {x : Cmd} {d a' : Nat} {o' : Nat}, Gr h h7 sid d → d ≤ 1500 → Src h7 sid L a' → h.nx ≤ t → t < h7.nx → h7.cellsAt t = some (x.enc.take 21 ++ [.nilsl]) → x.line.gl = [] → sM L o a = ([x], o', a') →
      ∃ lv' h'', kApp h7 22 200 lv (.rsl t 0 1 22) = some (lv', h'') ∧ h7.nx ≤ h''.nx ∧ sP h0 sid L o a l i c [.ptr sid 0, lv', I o', I i] h'' := by
    intro h7 t x d a' o' g7 hd hs7 ht ht' hc hgl hsm
    obtain ⟨lv', h'', hk, hn, hst'⟩ := app_step (x := x) hst g7 hs7 ht ht' hc (by simp) (by
      have := x.ones
      unfold Cmd.enc at *; simpa [ones] using this) (nil_frz _ x hgl) (by omega)
    refine ⟨lv', h'', hk, hn, lv', by rw [hsm], ?_⟩
    rw [hsm]
    exact hst'.mono (by omega)
  have finD : ∀ {h6 h7 : AH} {x : Cmd} {z d a' : Nat} {o' : Nat}, Gr h h6 sid d → d ≤ 1000 → Upd ⟨h6.H, h6.nx + z⟩ h7 sid → z ≤ 100 → 5 < z → Src h7 sid L a' → x.line.gl = [] → sM L o a = ([x], o', a') →
      ∃ lv' h'', kApp (h7.set (h6.nx + 5) (.cells (x.enc.take 21 ++ [.nilsl]))) 22 200 lv (.rsl (h6.nx + 5) 0 1 22) = some (lv', h'') ∧ h7.nx ≤ h''.nx ∧ sP h0 sid L o a l i c [.ptr sid 0, lv', I o', I i] h'' := by
    intro h6 h7 x z d a' o' g6 hd u7 hz hz' hs7 hgl hsm
    have hlo : h6.nx + z ≤ h7.nx := u7.lo
    have hlo6 := g6.lo
    have hlt := hs0.lt
    refine fin (((g6.bump (h6.nx + z) (by omega) z (by omega)).upd u7).set _ (by omega) (by omega)) (by omega) (hs7.gr (cellsAt_set_ne _ _ _ _ (by omega)) (by simp)) (by omega) (by simp; omega) (by simp) hgl hsm
  by_cases k0 : nV L (at4 L a) 9 = 0
  · have hsm : sM L o a = ([clipC r], o + 1, nxA L (at4 L a)) := by unfold sM; rw [if_pos k0, hrm]
    simp (disch := first | (simp; done) | omega | (simp only [nx_add, nx_set, nx_kill, nx_mk, nx_emp]; omega) | fail) [k0, hb7]
    simp (disch := first | (simp; done) | omega | (simp only [nx_add, nx_set, nx_kill, nx_mk, nx_emp]; omega) | fail) [g19_s1]
    refine wk_of (v := .agg ((clipC r).enc.take 21 ++ [.nilsl])) (h := h6) rfl ?_
    refine wk_of (v := .rsl h6.nx 0 1 22) (h := h6.add (.cells ((clipC r).enc.take 21 ++ [.nilsl]))) rfl ?_
    obtain ⟨lv', h'', q1, q2, q3⟩ := fin (x := clipC r) (t := h6.nx) (g6.add (.cells ((clipC r).enc.take 21 ++ [.nilsl]))) (by omega) (hs6.gr (cellsAt_add_ne _ _ _ (by have := hs6.lt; omega)) (by simp)) (by omega) (by simp) (by simp) rfl hsm
    exact wk_of q1 q3
  by_cases k1 : nV L (at4 L a) 9 = 1
  · have hsm : sM L o a = ([tfC (tM L (nxA L (at4 L a)))], o + 1, nxA L (at4 L (nxA L (at4 L a)))) := by unfold sM; rw [if_neg k0, if_pos k1]
    generalize nxA L (at4 L a) = a' at *
    simp (disch := first | (simp; done) | omega | (simp only [nx_add, nx_set, nx_kill, nx_mk, nx_emp]; omega) | fail) [k1]
    refine N_step hs6 (by omega) (by omega) fun h7 hs7 u7 => ?_
    simp (disch := first | (simp; done) | omega | (simp only [nx_add, nx_set, nx_kill, nx_mk, nx_emp]; omega) | fail) [g19_s6]
    refine N_step hs7 (by omega) (by omega) fun h8 hs8 u8 => ?_
    simp (disch := first | (simp; done) | omega | (simp only [nx_add, nx_set, nx_kill, nx_mk, nx_emp]; omega) | fail) [g19_s5]
    refine R_step hs8 (by omega) (by omega) (by omega) rfl fun h9 hs9 u9 => ?_
    simp (disch := first | (simp; done) | omega | (simp only [nx_add, nx_set, nx_kill, nx_mk, nx_emp]; omega) | fail) [g19_s4]
    refine R_step hs9 (by omega) (by omega) (by omega) rfl fun h10 hs10 u10 => ?_
    simp (disch := first | (simp; done) | omega | (simp only [nx_add, nx_set, nx_kill, nx_mk, nx_emp]; omega) | fail) [g19_s3]
    refine R_step hs10 (by omega) (by omega) (by omega) rfl fun h11 hs11 u11 => ?_
    have g11 := ((((g6.upd u7).upd u8).upd u9).upd u10).upd u11
    simp (disch := first | (simp; done) | omega | (simp only [nx_add, nx_set, nx_kill, nx_mk, nx_emp]; omega) | fail) [g19_s2]
    have hlo := g11.lo
    refine wk_of (v := .agg ((tfC (tM L a')).enc.take 21 ++ [.nilsl])) (h := h11) rfl ?_
    refine wk_of (v := .rsl h11.nx 0 1 22) (h := h11.add (.cells ((tfC (tM L a')).enc.take 21 ++ [.nilsl]))) rfl ?_
    obtain ⟨lv', h'', q1, q2, q3⟩ := fin (x := tfC (tM L a')) (t := h11.nx) (g11.add (.cells ((tfC (tM L a')).enc.take 21 ++ [.nilsl]))) (by omega) (hs11.gr (cellsAt_add_ne _ _ _ (by have := hs11.lt; omega)) (by simp)) (by omega) (by simp) (by simp) rfl hsm
    exact wk_of q1 q3
  simp (disch := first | (simp; done) | omega | (simp only [nx_add, nx_set, nx_kill, nx_mk, nx_emp]; omega) | fail) [k0, k1]
  refine ⟨fun vs h' => vs = [.ptr sid 0, lv, I o, I i, .ptr b 0, I (nV L (at4 L a) 9), .bool (decide (nV L (at4 L a) 9 = 2 ∨ nV L (at4 L a) 9 = 3))] ∧ h' = h6, ?_, ?_⟩
  · by_cases k2 : nV L (at4 L a) 9 = 2
    · simp (disch := first | (simp; done) | omega | (simp only [nx_add, nx_set, nx_kill, nx_mk, nx_emp]; omega) | fail) [g19_a1, k2]
    · simp (disch := first | (simp; done) | omega | (simp only [nx_add, nx_set, nx_kill, nx_mk, nx_emp]; omega) | fail) [g19_a1, k2]
      rfl
  rintro vs h' ⟨rfl, rfl⟩
  by_cases k2 : nV L (at4 L a) 9 = 2 ∨ nV L (at4 L a) 9 = 3
  · by_cases ho0 : 0 < o
    · have hsm : sM L o a = ([popC], o - 1, nxA L (at4 L a)) := by unfold sM; rw [if_neg k0, if_neg k1, if_pos k2, if_pos ho0]
      have ho0' : (0 : Int) < o := by omega
      simp (disch := first | (simp; done) | omega | (simp only [nx_add, nx_set, nx_kill, nx_mk, nx_emp]; omega) | fail) [g19_j5, k2, ho0, ho0']
      obtain ⟨lv', h'', q1, q2, q3⟩ := fin (x := popC) (g6.add (.cells (popC.enc.take 21 ++ [.nilsl]))) (by omega) (hs6.gr (cellsAt_add_ne _ _ _ (by have := hs6.lt; omega)) (by simp)) (by have := g6.lo; omega) (by simp) (by simp) rfl hsm
      rw [show ((o : Int) - 1) = ((o - 1 : Nat) : Int) by omega]
      exact wk_of q1 q3
    · have hsm : sM L o a = ([], o, nxA L (at4 L a)) := by unfold sM; rw [if_neg k0, if_neg k1, if_pos k2, if_neg ho0]
      have ho0' : ¬ (0 : Int) < o := by omega
      simp (disch := first | (simp; done) | omega | (simp only [nx_add, nx_set, nx_kill, nx_mk, nx_emp]; omega) | fail) [g19_j5, k2, ho0, ho0']
      refine ⟨lv, by rw [hsm], ?_⟩
      rw [hsm, List.append_nil]
      exact (hst.go g6 hs6).mono (by omega)
  by_cases k4 : nV L (at4 L a) 9 = 4
  · have hsm : sM L o a = ([imgC r (wV L (nxA L (at4 L a)))], o, wA L (nxA L (at4 L a))) := by unfold sM; rw [if_neg k0, if_neg k1, if_neg k2, if_pos k4, hrm]
    simp (disch := first | (simp; done) | omega | (simp only [nx_add, nx_set, nx_kill, nx_mk, nx_emp]; omega) | fail) [g19_j5, k4, hb7]
    generalize nxA L (at4 L a) = a' at *
    refine W_step (hs6.gr rfl (by simp)) fun h7 hs7 u7 => ?_
    refine ⟨u7.lo, ?_⟩
    refine wdp_of (v := .agg ((imgC r (wV L a')).enc.take 21 ++ [.nilsl])) (h' := h7) rfl ?_
    refine wda_of (cs := (imgC r (wV L a')).enc.take 21 ++ [.nilsl]) rfl ?_
    obtain ⟨lv', h'', q1, q2, q3⟩ := finD g6 (by omega) u7 (by omega) (by omega) hs7 rfl hsm
    refine wde_of q1 q2 ?_
    have hrec : recOk (.read b) (.eff ⟨h'.H, h'.nx + 8⟩ h7) = true := recOk_rd (u7.get b hn4 (by show b < h'.nx + 8; omega)).symm
    simp (disch := first | (simp; done) | omega | (simp only [nx_add, nx_set, nx_kill, nx_mk, nx_emp]; omega) | fail) [g19_s7, hrec]
    exact q3
  by_cases k5 : nV L (at4 L a) 9 = 5
  · have hsm : sM L o a = ([glC r (nV L (gM L (nV L (nxA L (nxA L (at4 L a))) 4).toNat [] (nxA L (nxA L (nxA L (at4 L a))))).2 3) (nV L (nxA L (at4 L a)) 5) (gM L (nV L (nxA L (nxA L (at4 L a))) 4).toNat [] (nxA L (nxA L (nxA L (at4 L a))))).1], o, nxA L (gM L (nV L (nxA L (nxA L (at4 L a))) 4).toNat [] (nxA L (nxA L (nxA L (at4 L a))))).2) := by
      unfold sM; rw [if_neg k0, if_neg k1, if_neg k2, if_neg k4, if_pos k5, hrm]
    simp (disch := first | (simp; done) | omega | (simp only [nx_add, nx_set, nx_kill, nx_mk, nx_emp]; omega) | fail) [g19_j5, k5]
    generalize nxA L (at4 L a) = a' at *
    refine N_step hs6 (by omega) (by omega) fun h7 hs7 u7 => ?_
    have g7 := g6.upd u7
    have u7lo := u7.lo
    exact glyphs hst hl ho ⟨g7.lo, by have := g7.hi; omega, g7.get, g7.wf⟩ hs7 hbl (by omega) hn4 (by rw [← hb7]; exact cellsAt_congr (u7.get b hn4 hb6')) hsm
  have hsm : sM L o a = ([filC r (nV L (nxA L (at4 L a)) 4)], o, nxA L (nxA L (at4 L a))) := by unfold sM; rw [if_neg k0, if_neg k1, if_neg k2, if_neg k4, if_neg k5, hrm]
  simp (disch := first | (simp; done) | omega | (simp only [nx_add, nx_set, nx_kill, nx_mk, nx_emp]; omega) | fail) [g19_j5, k2, k4, k5, hb7]
  generalize nxA L (at4 L a) = a' at *
  refine N_step (hs6.gr rfl (by simp)) (by omega) (by omega) fun h7 hs7 u7 => ?_
  refine ⟨u7.lo, ?_⟩
  refine wdp_of (v := .agg ((filC r (nV L a' 4)).enc.take 21 ++ [.nilsl])) (h' := h7) rfl ?_
  refine wda_of (cs := (filC r (nV L a' 4)).enc.take 21 ++ [.nilsl]) rfl ?_
  obtain ⟨lv', h'', q1, q2, q3⟩ := finD g6 (by omega) u7 (by omega) (by omega) hs7 rfl hsm
  refine wde_of q1 q2 ?_
  have hrec : recOk (.read b) (.eff ⟨h'.H, h'.nx + 8⟩ h7) = true := recOk_rd (u7.get b hn4 (by show b < h'.nx + 8; omega)).symm
  simp (disch := first | (simp; done) | omega | (simp only [nx_add, nx_set, nx_kill, nx_mk, nx_emp]; omega) | fail) [g19_s11, hrec]
  exact q3
end Go.Proofs.Ytpnekpbehcbmkaa
end
