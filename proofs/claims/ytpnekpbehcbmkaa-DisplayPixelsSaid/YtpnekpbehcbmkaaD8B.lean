/- What the reader of numbers of the laws answers, and what it does to its object. -/
import Derived.Test.YtpnekpbehcbmkaaD7FnsP
import Derived.Test.YtpnekpbehcbmkaaD7W
import Derived.Test.YtpnekpbehcbmkaaEngDD
set_option linter.unusedSimpArgs false
set_option linter.unusedVariables false
set_option linter.unnecessarySimpa false
noncomputable section
namespace Go.Proofs.Ytpnekpbehcbmkaa
open Go.Eng
/-! The reader of numbers of the laws: what it answers, and what it does to its object. -/
def ints (L : List Int) : AV := .psl (L.map fun x => [I x])
def srcC (L : List Int) (a : Nat) : List AV := [ints L, I a]
def nxA (L : List Int) (a : Nat) : Nat := if a < L.length then a + 1 else a
def nV (L : List Int) (a : Nat) (n : Int) : Int := if a < L.length then (if 0 ≤ (L.getD a 0).tmod n then (L.getD a 0).tmod n else (L.getD a 0).tmod n + n) else 0
def nH (h : AH) (id : Nat) (L : List Int) (a : Nat) : AH := if a < L.length then ⟨(h.set id (.cells (srcC L (a + 1)))).H, h.nx + 27⟩ else ⟨h.H, h.nx + 14⟩
def OkL (L : List Int) : Prop := L.length ≤ 4000
theorem tmod_lt {x n : Int} (hn : 1 ≤ n) : x.tmod n < n := Int.tmod_lt_of_pos x (by omega)
theorem tmod_gt {x n : Int} (hn : 1 ≤ n) : -n < x.tmod n := by
  have h1 := Int.tmod_lt_of_pos (-x) (show 0 < n by omega)
  have h2 : (-x).tmod n = -(x.tmod n) := Int.neg_tmod x n
  omega
theorem nV_ge (L : List Int) (a : Nat) {n : Int} (hn : 1 ≤ n) : 0 ≤ nV L a n := by
  unfold nV
  have := tmod_gt (x := L.getD a 0) hn
  split <;> (try split) <;> omega
theorem nV_lt (L : List Int) (a : Nat) {n : Int} (hn : 1 ≤ n) : nV L a n < n := by
  unfold nV
  have := tmod_lt (x := L.getD a 0) hn
  split <;> (try split) <;> omega
theorem nxA_le (L : List Int) {a : Nat} (h : a ≤ L.length) : nxA L a ≤ L.length := by unfold nxA; split <;> omega
theorem nx_nH (h : AH) (id : Nat) (L : List Int) (a : Nat) : h.nx ≤ (nH h id L a).nx ∧ (nH h id L a).nx ≤ h.nx + 27 := by unfold nH; split <;> simp
theorem get_nH (h : AH) (id : Nat) (L : List Int) (a : Nat) {i : Nat} (hi : i ≠ id) : (nH h id L a).H.get i = h.H.get i := by
  unfold nH; split
  · show (h.set _ _).H.get i = _
    rw [get_set, if_neg hi]
  · rfl
theorem cells_nH {h : AH} {id : Nat} {L : List Int} {a : Nat} (hc : h.cellsAt id = some (srcC L a)) : (nH h id L a).cellsAt id = some (srcC L (nxA L a)) := by
  unfold nH nxA; split
  · exact cellsAt_set_self _ _ _ _ rfl
  · exact hc
theorem kLen_ints (h : AH) (L : List Int) : kLen h (ints L) = some (I L.length, h) := by simp [ints]
theorem kIdx_ints (h : AH) (L : List Int) (a : Nat) (ha : a < L.length) : kIdxA h 1 (ints L) (I a) = some (.pptr [I (L.getD a 0)], h) := kIdxA_psl (by simp [ha]) rfl
theorem n_d {h : AH} {id : Nat} {L : List Int} {a : Nat} {n : Int} (hc : h.cellsAt id = some (srcC L a)) (ha : a ≤ L.length) (hL : OkL L) (h1 : 1 ≤ n) (h2 : n ≤ 100000) : CallD Try.prog 20 [.ptr id 0, I n] h (I (nV L a n)) (nH h id L a) := by
  refine C20 (tb_ok []) ?_
  have hb1 := nV_ge L a h1
  have hb2 := nV_lt L a h1
  have t1 := tmod_gt (x := L.getD a 0) h1
  have t2 := tmod_lt (x := L.getD a 0) h1
  unfold OkL at hL
  have hc' : h.cellsAt id = some [ints L, I a] := hc
  by_cases hlt : a < L.length
  · simp (disch := first | (simp; done) | omega | (simp only [nx_add, nx_set, nx_kill, nx_mk, nx_emp]; omega) | fail) [g20]
    refine ⟨fun vs h' => vs = [.ptr id 0, I n, .bool false] ∧ h' = ⟨h.H, h.nx + 14⟩, ?_, ?_⟩
    · simp (disch := first | (simp; done) | omega | (simp only [nx_add, nx_set, nx_kill, nx_mk, nx_emp]; omega) | fail) [g20_a1, hc', kLen_ints]
      simp (disch := first | (simp; done) | omega | (simp only [nx_add, nx_set, nx_kill, nx_mk, nx_emp]; omega) | fail) [g20_s1, hc', kLen_ints]
      omega
    · rintro vs h' ⟨rfl, rfl⟩
      simp (disch := first | (simp; done) | omega | (simp only [nx_add, nx_set, nx_kill, nx_mk, nx_emp]; omega) | fail) [g20_j4, hc', kLen_ints]
      simp (disch := first | (simp; done) | omega | (simp only [nx_add, nx_set, nx_kill, nx_mk, nx_emp]; omega) | fail) [g20_s3, hc', kIdx_ints _ _ _ hlt]
      have hxe : L[a] = L.getD a 0 := by simp [List.getD, hlt]
      have hv : nV L a n = if 0 ≤ (L.getD a 0).tmod n then (L.getD a 0).tmod n else (L.getD a 0).tmod n + n := by unfold nV; rw [if_pos hlt]
      have hh : nH h id L a = ⟨(h.set id (.cells (srcC L (a + 1)))).H, h.nx + 27⟩ := by unfold nH; rw [if_pos hlt]
      have hn0 : n ≠ 0 := by omega
      rw [hxe, hv, hh]
      generalize L.getD a 0 = x at *
      simp (disch := first | (simp; done) | omega | (simp only [nx_add, nx_set, nx_kill, nx_mk, nx_emp]; omega) | fail) [kArith_rem, hn0, hc']
      simp (disch := first | (simp; done) | omega | (simp only [nx_add, nx_set, nx_kill, nx_mk, nx_emp]; omega) | fail) [g20_s2, hc']
      refine ⟨fun vs h' => vs = [I (if 0 ≤ x.tmod n then x.tmod n else x.tmod n + n)] ∧ h' = ⟨(h.set id (.cells (srcC L (a + 1)))).H, h.nx + 27⟩, ?_, ?_⟩
      · by_cases h0 : 0 ≤ x.tmod n
        · have h0' : ¬ x.tmod n < 0 := by omega
          simp (disch := first | (simp; done) | omega | (simp only [nx_add, nx_set, nx_kill, nx_mk, nx_emp]; omega) | fail) [g20_a2, h0, h0']
          rfl
        · have h0' : x.tmod n < 0 := by omega
          simp (disch := first | (simp; done) | omega | (simp only [nx_add, nx_set, nx_kill, nx_mk, nx_emp]; omega) | fail) [g20_a2, h0, h0']
          rfl
      · rintro vs h' ⟨rfl, rfl⟩
        simp (disch := first | (simp; done) | omega | (simp only [nx_add, nx_set, nx_kill, nx_mk, nx_emp]; omega) | fail) [g20_j3]
  · simp (disch := first | (simp; done) | omega | (simp only [nx_add, nx_set, nx_kill, nx_mk, nx_emp]; omega) | fail) [g20]
    refine ⟨fun vs h' => vs = [.ptr id 0, I n, .bool true] ∧ h' = ⟨h.H, h.nx + 14⟩, ?_, ?_⟩
    · simp (disch := first | (simp; done) | omega | (simp only [nx_add, nx_set, nx_kill, nx_mk, nx_emp]; omega) | fail) [g20_a1, hc', kLen_ints]
      simp (disch := first | (simp; done) | omega | (simp only [nx_add, nx_set, nx_kill, nx_mk, nx_emp]; omega) | fail) [g20_s1, hc', kLen_ints]
      omega
    · rintro vs h' ⟨rfl, rfl⟩
      simp (disch := first | (simp; done) | omega | (simp only [nx_add, nx_set, nx_kill, nx_mk, nx_emp]; omega) | fail) [g20_j4, hc', kLen_ints, nV, nH, hlt]
/-- what a call that reads numbers does to the heap: only the reader's object turns -/
structure Upd (h h1 : AH) (id : Nat) : Prop where
  lo : h.nx ≤ h1.nx
  hi : h1.nx ≤ h.nx + 60
  get : ∀ i, i ≠ id → i < h.nx → h1.H.get i = h.H.get i
  wf : (∀ i, h.nx ≤ i → h.H.get i = none) → ∀ i, h1.nx ≤ i → h1.H.get i = none
theorem upd_nH {h : AH} {id : Nat} {L : List Int} {a : Nat} (hid : id < h.nx) : Upd h (nH h id L a) id := by
  have := nx_nH h id L a
  refine ⟨this.1, by omega, fun i hi _ => get_nH h id L a hi, fun hw i hi => ?_⟩
  rw [get_nH h id L a (by omega)]
  exact hw i (by omega)
def e20 : QE Try.prog := ⟨20, fun args h Q => ∃ id L a n, args = [.ptr id 0, I n] ∧ (h.cellsAt id = some (srcC L a) ∧ a ≤ L.length ∧ OkL L ∧ 1 ≤ n ∧ n ≤ 100000) ∧ Q (I (nV L a n)) (nH h id L a), fun args h Q ⟨id, L, a, n, h1, ⟨h2, h3, h4, h5, h6⟩, h7⟩ => by
  subst h1; exact ⟨_, _, n_d h2 h3 h4 h5 h6, h7⟩⟩
theorem e20_h {tl : List (QE Try.prog)} {id : Nat} {L : List Int} {a : Nat} {n : Int} {h : AH} {Q : AV → AH → Prop} (hx : h.cellsAt id = some (srcC L a) ∧ a ≤ L.length ∧ OkL L ∧ 1 ≤ n ∧ n ≤ 100000) (hq : Q (I (nV L a n)) (nH h id L a)) : tb (e20 :: tl) 20 [.ptr id 0, I n] h Q := by
  rw [tb_here e20 tl 20 _ _ _ rfl]
  exact ⟨id, L, a, n, rfl, hx, hq⟩
@[simp ↓] theorem e20_t (tl : List (QE Try.prog)) (f : Nat) (args : List AV) (h : AH) (Q : AV → AH → Prop) (hf : 20 ≠ f) : tb (e20 :: tl) f args h Q = tb tl f args h Q := tb_there e20 tl f args h Q hf
/-- the reader stands -/
structure Src (h : AH) (id : Nat) (L : List Int) (a : Nat) : Prop where
  c : h.cellsAt id = some (srcC L a)
  le : a ≤ L.length
  ok : OkL L
  lt : id < h.nx
theorem Src.nH {h : AH} {id : Nat} {L : List Int} {a : Nat} (hs : Src h id L a) : Src (nH h id L a) id L (nxA L a) :=
  ⟨cells_nH hs.c, nxA_le L hs.le, hs.ok, Nat.lt_of_lt_of_le hs.lt (nx_nH h id L a).1⟩
theorem N_step {tl : List (QE Try.prog)} {id : Nat} {L : List Int} {a : Nat} {n : Int} {h : AH} {Q : AV → AH → Prop} (hs : Src h id L a) (h1 : 1 ≤ n) (h2 : n ≤ 100000)
    (hq : ∀ h1, Src h1 id L (nxA L a) → Upd h h1 id → Q (I (nV L a n)) h1) : tb (e20 :: tl) 20 [.ptr id 0, I n] h Q :=
  e20_h ⟨hs.c, hs.le, hs.ok, h1, h2⟩ (hq _ hs.nH (upd_nH hs.lt))
theorem r_d {h : AH} {id : Nat} {L : List Int} {a : Nat} {lo hi : Int} (hc : h.cellsAt id = some (srcC L a)) (ha : a ≤ L.length) (hL : OkL L) (h0 : -10000 ≤ lo) (h1 : lo ≤ hi) (h2 : hi ≤ 10000) : CallD Try.prog 21 [.ptr id 0, I lo, I hi] h (I (lo + nV L a (hi - lo + 1))) (nH h id L a) := by
  refine C21 (tb_ok [e20]) ?_
  have hb1 := nV_ge L a (show 1 ≤ hi - lo + 1 by omega)
  have hb2 := nV_lt L a (show 1 ≤ hi - lo + 1 by omega)
  simp (disch := first | (simp; done) | omega | (simp only [nx_add, nx_set, nx_kill, nx_mk, nx_emp]; omega) | fail) [g21]
  refine e20_h ⟨hc, ha, hL, by omega, by omega⟩ ?_
  simp (disch := first | (simp; done) | omega | (simp only [nx_add, nx_set, nx_kill, nx_mk, nx_emp]; omega) | fail)
def e21 : QE Try.prog := ⟨21, fun args h Q => ∃ id L a lo hi, args = [.ptr id 0, I lo, I hi] ∧ (h.cellsAt id = some (srcC L a) ∧ a ≤ L.length ∧ OkL L ∧ -10000 ≤ lo ∧ lo ≤ hi ∧ hi ≤ 10000) ∧ Q (I (lo + nV L a (hi - lo + 1))) (nH h id L a), fun args h Q ⟨id, L, a, lo, hi, h1, ⟨h2, h3, h4, h5, h6, h7⟩, h8⟩ => by
  subst h1; exact ⟨_, _, r_d h2 h3 h4 h5 h6 h7, h8⟩⟩
@[simp ↓] theorem e21_t (tl : List (QE Try.prog)) (f : Nat) (args : List AV) (h : AH) (Q : AV → AH → Prop) (hf : 21 ≠ f) : tb (e21 :: tl) f args h Q = tb tl f args h Q := tb_there e21 tl f args h Q hf
theorem R_step {tl : List (QE Try.prog)} {id : Nat} {L : List Int} {a : Nat} {lo hi m : Int} {h : AH} {Q : AV → AH → Prop} (hs : Src h id L a) (h0 : -10000 ≤ lo) (h1 : lo ≤ hi) (h2 : hi ≤ 10000) (hm : m = hi - lo + 1)
    (hq : ∀ h1, Src h1 id L (nxA L a) → Upd h h1 id → Q (I (lo + nV L a m)) h1) : tb (e21 :: tl) 21 [.ptr id 0, I lo, I hi] h Q := by
  rw [tb_here e21 tl 21 _ _ _ rfl]
  subst hm
  exact ⟨id, L, a, lo, hi, rfl, ⟨hs.c, hs.le, hs.ok, h0, h1, h2⟩, hq _ hs.nH (upd_nH hs.lt)⟩
/-! A new reader. -/
def newL (l : List Int) : List Int := l.take 4000
theorem newL_ok (l : List Int) : OkL (newL l) := by unfold OkL newL; simp; omega
theorem kSl_ints (l : List Int) (hl : 4000 ≤ l.length) (h : AH) : kSl h 1 (ints l) none (some (I 4000)) none = some (ints (newL l), h) := by
  have hall : (l.map fun x => [I x]).all (fun x => x.length == 1) = true := by simp
  have q2 : (4000 : Int) ≤ l.length := by omega
  simp [kSl, aslice, asl, alen, abd, aidx, ints, q2, newL]
theorem new_d {h : AH} {l : List Int} (hl : SmX l) : CallD Try.prog 18 [ints l] h (.ptr h.nx 0) (h.add (.cells (srcC (newL l) 0))) := by
  refine C18 (tb_ok []) ?_
  unfold SmX at hl
  simp (disch := first | (simp; done) | omega | (simp only [nx_add, nx_set, nx_kill, nx_mk, nx_emp]; omega) | fail) [g18, kLen_ints]
  refine ⟨fun vs h' => vs = [ints (newL l)] ∧ h' = h, ?_, ?_⟩
  · by_cases h1 : 4000 < l.length
    · have h1' : ¬ (l.length : Int) ≤ 4000 := by omega
      simp (disch := first | (simp; done) | omega | (simp only [nx_add, nx_set, nx_kill, nx_mk, nx_emp]; omega) | fail) [g18_a1, h1', kSl_ints l (by omega)]
    · have : newL l = l := by unfold newL; rw [List.take_of_length_le (by omega)]
      have h1' : ¬ (4000 : Int) < l.length := by omega
      simp (disch := first | (simp; done) | omega | (simp only [nx_add, nx_set, nx_kill, nx_mk, nx_emp]; omega) | fail) [g18_a1, h1', this]
  · rintro vs h' ⟨rfl, rfl⟩
    simp (disch := first | (simp; done) | omega | (simp only [nx_add, nx_set, nx_kill, nx_mk, nx_emp]; omega) | fail) [g18_j2, ints]
    rfl
end Go.Proofs.Ytpnekpbehcbmkaa
noncomputable section
namespace Go.Proofs.Ytpnekpbehcbmkaa
open Go.Eng
def wV (L : List Int) (a : Nat) : List UInt8 := if nV L a 2 = 0 then [] else [UInt8.ofNat (97 + nV L (nxA L a) 4).toNat]
def wA (L : List Int) (a : Nat) : Nat := if nV L a 2 = 0 then nxA L a else nxA L (nxA L a)
def wH (h : AH) (id : Nat) (L : List Int) (a : Nat) : AH := if nV L a 2 = 0 then (nH h id L a).add (.cells []) else (nH ((nH h id L a).add (.cells [.int .u8 0])) id L (nxA L a)).set (nH h id L a).nx (.cells [.int .u8 (97 + nV L (nxA L a) 4)])
theorem w_d {h : AH} {id : Nat} {L : List Int} {a : Nat} (hs : Src h id L a) : CallD Try.prog 50 [.ptr id 0, I 1] h (.str (wV L a)) (wH h id L a) := by
  refine C50 (tb_ok [e20]) ?_
  have hb1 := nV_ge L a (show (1 : Int) ≤ 2 by omega)
  have hb2 := nV_lt L a (show (1 : Int) ≤ 2 by omega)
  simp (disch := first | (simp; done) | omega | (simp only [nx_add, nx_set, nx_kill, nx_mk, nx_emp]; omega) | fail) [g50]
  refine e20_h ⟨hs.c, hs.le, hs.ok, by omega, by omega⟩ ?_
  have hs1 := hs.nH
  have hn1 := nx_nH h id L a
  have hlt := hs.lt
  by_cases h0 : nV L a 2 = 0
  · have hw : wH h id L a = (nH h id L a).add (.cells []) := by unfold wH; rw [if_pos h0]
    have hv : wV L a = [] := by unfold wV; rw [if_pos h0]
    rw [hw, hv, h0]
    generalize nH h id L a = h1 at *
    refine wk_of (v := .rsl h1.nx 0 0 1) (h := h1.add (.cells [])) rfl ?_
    refine ⟨fun m vs h' => m = 0 ∧ vs = [.ptr id 0, I 0, .rsl h1.nx 0 0 1, I 0] ∧ h' = h1.add (.cells []), 0, ?_, ?_⟩
    · simp
    · rintro m vs h' ⟨rfl, rfl, rfl⟩
      simp (disch := first | (simp; done) | omega | (simp only [nx_add, nx_set, nx_kill, nx_mk, nx_emp]; omega) | fail) [g50_l1]
      simp (disch := first | (simp; done) | omega | (simp only [nx_add, nx_set, nx_kill, nx_mk, nx_emp]; omega) | fail) [g50_j3, g50_c2]
      simp [kX, acells, alen, bytesI, cut]
  · have h0' : nV L a 2 = 1 := by omega
    have hw : wH h id L a = (nH ((nH h id L a).add (.cells [.int .u8 0])) id L (nxA L a)).set (nH h id L a).nx (.cells [.int .u8 (97 + nV L (nxA L a) 4)]) := by unfold wH; rw [if_neg h0]
    have hv : wV L a = [UInt8.ofNat (97 + nV L (nxA L a) 4).toNat] := by unfold wV; rw [if_neg h0]
    have hx1 := nV_ge L (nxA L a) (show (1 : Int) ≤ 4 by omega)
    have hx2 := nV_lt L (nxA L a) (show (1 : Int) ≤ 4 by omega)
    rw [hw, hv, h0']
    generalize nH h id L a = h1 at *
    have hltx : id < h1.nx := by omega
    have hsA : Src (h1.add (.cells [.int .u8 0])) id L (nxA L a) := ⟨by rw [cellsAt_add_ne _ _ _ (by omega)]; exact hs1.c, hs1.le, hs1.ok, by simp; omega⟩
    have hcA : (h1.add (.cells [.int .u8 0])).cellsAt h1.nx = some [.int .u8 0] := cellsAt_add_self _ _ _ rfl
    refine wk_of (v := .rsl h1.nx 0 1 1) (h := h1.add (.cells [.int .u8 0])) rfl ?_
    generalize h1.add (.cells [.int .u8 0]) = hA at *
    have hcB : (nH hA id L (nxA L a)).cellsAt h1.nx = some [.int .u8 0] := by rw [cellsAt_congr (get_nH hA id L _ (by omega))]; exact hcA
    refine ⟨fun m vs h' => (m = 1 ∧ vs = [.ptr id 0, I 1, .rsl h1.nx 0 1 1, I 0] ∧ h' = hA) ∨ (m = 0 ∧ vs = [.ptr id 0, I 1, .rsl h1.nx 0 1 1, I 1] ∧ h' = (nH hA id L (nxA L a)).set h1.nx (.cells [.int .u8 (97 + nV L (nxA L a) 4)])), 1, ?_, ?_⟩
    · simp
    · rintro m vs h' (⟨rfl, rfl, rfl⟩ | ⟨rfl, rfl, rfl⟩)
      · simp (disch := first | (simp; done) | omega | (simp only [nx_add, nx_set, nx_kill, nx_mk, nx_emp]; omega) | fail) [g50_l1]
        refine e20_h ⟨hsA.c, hsA.le, hsA.ok, by omega, by omega⟩ ?_
        generalize nH h' id L (nxA L a) = hB at *
        generalize nV L (nxA L a) 4 = x at *
        simp (disch := first | (simp; done) | omega | (simp only [nx_add, nx_set, nx_kill, nx_mk, nx_emp]; omega) | fail) [g50_s1]
        have hwr : IntKind.u8.wrap (97 + x) = 97 + x := by
          obtain rfl | rfl | rfl | rfl : x = 0 ∨ x = 1 ∨ x = 2 ∨ x = 3 := by omega
          all_goals rfl
        rw [hwr, kIdxA_rsl (i := 0) (by omega) (by simp)]
        simp (disch := first | (simp; done) | omega | (simp only [nx_add, nx_set, nx_kill, nx_mk, nx_emp]; omega) | fail) [hcB]
      · simp (disch := first | (simp; done) | omega | (simp only [nx_add, nx_set, nx_kill, nx_mk, nx_emp]; omega) | fail) [g50_l1]
        simp (disch := first | (simp; done) | omega | (simp only [nx_add, nx_set, nx_kill, nx_mk, nx_emp]; omega) | fail) [g50_j3, g50_c2]
        simp [kX, acells, alen, bytesI, cut]
/-- a word is read, too -/
theorem upd_wH {h : AH} {id : Nat} {L : List Int} {a : Nat} (hs : Src h id L a) : Upd h (wH h id L a) id := by
  have u1 := upd_nH (h := h) (L := L) (a := a) hs.lt
  have hn1 := nx_nH h id L a
  have hlt := hs.lt
  unfold wH
  split
  · refine ⟨by simp; omega, by simp; omega, fun i hi hl => ?_, fun hw i hi => ?_⟩
    · rw [get_add, if_neg (by omega)]; exact u1.get i hi hl
    · simp at hi
      rw [get_add, if_neg (by omega)]; exact u1.wf hw i (by omega)
  · generalize nH h id L a = h1 at *
    have u2 := upd_nH (h := h1.add (.cells [.int .u8 0])) (L := L) (a := nxA L a) (id := id) (by simp; omega)
    have hn2 := nx_nH (h1.add (.cells [.int .u8 0])) id L (nxA L a)
    simp at hn2
    refine ⟨by simp; omega, by simp; omega, fun i hi hl => ?_, fun hw i hi => ?_⟩
    · rw [get_set, if_neg (by omega), u2.get i hi (by simp; omega), get_add, if_neg (by omega)]; exact u1.get i hi hl
    · simp at hi
      rw [get_set, if_neg (by omega)]
      refine u2.wf (fun j hj => ?_) i hi
      simp at hj
      rw [get_add, if_neg (by omega)]
      exact u1.wf hw j (by omega)
theorem Src.wH {h : AH} {id : Nat} {L : List Int} {a : Nat} (hs : Src h id L a) : Src (wH h id L a) id L (wA L a) := by
  have hs1 := hs.nH
  have hn1 := nx_nH h id L a
  have hlt := hs.lt
  have hu := upd_wH hs
  refine ⟨?_, ?_, hs.ok, by have := hu.lo; omega⟩
  · unfold Go.Proofs.Ytpnekpbehcbmkaa.wH wA
    split
    · rw [cellsAt_add_ne _ _ _ (by omega)]; exact hs1.c
    · rw [cellsAt_set_ne _ _ _ _ (by omega)]
      exact cells_nH (by rw [cellsAt_add_ne _ _ _ (by omega)]; exact hs1.c)
  · unfold wA; split
    · exact hs1.le
    · exact nxA_le _ hs1.le
def e50 : QE Try.prog := ⟨50, fun args h Q => ∃ id L a, args = [.ptr id 0, I 1] ∧ Src h id L a ∧ Q (.str (wV L a)) (wH h id L a), fun args h Q ⟨id, L, a, h1, h2, h3⟩ => by
  subst h1; exact ⟨_, _, w_d h2, h3⟩⟩
@[simp ↓] theorem e50_t (tl : List (QE Try.prog)) (f : Nat) (args : List AV) (h : AH) (Q : AV → AH → Prop) (hf : 50 ≠ f) : tb (e50 :: tl) f args h Q = tb tl f args h Q := tb_there e50 tl f args h Q hf
theorem W_step {tl : List (QE Try.prog)} {id : Nat} {L : List Int} {a : Nat} {h : AH} {Q : AV → AH → Prop} (hs : Src h id L a)
    (hq : ∀ h1, Src h1 id L (wA L a) → Upd h h1 id → Q (.str (wV L a)) h1) : tb (e50 :: tl) 50 [.ptr id 0, I 1] h Q := by
  rw [tb_here e50 tl 50 _ _ _ rfl]
  exact ⟨id, L, a, rfl, hs, hq _ hs.wH (upd_wH hs)⟩
end Go.Proofs.Ytpnekpbehcbmkaa
