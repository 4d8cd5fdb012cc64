/- Views, trees, styles and boxes of groups in a scroll node; numbers as ghosts. Clamp by its contract. -/
import Derived.Test.YtfegfialedlfcaaGreatDoorEngGI
import Derived.Test.YtfegfialedlfcaaGreatDoorDsF
set_option linter.unusedSimpArgs false
set_option linter.unusedVariables false
set_option linter.unnecessarySimpa false
noncomputable section
namespace Go.Proofs.YtfegfialedlfcaaGreatDoor
open Go.Eng
abbrev I (n : Int) : AV := .int .i64 n
def opt (l : List (List AV)) : AV :=
  match l with
  | [] => .nilsl
  | a :: r => .psl (a :: r)
/-- f 0, f 1 .. f (n - 1) -/
def tab {α : Type} (f : Nat → α) : Nat → List α
  | 0 => []
  | n + 1 => tab f n ++ [f n]
def kidV : List AV := [I 1, .str [], .nilsl, .nilsl, .nilsl]
def viewS (n : Nat) : AV := .agg [I 8, .str [], .nilsl, .nilsl, opt (tab (fun _ => kidV) n)]
def rootN (n : Nat) : List AV := [I 1, I 0, I 8, .str [], .nilsl, .nilsl, opt (tab (fun i => [I (i + 2 : Nat)]) n)]
def kidN (i : Nat) : List AV := [I (i + 2 : Nat), I 1, I 1, .str [], .nilsl, .nilsl, .nilsl]
def treeS (n : Nat) : AV := .agg [I 1, I (n + 2 : Nat), .psl (rootN n :: tab kidN n)]
def sty (id bg mh : AV) : List AV := [id, I 0, bg, I 16, I 0, I 0, I 1, I 3, I 0, I 0, I 0, I 0, I 1, I (-1), I 0, I 1048576, mh, I 1048576, I 0, I 0, I 0, I 0, I 0]
def sty0 (i : Nat) : List AV := sty (I (i + 1 : Nat)) (I (-1)) (I 0)
def stS (f : Nat → AV) (n : Nat) : List (List AV) := sty0 0 :: tab (fun i => sty (I (i + 2 : Nat)) (I (i + 1 : Nat)) (f i)) n
def fontS : AV := .psl [[I 16, I 12, I 4, I 0, I 8, .nilsl, .nilsl, .nilsl]]
def boxR (w h bl : AV) : List AV := [I 1, I 0, I 0, w, h, bl, .nilsl]
def boxK (i : Nat) (top w h : AV) : List AV := [I (i + 2 : Nat), I 0, top, w, h, h, .nilsl]
/-! with ghosts -/
def gw : AV := .lin .i64 [(1, 1)] 0 10 137
def gh : AV := .lin .i64 [(1, 2)] 0 10 137
def go : AV := .lin .i64 [(1, 3)] (-499) (-499) 499
def gk (i : Nat) : AV := .lin .i64 [(1, 4 + i)] 0 0 31
def gt : Nat → AV
  | 0 => I 0
  | n + 1 => .lin .i64 (tab (fun i => (1, 4 + i)) (n + 1)) 0 0 (31 * (n + 1 : Nat))
def gb : Nat → AV
  | 0 => gh
  | _ + 1 => gk 0
def boxG (n : Nat) : AV := .psl (boxR gw gh (gb n) :: tab (fun i => boxK i (gt i) gw (gk i)) n)
end Go.Proofs.YtfegfialedlfcaaGreatDoor
end
noncomputable section
namespace Go.Proofs.YtfegfialedlfcaaGreatDoor
open Go.Eng
def clampV (x lo hi : Int) : Int := if x < lo ∨ hi < lo then lo else if hi < x then hi else x
theorem clamp_c (h : AH) (x lo hi : Int) : CallD Tryz.prog 149 [I x, I lo, I hi] h (I (clampV x lo hi)) h := by
  refine C149 (tU_ok _) ?_
  simp [g149]
  refine ⟨fun vs h' => vs = [I x, I lo, I hi, .bool (decide (x < lo ∨ hi < lo))] ∧ h' = h, ?_, ?_⟩
  · simp [g149_a1]
    by_cases h1 : x < lo
    · simp [h1]; omega
    · by_cases h2 : hi < lo <;> simp [h1, h2]
  · rintro vs h' ⟨rfl, rfl⟩
    simp [g149_j2, clampV]
    by_cases h1 : x < lo
    · simp [h1]; omega
    · by_cases h2 : hi < lo
      · simp [h1, h2]; omega
      · by_cases h3 : hi < x
        · simp [h1, h2, h3]; omega
        · simp [h1, h2, h3]
/-- low comes out where the bounds say so -/
def clR (lo : AV) (h : AH) : Option (IntKind × Int × Int) → Option (IntKind × Int × Int) → Option (IntKind × Int × Int) → Option (AV × AH)
  | some (.i64, _, h1), some (.i64, l2, h2), some (.i64, l3, _) => cond (decide (h1 ≤ l2) && decide (h2 ≤ l3)) (some (lo, h)) none
  | _, _, _ => none
def clA (h : AH) : List AV → Option (AV × AH)
  | [x, lo, hi] => clR lo h (rngI x) (rngI lo) (rngI hi)
  | _ => none
def clH : Handler := fun f args h => cond (Nat.beq f 149) (clA h args) none
theorem clH_ok : FOk Tryz.prog clH := by
  intro f args h v h' ha
  unfold clH at ha
  cases hf : Nat.beq f 149 with
  | false => rw [hf] at ha; cases ha
  | true =>
  rw [hf] at ha
  obtain rfl := Nat.eq_of_beq_eq_true hf
  simp only [cond_true] at ha
  unfold clA at ha
  split at ha
  case h_2 => cases ha
  rename_i x lo hi
  unfold clR at ha
  split at ha
  case h_2 => cases ha
  rename_i l1 h1 l2 h2 l3 h3 e1 e2 e3
  cases hq : (decide (h1 ≤ l2) && decide (h2 ≤ l3)) with
  | false => rw [hq] at ha; cases ha
  | true =>
  rw [hq] at ha
  simp only [cond_true, Option.some.injEq, Prod.mk.injEq] at ha
  obtain ⟨rfl, rfl⟩ := ha
  simp only [Bool.and_eq_true, decide_eq_true_eq] at hq
  refine ⟨(clamp_c h 0 0 0).1, fun own β w cargs hs hR => ?_⟩
  have hl := hR.1
  obtain ⟨c0, q0⟩ : ∃ c, cargs.toList[0]? = some c := ⟨cargs.toList[0]'(by simp at hl; simp; omega), by simp⟩
  obtain ⟨c1, q1⟩ : ∃ c, cargs.toList[1]? = some c := ⟨cargs.toList[1]'(by simp at hl; simp; omega), by simp⟩
  obtain ⟨c2, q2⟩ : ∃ c, cargs.toList[2]? = some c := ⟨cargs.toList[2]'(by simp at hl; simp; omega), by simp⟩
  have v0 := hR.2 0 x c0 rfl q0
  have v1 := hR.2 1 lo c1 rfl q1
  have v2 := hR.2 2 hi c2 rfl q2
  obtain ⟨a, rfl, a1, a2⟩ := rngI_ok v0 e1
  obtain ⟨b, rfl, b1, b2⟩ := rngI_ok v1 e2
  obtain ⟨c, rfl, k1, k2⟩ := rngI_ok v2 e3
  refine ((clamp_c h a b c).2 own β w cargs hs ⟨hl, fun i d u hd hu => ?_⟩).mono ?_
  · match i with
    | 0 => simp at hd; subst hd; rw [q0] at hu; cases hu; exact .int _ _
    | 1 => simp at hd; subst hd; rw [q1] at hu; cases hu; exact .int _ _
    | 2 => simp at hd; subst hd; rw [q2] at hu; cases hu; exact .int _ _
    | i + 3 => simp at hd
  · rintro e w' ⟨cv, v, h1, β', rfl, ⟨rfl, rfl⟩, hs', hv, ht⟩
    refine ⟨cv, lo, h1, β', rfl, ⟨rfl, rfl⟩, hs', ?_, ht⟩
    have e : clampV a b c = b := by unfold clampV; split; rfl; split <;> omega
    rw [e] at hv
    cases hv
    exact v1.later ht.later
end Go.Proofs.YtfegfialedlfcaaGreatDoor
end
