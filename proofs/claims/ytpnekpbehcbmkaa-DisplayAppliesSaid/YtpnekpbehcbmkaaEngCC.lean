/- Arguments that are read: integers, truths, strings, structures of these, slices of these. -/
import Derived.Test.YtpnekpbehcbmkaaEngBB
import Derived.ChangeArms
import Derived.ChangeSame
set_option linter.unusedSimpArgs false
set_option linter.unusedVariables false
set_option linter.unnecessarySimpa false
noncomputable section
namespace Go.Eng
open Go.RowKit
inductive SH where
  | int (k : IntKind)
  | bool
  | str
  | sl (e : List SH)

mutual
inductive HasSh : AV → SH → Prop where
  | int (k : IntKind) (n : Int) (h : (Lit.int k n).wf = true) : HasSh (.int k n) (.int k)
  | bool (b : Bool) : HasSh (.bool b) .bool
  | str (s : List UInt8) (h : s.length ≤ maxLen) : HasSh (.str s) .str
  | sl (xs : List (List AV)) (e : List SH) (h : xs.length ≤ maxLen) (hx : ∀ x ∈ xs, HasShL x e) : HasSh (.psl xs) (.sl e)
inductive HasShL : List AV → List SH → Prop where
  | nil : HasShL [] []
  | cons (a : AV) (s : SH) (ar : List AV) (ss : List SH) (h : HasSh a s) (hs : HasShL ar ss) : HasShL (a :: ar) (s :: ss)
end
theorem HasShL.len : ∀ {ar : List AV} {ss : List SH}, HasShL ar ss → ar.length = ss.length
  | _, _, .nil => rfl
  | _, _, .cons _ _ _ _ _ hs => by simp [hs.len]
theorem HasShL.append : ∀ {ar bs : List AV} {ss ts : List SH}, HasShL ar ss → HasShL bs ts → HasShL (ar ++ bs) (ss ++ ts)
  | _, _, _, _, .nil, k => k
  | _, _, _, _, .cons a s ar ss h hs, k => .cons a s _ _ h (hs.append k)

def shFs (cells : TypeId → Nat) (rec : TypeId → Option (List SH)) : Nat → List Field → Option (List SH)
  | _, [] => some []
  | off, f :: fs => match rec f.type with
    | some s => if f.offset = off ∧ s.length = cells f.type then (match shFs cells rec (off + s.length) fs with
      | some r => some (s ++ r)
      | none => none) else none
    | none => none
def shOf (P : Program) : Nat → TypeId → Option (List SH)
  | 0, _ => none
  | n + 1, t => match P.underlying t with
    | some .bool => some [.bool]
    | some (.int k) => some [.int k]
    | some .string => some [.str]
    | some (.slice e) => match shOf P n e with
      | some s => if s.length = P.cellsOf e ∧ 0 < s.length then some [.sl s] else none
      | none => none
    | some (.struct fs) => match shFs P.cellsOf (shOf P n) 0 fs.toList with
      | some s => if s.length = P.cellsOf t then some s else none
      | none => none
    | _ => none

theorem exists_list {α : Type} {p : Nat → α → Prop} : ∀ (n : Nat), (∀ i, i < n → ∃ y, p i y) → ∃ l : List α, l.length = n ∧ ∀ i y, l[i]? = some y → p i y
  | 0, _ => ⟨[], rfl, fun i y h => by simp at h⟩
  | n + 1, h => by
    obtain ⟨l, h1, h2⟩ := exists_list n fun i hi => h i (by omega)
    obtain ⟨y, hy⟩ := h n (by omega)
    refine ⟨l ++ [y], by simp [h1], fun i z hz => ?_⟩
    rw [List.getElem?_append] at hz
    split at hz
    · exact h2 i z hz
    · rename_i hi
      have : i = n := by
        have := (List.getElem?_eq_some_iff.1 hz).1
        simp at this; omega
      subst this
      simp [h1] at hz; subst hz; exact hy

section
variable {H : Type} {enc : TypeId × Value → H} {P : Program} {w : World} {spare : Nat → Bool} {held : Bool} {L : Nat → Prop}
def Reads (w : World) (L : Nat → Prop) (ar : List AV) (cs : List Value) : Prop := ar.length = cs.length ∧ ∀ (i : Nat) (c : AV) (v : Value), ar[i]? = some c → cs[i]? = some v → VR w.heap L noB c v

theorem open_fs (hL : ∀ b, ¬ L b) {n m : Nat} {cs : List Value} (ih : ∀ (t : TypeId) (s : List SH) (cs : List Value) (x : DataW H × List MemPlace), shOf P m t = some s → DataW.trod enc P w 0 spare held n t cs = some x → ∃ ar, HasShL ar s ∧ Reads w L ar cs) :
    ∀ (fl : List Field) (off : Nat) (s : List SH), shFs P.cellsOf (shOf P m) off fl = some s → (∀ f ∈ fl, ∃ y, DataW.trod enc P w 0 spare held n f.type ((cs.drop f.offset).take (P.cellsOf f.type)) = some y) →
      ∃ ar, HasShL ar s ∧ ∀ (i : Nat) (c : AV) (v : Value), ar[i]? = some c → cs[off + i]? = some v → VR w.heap L noB c v
  | [], off, s, hs, _ => by simp [shFs] at hs; subst hs; exact ⟨[], .nil, fun i c v h => by simp at h⟩
  | f :: fl, off, s, hs, hf => by
    unfold shFs at hs
    split at hs
    case h_2 => cases hs
    rename_i s1 h1
    split at hs
    case isFalse => cases hs
    rename_i h2
    split at hs
    case h_2 => cases hs
    rename_i r h3
    cases hs
    obtain ⟨y, hy⟩ := hf f (by simp)
    obtain ⟨ar, q1, q2⟩ := ih _ _ _ _ h1 hy
    obtain ⟨bs, q3, q4⟩ := open_fs hL ih fl _ _ h3 fun g hg => hf g (by simp [hg])
    have hl := q1.len
    refine ⟨ar ++ bs, q1.append q3, fun i c v k1 k2 => ?_⟩
    rw [List.getElem?_append] at k1
    split at k1
    · rename_i hi
      refine q2.2 i c v k1 ?_
      rw [List.getElem?_take, if_pos (by omega), List.getElem?_drop, h2.1]; exact k2
    · rename_i hi
      refine q4 (i - ar.length) c v k1 ?_
      rw [← k2]; congr 1; omega

theorem open_sh (hL : ∀ b, ¬ L b) : ∀ (n m : Nat) (t : TypeId) (s : List SH) (cs : List Value) (x : DataW H × List MemPlace), shOf P m t = some s → DataW.trod enc P w 0 spare held n t cs = some x → ∃ ar, HasShL ar s ∧ Reads w L ar cs
  | 0, m, t, s, cs, x, _, h => by simp [DataW.trod] at h
  | n + 1, 0, t, s, cs, x, hs, _ => by simp [shOf] at hs
  | n + 1, m + 1, t, s, cs, x, hs, h => by
    unfold shOf at hs
    split at hs
    · rename_i ht
      cases hs
      obtain ⟨b, rfl, _⟩ := DataW.trod_bool ht h
      exact ⟨[.bool b], .cons _ _ _ _ (.bool b) .nil, rfl, fun i c v h1 h2 => by
        match i with
        | 0 => simp at h1 h2; subst h1; subst h2; exact .bool b
        | i + 1 => simp at h1⟩
    · rename_i k ht
      cases hs
      obtain ⟨z, rfl, _, hw⟩ := DataW.trod_int ht h
      exact ⟨[.int k z], .cons _ _ _ _ (.int k z hw) .nil, rfl, fun i c v h1 h2 => by
        match i with
        | 0 => simp at h1 h2; subst h1; subst h2; exact .int k z
        | i + 1 => simp at h1⟩
    · rename_i ht
      cases hs
      obtain ⟨z, rfl, _, hw⟩ := DataW.trod_string ht h
      refine ⟨[.str z.data.toList], .cons _ _ _ _ (.str _ (by simpa using hw)) .nil, rfl, fun i c v h1 h2 => ?_⟩
      match i with
      | 0 =>
        simp at h1 h2; subst h1; subst h2
        have : z = ⟨z.data.toList.toArray⟩ := by cases z; simp
        rw [this]; exact .str _
      | i + 1 => simp at h1
    · rename_i e ht
      split at hs
      case h_2 => cases hs
      rename_i s1 h1
      split at hs
      case isFalse => cases hs
      rename_i h2
      cases hs
      rcases DataW.trod_slice ht h with ⟨rfl, _⟩ | ⟨a, len, cap, elems, rest, n', hn, rfl, _, _, hlc, hcm, hel, hx, _, _⟩
      · refine ⟨[.psl []], .cons _ _ _ _ (.sl [] _ (by simp) (fun x hx => by simp at hx)) .nil, rfl, fun i c v q1 q2 => ?_⟩
        match i with
        | 0 => simp at q1 q2; subst q1; subst q2; exact .psl0 none 0
        | i + 1 => simp at q1
      · cases hn
        have each : ∀ i, i < len → ∃ ar : List AV, HasShL ar s1 ∧ ∃ ds, w.cells? 0 (a.add (i * P.cellsOf e)) (P.cellsOf e) = some ds ∧ Reads w L ar ds := by
          intro i hi
          have := hx i hi
          obtain ⟨y, hy⟩ : ∃ y, elems[i]? = some y := ⟨elems[i], by simp [hel, hi]⟩
          rw [hy, Option.bind_eq_some_iff] at this
          obtain ⟨ds, q1, q2⟩ := this
          obtain ⟨ar, q3, q4⟩ := open_sh hL n m e s1 ds y h1 q2
          exact ⟨ar, q3, ds, q1, q4⟩
        obtain ⟨l, hl1, hl2⟩ := exists_list len each
        have hmem : ∀ x ∈ l, HasShL x s1 := fun x hx => by
          obtain ⟨i, hi⟩ := List.getElem?_of_mem hx
          exact (hl2 i x hi).1
        refine ⟨[.psl l], .cons _ _ _ _ (.sl l s1 (by omega) hmem) .nil, rfl, fun i c v q1 q2 => ?_⟩
        match i with
        | i + 1 => simp at q1
        | 0 =>
          simp at q1 q2; subst q1; subst q2
          by_cases hz : len = 0
          · subst hz
            have : l = [] := List.length_eq_zero_iff.1 hl1
            subst this
            exact .psl0 _ _
          · -- the block
            have cellat : ∀ i j, i < len → j < s1.length → ∃ v, w.cell? (a.add (i * P.cellsOf e + j)) = some v ∧ ∀ x c, l[i]? = some x → x[j]? = some c → VR w.heap L noB c v := by
              intro i j hi hj
              obtain ⟨y, hy⟩ : ∃ y, l[i]? = some y := ⟨l[i]'(by omega), by simp [hl1, hi]⟩
              obtain ⟨q3, ds, q4, q5⟩ := hl2 i y hy
              obtain ⟨_, q6, q7⟩ := World.cells?_some q4
              have hj2 : j < ds.length := by omega
              have := q7 j (by omega)
              rw [show (a.add (i * P.cellsOf e)).add j = a.add (i * P.cellsOf e + j) by unfold Addr.add; (repeat' split) <;> simp_all [Nat.add_assoc]] at this
              refine ⟨ds[j], by rw [this]; simp [hj2], fun x c k1 k2 => ?_⟩
              rw [hy] at k1; cases k1
              exact q5.2 j c _ k2 (by simp [hj2])
            obtain ⟨v0, hv0, _⟩ := cellat 0 0 (by omega) h2.2
            obtain ⟨b, o, sp⟩ := a
            have hsp : sp = none := by
              have := World.cell?_spot hv0
              simpa [Addr.add] using this
            subst hsp
            have hadd : ∀ n, (⟨b, o, none⟩ : Addr).add n = ⟨b, o + n, none⟩ := fun n => add_lit' b o n
            rw [hadd] at hv0
            obtain ⟨cur, et, fz, hb⟩ : ∃ cur et fz, w.heap[b]? = some (.cells cur et fz) := by
              unfold World.cell? at hv0
              split at hv0
              · rename_i c et fz hq; exact ⟨c, et, fz, hq⟩
              · cases hv0
            have hcell : ∀ n v, w.cell? ⟨b, o + n, none⟩ = some v → cur[o + n]? = some v := by
              intro n v hv
              unfold World.cell? at hv
              simp only [hb] at hv
              simpa using hv
            have hsz : o + l.length * s1.length ≤ cur.size := by
              obtain ⟨v1, hv1, _⟩ := cellat (len - 1) (s1.length - 1) (by omega) (by omega)
              rw [hadd] at hv1
              have := (Array.getElem?_eq_some_iff.1 (hcell _ _ hv1)).1
              rw [← h2.1] at this
              rw [hl1]
              have h4 : len * s1.length = (len - 1) * s1.length + s1.length := by
                conv => lhs; rw [show len = (len - 1) + 1 by omega]
                rw [Nat.succ_mul]
              have := h2.2
              omega
            have := VR.psl (hp := w.heap) (L := L) (β := noB) l s1.length b o cap cur et fz hb (hL b) hsz (fun i x hi => (hl2 i x hi).1.len) (by omega) (fun i x j c v k1 k2 k3 => ?_)
            · rw [hl1] at this; exact this
            · have hi : i < len := by have := (List.getElem?_eq_some_iff.1 k1).1; omega
              have hj : j < s1.length := by
                have := (List.getElem?_eq_some_iff.1 k2).1
                rw [(hl2 i x k1).1.len] at this; exact this
              obtain ⟨v1, hv1, hv2⟩ := cellat i j hi hj
              rw [hadd] at hv1
              have := hcell _ _ hv1
              rw [← h2.1, ← Nat.add_assoc] at this
              rw [k3] at this; cases this
              exact hv2 x c k1 k2
    · rename_i fs ht
      split at hs
      case h_2 => cases hs
      rename_i s1 h1
      split at hs
      case isFalse => cases hs
      rename_i h2
      cases hs
      obtain ⟨xs, n', hn, _, hlen, hxl, hf⟩ := DataW.trod_struct ht h
      cases hn
      obtain ⟨ar, q1, q2⟩ := open_fs (cs := cs) hL (fun t s cs x a b => open_sh hL n m t s cs x a b) fs.toList 0 s h1 fun f hfm => by
        obtain ⟨i, hi⟩ := List.getElem?_of_mem hfm
        have hi2 : fs[i]? = some f := by simpa using hi
        have hlt : i < fs.size := (Array.getElem?_eq_some_iff.1 hi2).1
        exact ⟨xs[i]'(by omega), by rw [hf i f hi2]; simp [hxl, hlt]⟩
      exact ⟨ar, q1, by rw [q1.len, hlen]; exact h2, fun i c v k1 k2 => q2 i c v k1 (by rw [Nat.zero_add]; exact k2)⟩
    · cases hs
end
end Go.Eng
end
