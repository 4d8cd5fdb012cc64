/- Closed runs cut into pieces: calls whose arguments are frozen, by what they were found to do. -/
import Derived.Test.YtndpneieplopaaaGreatDoorEngIN
set_option linter.unusedSimpArgs false
set_option linter.unusedVariables false
set_option linter.unnecessarySimpa false
noncomputable section
namespace Go.Eng
mutual
/-- nothing owned occurs, but for ghosts below K -/
def clsF (K : Nat) : AV → Bool
  | .bool _ | .int _ _ | .str _ | .nilptr | .nilsl | .esl | .nilfunc | .nilif | .nilmap | .gptr _ _ => true
  | .sint _ _ i _ _ _ => Nat.blt i K
  | .agg cs => clsL K cs
  | .psl xs => clsP K xs
  | _ => false
def clsL (K : Nat) : List AV → Bool
  | [] => true
  | a :: l => clsF K a && clsL K l
def clsP (K : Nat) : List (List AV) → Bool
  | [] => true
  | a :: l => clsL K a && clsP K l
end
section
variable {hp : Array Obj} {L : Nat → Prop} {β β2 : Bl} {K : Nat}
mutual
theorem clsF_ok (hβ : ∀ i, i < K → β2 i = β i) : ∀ (a : AV), clsF K a = true → ∀ v, VR hp L β a v → VR hp L β2 a v
  | .bool _, _, v, h => by cases h; exact .bool _
  | .int _ _, _, v, h => by cases h; exact .int _ _
  | .str _, _, v, h => by cases h; exact .str _
  | .nilptr, _, v, h => by cases h; exact .nilptr
  | .nilsl, _, v, h => by cases h; exact .nilsl
  | .esl, _, v, h => by cases h; exact .esl _
  | .nilfunc, _, v, h => by cases h; exact .nilfunc
  | .nilif, _, v, h => by cases h; exact .nilif
  | .nilmap, _, v, h => by cases h; exact .nilmap
  | .gptr _ _, _, v, h => by cases h; exact .gptr _ _
  | .sint k m i c lo hi, ho, v, h => by
    simp only [clsF, Nat.blt_eq] at ho
    cases h with
    | sint _ _ _ _ _ _ b base h h1 h2 => exact .sint k m i c lo hi b base (by rw [hβ i ho]; exact h) h1 h2
  | .agg cs, ho, v, h => by
    simp only [clsF] at ho
    cases h with
    | agg _ vs hl hx => exact .agg cs vs hl fun i c v hc hv => clsL_ok hβ cs ho i c hc v (hx i c v hc hv)
  | .psl xs, ho, v, h => by
    simp only [clsF] at ho
    cases h with
    | psl0 a cap => exact .psl0 a cap
    | psl _ z b o cap cur e fz hb hL hs hz hcap hx => exact .psl xs z b o cap cur e fz hb hL hs hz hcap fun i x j c v h1 h2 h3 => clsP_ok hβ xs ho i x h1 j c h2 v (hx i x j c v h1 h2 h3)
  | .undef, ho, _, _ => by simp [clsF] at ho
  | .tup _, ho, _, _ => by simp [clsF] at ho
  | .ptr _ _, ho, _, _ => by simp [clsF] at ho
  | .pptr _, ho, _, _ => by simp [clsF] at ho
  | .rsl _ _ _ _, ho, _, _ => by simp [clsF] at ho
  | .mapv _, ho, _, _ => by simp [clsF] at ho
  | .func _ _ _, ho, _, _ => by simp [clsF] at ho
  | .iface _ _, ho, _, _ => by simp [clsF] at ho
  | .scol _ _ _ _ _ _ _ _, ho, _, _ => by simp [clsF] at ho
  | .oint _ _, ho, _, _ => by simp [clsF] at ho
theorem clsL_ok (hβ : ∀ i, i < K → β2 i = β i) : ∀ (l : List AV), clsL K l = true → ∀ (i : Nat) (c : AV), l[i]? = some c → ∀ v, VR hp L β c v → VR hp L β2 c v
  | [], _, i, c, hc, _, _ => by simp at hc
  | a :: l, ho, 0, c, hc, v, h => by
    simp at hc; subst hc
    simp only [clsL, Bool.and_eq_true] at ho
    exact clsF_ok hβ a ho.1 v h
  | a :: l, ho, i + 1, c, hc, v, h => by
    simp at hc
    simp only [clsL, Bool.and_eq_true] at ho
    exact clsL_ok hβ l ho.2 i c hc v h
theorem clsP_ok (hβ : ∀ i, i < K → β2 i = β i) : ∀ (l : List (List AV)), clsP K l = true → ∀ (i : Nat) (x : List AV), l[i]? = some x → ∀ (j : Nat) (c : AV), x[j]? = some c → ∀ v, VR hp L β c v → VR hp L β2 c v
  | [], _, i, c, hc, _, _, _, _, _ => by simp at hc
  | a :: l, ho, 0, x, hx, j, c, hc, v, h => by
    simp at hx; subst hx
    simp only [clsP, Bool.and_eq_true] at ho
    exact clsL_ok hβ a ho.1 j c hc v h
  | a :: l, ho, i + 1, x, hx, j, c, hc, v, h => by
    simp at hx
    simp only [clsP, Bool.and_eq_true] at ho
    exact clsP_ok hβ l ho.2 i x hx j c hc v h
end
end
mutual
/-- what a value is when all that it reaches is taken as frozen (K: how many ghosts there are; nw: nothing is reached that was frozen before) -/
def fzF (nw : Bool) (K : Nat) (h : AH) : Nat → AV → Option AV
  | 0, _ => none
  | n + 1, a => match a with
    | .bool b => some (.bool b)
    | .int k m => some (.int k m)
    | .str s => some (.str s)
    | .nilptr => some .nilptr
    | .nilfunc => some .nilfunc
    | .nilif => some .nilif
    | .nilmap => some .nilmap
    | .nilsl => some .nilsl
    | .esl => some .esl
    | .sint k m i c lo hi => cond (Nat.blt i K) (some (.sint k m i c lo hi)) none
    | .agg cs => (fzL nw K h n cs).map .agg
    | .tup cs => (fzL nw K h n cs).map .tup
    | .rsl id off len z => match h.cellsAt id with
      | some cs => cond (Nat.ble (off + len * z) cs.length) ((fzC nw K h n z len (cs.drop off)).map .psl) none
      | none => none
    | .psl xs => cond (nw && !xs.isEmpty) none ((fzP nw K h n xs).map .psl)
    | _ => none
def fzL (nw : Bool) (K : Nat) (h : AH) : Nat → List AV → Option (List AV)
  | _, [] => some []
  | 0, _ :: _ => none
  | n + 1, a :: l => match fzF nw K h n a, fzL nw K h n l with
    | some b, some m => some (b :: m)
    | _, _ => none
def fzP (nw : Bool) (K : Nat) (h : AH) : Nat → List (List AV) → Option (List (List AV))
  | _, [] => some []
  | 0, _ :: _ => none
  | n + 1, a :: l => match fzL nw K h n a, fzP nw K h n l with
    | some b, some m => some (b :: m)
    | _, _ => none
def fzC (nw : Bool) (K : Nat) (h : AH) : Nat → Nat → Nat → List AV → Option (List (List AV))
  | _, _, 0, _ => some []
  | 0, _, _ + 1, _ => none
  | n + 1, z, c + 1, l => match fzL nw K h n (l.take z), fzC nw K h n z c (l.drop z) with
    | some b, some m => some (b :: m)
    | _, _ => none
end
theorem fzL_len {nw : Bool} {K : Nat} {h : AH} : ∀ (n : Nat) (l m : List AV), fzL nw K h n l = some m → m.length = l.length
  | _, [], m, hm => by cases ‹Nat› <;> simp [fzL] at hm <;> subst hm <;> rfl
  | 0, a :: l, m, hm => by simp [fzL] at hm
  | n + 1, a :: l, m, hm => by
    simp only [fzL] at hm
    split at hm
    · rename_i b m' h1 h2
      cases hm
      simp [fzL_len n l m' h2]
    · cases hm
section
variable {own : Nat → Prop} {β : Bl} {h : AH} {nx : Nat} {w : World} {L2 : Nat → Prop} {β2 : Bl} {K : Nat} {nw : Bool}
mutual
theorem VR.frzK (hs : SimH own β h.H nx w) (h1 : ∀ (id : Nat) (cs : List AV) (b base : Nat), h.H.get id = some (.cells cs) → β id = some (b, base) → ¬ L2 b) (h2 : nw = false → ∀ b, ¬ LL own β h.H b → ¬ L2 b) (hβ : ∀ i, i < K → β2 i = β i) : ∀ (n : Nat) (a b : AV), fzF nw K h n a = some b → ∀ v, VR w.heap (LL own β h.H) β a v → VR w.heap L2 β2 b v
  | 0, a, b, hf, v, hv => by simp [fzF] at hf
  | n + 1, a, b, hf, v, hv => by
    unfold fzF at hf
    split at hf
    · cases hf; cases hv; exact .bool _
    · cases hf; cases hv; exact .int _ _
    · cases hf; cases hv; exact .str _
    · cases hf; cases hv; exact .nilptr
    · cases hf; cases hv; exact .nilfunc
    · cases hf; cases hv; exact .nilif
    · cases hf; cases hv; exact .nilmap
    · cases hf; cases hv; exact .nilsl
    · cases hf; cases hv; exact .esl _
    · rename_i k m i c lo hi
      cases hb : Nat.blt i K with
      | false => rw [hb] at hf; cases hf
      | true =>
        rw [hb] at hf
        cases hf
        have hik : i < K := by simpa [Nat.blt_eq] using hb
        cases hv with
        | sint _ _ _ _ _ _ b base h3 h4 h5 => exact .sint k m i c lo hi b base (by rw [hβ i hik]; exact h3) h4 h5
    · rename_i cs
      rw [Option.map_eq_some_iff] at hf
      obtain ⟨m, hm, rfl⟩ := hf
      cases hv with
      | agg _ vs hl hx =>
        have hlen := fzL_len n cs m hm
        refine .agg m vs (by omega) fun i d v hd hv' => ?_
        obtain ⟨c, hc⟩ := get_of_len hlen.symm hd
        exact VR.frzKL hs h1 h2 hβ n cs m hm i c d hc hd v (hx i c v hc hv')
    · rename_i cs
      rw [Option.map_eq_some_iff] at hf
      obtain ⟨m, hm, rfl⟩ := hf
      cases hv with
      | tup _ vs hl hx =>
        have hlen := fzL_len n cs m hm
        refine .tup m vs (by omega) fun i d v hd hv' => ?_
        obtain ⟨c, hc⟩ := get_of_len hlen.symm hd
        exact VR.frzKL hs h1 h2 hβ n cs m hm i c d hc hd v (hx i c v hc hv')
    · rename_i id off len z
      split at hf
      · rename_i cs hcs
        cases hb : Nat.ble (off + len * z) cs.length with
        | false => rw [hb] at hf; cases hf
        | true =>
          rw [hb] at hf
          simp only [cond_true, Option.map_eq_some_iff] at hf
          obtain ⟨m, hm, rfl⟩ := hf
          have hle := Nat.le_of_ble_eq_true hb
          obtain ⟨q1, q2, q3⟩ := VR.frzKC hs h1 h2 hβ n z len (cs.drop off) m hm (by simp; omega)
          obtain ⟨b, base, hbb, hnb, cur, e, hcur, hcs', hcell⟩ := hs.obj id _ (cellsAt_get hcs)
          cases hv with
          | rsl _ _ _ _ b' base' cap cur' e' fz' hb' hcur' hcap hmx hs2 =>
            rw [hbb] at hb'; cases hb'
            rw [hcur] at hcur'; cases hcur'
            have := VR.psl (hp := w.heap) (L := L2) (β := β2) m z b (base + off) cap cur e (0, 0) hcur (h1 id cs b base (cellsAt_get hcs) hbb) (by rw [q1]; omega) q2 (by omega) (fun i y j d v hy hd hv' => ?_)
            · rwa [q1] at this
            · have hi : i < len := by rw [← q1]; exact (List.getElem?_eq_some_iff.1 hy).1
              have hj : j < z := by rw [← q2 i y hy]; exact (List.getElem?_eq_some_iff.1 hd).1
              have hb1 : i * z + z ≤ len * z := by
                have := Nat.mul_le_mul_right z (show i + 1 ≤ len by omega)
                rw [Nat.succ_mul] at this; exact this
              have hlt : off + (i * z + j) < cs.length := by omega
              exact q3 i y j cs[off + (i * z + j)] d hy hd (by rw [List.getElem?_drop]; simp [hlt]) v (hcell (off + (i * z + j)) _ v (by simp [hlt]) (by rw [← hv']; congr 1; omega))
          | rsl0 _ _ _ b' base' o hb' =>
            have : m = [] := List.length_eq_zero_iff.1 q1
            subst this
            exact .psl0 _ _
      · cases hf
    · rename_i xs
      cases hq : (nw && !xs.isEmpty) with
      | true => rw [hq] at hf; cases hf
      | false =>
      rw [hq] at hf
      simp only [cond_false, Option.map_eq_some_iff] at hf
      obtain ⟨m, hm, rfl⟩ := hf
      obtain ⟨q1, q2, q3⟩ := VR.frzKP hs h1 h2 hβ n xs m hm
      cases hv with
      | psl0 a cap =>
        have : m = [] := List.length_eq_zero_iff.1 q1
        subst this
        exact .psl0 a cap
      | psl _ z b o cap cur e fz hb hL hs' hz hcap hv =>
        cases xs with
        | nil =>
          have : m = [] := List.length_eq_zero_iff.1 q1
          subst this
          exact .psl0 _ _
        | cons x0 xs0 =>
        have hnw : nw = false := by simpa using hq
        have := VR.psl (hp := w.heap) (L := L2) (β := β2) m z b o cap cur e fz hb (h2 hnw b hL) (by rw [q1]; exact hs') (fun i y hy => ?_) (by rw [q1]; exact hcap) (fun i y j d v hy hd hv' => ?_)
        · rwa [q1] at this
        · obtain ⟨x, hx'⟩ := get_of_len q1.symm hy
          rw [← q2 i x y hx' hy]; exact hz i x hx'
        · obtain ⟨x, hx'⟩ := get_of_len q1.symm hy
          obtain ⟨c, hc'⟩ := get_of_len (q2 i x y hx' hy) hd
          exact q3 i x y j c d hx' hy hc' hd v (hv i x j c v hx' hc' hv')
    · cases hf
theorem VR.frzKL (hs : SimH own β h.H nx w) (h1 : ∀ (id : Nat) (cs : List AV) (b base : Nat), h.H.get id = some (.cells cs) → β id = some (b, base) → ¬ L2 b) (h2 : nw = false → ∀ b, ¬ LL own β h.H b → ¬ L2 b) (hβ : ∀ i, i < K → β2 i = β i) : ∀ (n : Nat) (l m : List AV), fzL nw K h n l = some m → ∀ (i : Nat) (c d : AV), l[i]? = some c → m[i]? = some d → ∀ v, VR w.heap (LL own β h.H) β c v → VR w.heap L2 β2 d v
  | _, [], m, hm, i, c, d, hc, hd, _, _ => by simp at hc
  | 0, a :: l, m, hm, i, c, d, hc, hd, _, _ => by simp [fzL] at hm
  | n + 1, a :: l, m, hm, i, c, d, hc, hd, v, hv => by
    simp only [fzL] at hm
    split at hm
    · rename_i b m' h3 h4
      cases hm
      cases i with
      | zero => simp at hc hd; subst hc; subst hd; exact VR.frzK hs h1 h2 hβ n a b h3 v hv
      | succ i => simp at hc hd; exact VR.frzKL hs h1 h2 hβ n l m' h4 i c d hc hd v hv
    · cases hm
theorem VR.frzKP (hs : SimH own β h.H nx w) (h1 : ∀ (id : Nat) (cs : List AV) (b base : Nat), h.H.get id = some (.cells cs) → β id = some (b, base) → ¬ L2 b) (h2 : nw = false → ∀ b, ¬ LL own β h.H b → ¬ L2 b) (hβ : ∀ i, i < K → β2 i = β i) : ∀ (n : Nat) (l m : List (List AV)), fzP nw K h n l = some m → m.length = l.length ∧ (∀ (i : Nat) (x y : List AV), l[i]? = some x → m[i]? = some y → x.length = y.length) ∧
    ∀ (i : Nat) (x y : List AV) (j : Nat) (c d : AV), l[i]? = some x → m[i]? = some y → x[j]? = some c → y[j]? = some d → ∀ v, VR w.heap (LL own β h.H) β c v → VR w.heap L2 β2 d v
  | n, [], m, hm => by
    cases n <;> simp [fzP] at hm <;> subst hm <;> exact ⟨rfl, fun i x y hx => by simp at hx, fun i x y j c d hx => by simp at hx⟩
  | 0, a :: l, m, hm => by simp [fzP] at hm
  | n + 1, a :: l, m, hm => by
    simp only [fzP] at hm
    split at hm
    · rename_i b m' h3 h4
      cases hm
      obtain ⟨q1, q2, q3⟩ := VR.frzKP hs h1 h2 hβ n l m' h4
      refine ⟨by simp [q1], fun i x y hx hy => ?_, fun i x y j c d hx hy hc hd v hv => ?_⟩
      · cases i with
        | zero => simp at hx hy; subst hx; subst hy; exact (fzL_len n _ _ h3).symm
        | succ i => simp at hx hy; exact q2 i x y hx hy
      · cases i with
        | zero => simp at hx hy; subst hx; subst hy; exact VR.frzKL hs h1 h2 hβ n _ _ h3 j c d hc hd v hv
        | succ i => simp at hx hy; exact q3 i x y j c d hx hy hc hd v hv
    · cases hm
theorem VR.frzKC (hs : SimH own β h.H nx w) (h1 : ∀ (id : Nat) (cs : List AV) (b base : Nat), h.H.get id = some (.cells cs) → β id = some (b, base) → ¬ L2 b) (h2 : nw = false → ∀ b, ¬ LL own β h.H b → ¬ L2 b) (hβ : ∀ i, i < K → β2 i = β i) : ∀ (n z c : Nat) (l : List AV) (m : List (List AV)), fzC nw K h n z c l = some m → c * z ≤ l.length → m.length = c ∧ (∀ (i : Nat) (y : List AV), m[i]? = some y → y.length = z) ∧
    ∀ (i : Nat) (y : List AV) (j : Nat) (a b : AV), m[i]? = some y → y[j]? = some b → l[i * z + j]? = some a → ∀ v, VR w.heap (LL own β h.H) β a v → VR w.heap L2 β2 b v
  | n, z, 0, l, m, hm, hl => by
    cases n <;> simp [fzC] at hm <;> subst hm <;> exact ⟨rfl, fun i y hy => by simp at hy, fun i y j a b hy => by simp at hy⟩
  | 0, z, c + 1, l, m, hm, hl => by simp [fzC] at hm
  | n + 1, z, c + 1, l, m, hm, hl => by
    simp only [fzC] at hm
    split at hm
    · rename_i b m' h3 h4
      cases hm
      rw [Nat.succ_mul] at hl
      obtain ⟨q1, q2, q3⟩ := VR.frzKC hs h1 h2 hβ n z c (l.drop z) m' h4 (by simp; omega)
      have hbl : b.length = z := by rw [fzL_len n _ b h3]; simp; omega
      refine ⟨by simp [q1], fun i y hy => ?_, fun i y j a d hy hd ha v hv => ?_⟩
      · cases i with
        | zero => simp at hy; subst hy; exact hbl
        | succ i => simp at hy; exact q2 i y hy
      · cases i with
        | zero =>
          simp at hy
          subst hy
          have hj : j < z := by rw [← hbl]; exact (List.getElem?_eq_some_iff.1 hd).1
          exact VR.frzKL hs h1 h2 hβ n _ b h3 j a d (by rw [List.getElem?_take, if_pos hj]; simpa using ha) hd v hv
        | succ i =>
          simp at hy
          exact q3 i y j a d hy hd (by rw [List.getElem?_drop, ← ha]; congr 1; rw [Nat.succ_mul]; omega) v hv
    · cases hm
end
end
/-- an entry: a function, its frozen arguments, what it returns -/
structure PE where
  f : Nat
  args : List AV
  v : AV
def PEOk (P : Program) (K : Nat) (e : PE) : Prop := ∀ h : AH, K ≤ h.nx → CallD P e.f e.args h e.v h
/-- entries by function -/
inductive PT where
  | leaf
  | one (f : Nat) (l : List PE)
  | node (m : Nat) (l r : PT)
def PT.Ok (P : Program) (K : Nat) : PT → Prop
  | .leaf => True
  | .one _ l => ∀ e ∈ l, PEOk P K e
  | .node _ l r => l.Ok P K ∧ r.Ok P K
end Go.Eng
end
