/- Closed runs cut into pieces: calls whose arguments are frozen, by what they were found to do. -/
import Derived.Test.YtoibclpbkjbnbaaGreatEngOX
import Derived.Test.YtoibclpbkjbnbaaGreatEngIN
set_option linter.unusedSimpArgs false
set_option linter.unusedVariables false
set_option linter.unnecessarySimpa false
noncomputable section
namespace Go.Eng
mutual
/-- nothing owned occurs, but for ghosts below K -/
def clsF (K : Nat) : AV → Bool
  | .bool _ | .int _ _ | .str _ | .nilptr | .nilsl | .esl | .nilfunc | .nilif | .nilmap | .gptr _ _ => true
  | .sint _ _ i _ _ _ => Nat.blt i K
  | .agg cs => clsL K cs
  | .psl xs => clsP K xs
  | _ => false
def clsL (K : Nat) : List AV → Bool
  | [] => true
  | a :: l => clsF K a && clsL K l
def clsP (K : Nat) : List (List AV) → Bool
  | [] => true
  | a :: l => clsL K a && clsP K l
end
section
variable {hp : Array Obj} {L : Nat → Prop} {β β2 : Bl} {K : Nat}
mutual
theorem clsF_ok (hβ : ∀ i, i < K → β2 i = β i) : ∀ (a : AV), clsF K a = true → ∀ v, VR hp L β a v → VR hp L β2 a v
  | .bool _, _, v, h => by cases h; exact .bool _
  | .int _ _, _, v, h => by cases h; exact .int _ _
  | .str _, _, v, h => by cases h; exact .str _
  | .nilptr, _, v, h => by cases h; exact .nilptr
  | .nilsl, _, v, h => by cases h; exact .nilsl
  | .esl, _, v, h => by cases h; exact .esl _
  | .nilfunc, _, v, h => by cases h; exact .nilfunc
  | .nilif, _, v, h => by cases h; exact .nilif
  | .nilmap, _, v, h => by cases h; exact .nilmap
  | .gptr _ _, _, v, h => by cases h; exact .gptr _ _
  | .sint k m i c lo hi, ho, v, h => by
    simp only [clsF, Nat.blt_eq] at ho
    cases h with
    | sint _ _ _ _ _ _ b base h h1 h2 => exact .sint k m i c lo hi b base (by rw [hβ i ho]; exact h) h1 h2
  | .agg cs, ho, v, h => by
    simp only [clsF] at ho
    cases h with
    | agg _ vs hl hx => exact .agg cs vs hl fun i c v hc hv => clsL_ok hβ cs ho i c hc v (hx i c v hc hv)
  | .psl xs, ho, v, h => by
    simp only [clsF] at ho
    cases h with
    | psl0 a cap => exact .psl0 a cap
    | psl _ z b o cap cur e fz hb hL hs hz hcap hx => exact .psl xs z b o cap cur e fz hb hL hs hz hcap fun i x j c v h1 h2 h3 => clsP_ok hβ xs ho i x h1 j c h2 v (hx i x j c v h1 h2 h3)
  | .undef, ho, _, _ => by simp [clsF] at ho
  | .tup _, ho, _, _ => by simp [clsF] at ho
  | .ptr _ _, ho, _, _ => by simp [clsF] at ho
  | .pptr _, ho, _, _ => by simp [clsF] at ho
  | .rsl _ _ _ _, ho, _, _ => by simp [clsF] at ho
  | .mapv _, ho, _, _ => by simp [clsF] at ho
  | .func _ _ _, ho, _, _ => by simp [clsF] at ho
  | .iface _ _, ho, _, _ => by simp [clsF] at ho
  | .scol _ _ _ _ _ _ _ _, ho, _, _ => by simp [clsF] at ho
theorem clsL_ok (hβ : ∀ i, i < K → β2 i = β i) : ∀ (l : List AV), clsL K l = true → ∀ (i : Nat) (c : AV), l[i]? = some c → ∀ v, VR hp L β c v → VR hp L β2 c v
  | [], _, i, c, hc, _, _ => by simp at hc
  | a :: l, ho, 0, c, hc, v, h => by
    simp at hc; subst hc
    simp only [clsL, Bool.and_eq_true] at ho
    exact clsF_ok hβ a ho.1 v h
  | a :: l, ho, i + 1, c, hc, v, h => by
    simp at hc
    simp only [clsL, Bool.and_eq_true] at ho
    exact clsL_ok hβ l ho.2 i c hc v h
theorem clsP_ok (hβ : ∀ i, i < K → β2 i = β i) : ∀ (l : List (List AV)), clsP K l = true → ∀ (i : Nat) (x : List AV), l[i]? = some x → ∀ (j : Nat) (c : AV), x[j]? = some c → ∀ v, VR hp L β c v → VR hp L β2 c v
  | [], _, i, c, hc, _, _, _, _, _ => by simp at hc
  | a :: l, ho, 0, x, hx, j, c, hc, v, h => by
    simp at hx; subst hx
    simp only [clsP, Bool.and_eq_true] at ho
    exact clsL_ok hβ a ho.1 j c hc v h
  | a :: l, ho, i + 1, x, hx, j, c, hc, v, h => by
    simp at hx
    simp only [clsP, Bool.and_eq_true] at ho
    exact clsP_ok hβ l ho.2 i x hx j c hc v h
end
end
mutual
/-- what a value is when all that it reaches is taken as frozen (K: how many ghosts there are; nw: nothing is reached that was frozen before) -/
def fzF (nw : Bool) (K : Nat) (h : AH) : Nat → AV → Option AV
  | 0, _ => none
  | n + 1, a => match a with
    | .bool b => some (.bool b)
    | .int k m => some (.int k m)
    | .str s => some (.str s)
    | .nilptr => some .nilptr
    | .nilfunc => some .nilfunc
    | .nilif => some .nilif
    | .nilmap => some .nilmap
    | .nilsl => some .nilsl
    | .esl => some .esl
    | .sint k m i c lo hi => cond (Nat.blt i K) (some (.sint k m i c lo hi)) none
    | .agg cs => (fzL nw K h n cs).map .agg
    | .tup cs => (fzL nw K h n cs).map .tup
    | .rsl id off len z => match h.cellsAt id with
      | some cs => cond (Nat.ble (off + len * z) cs.length) ((fzC nw K h n z len (cs.drop off)).map .psl) none
      | none => none
    | .psl xs => cond (nw && !xs.isEmpty) none ((fzP nw K h n xs).map .psl)
    | _ => none
def fzL (nw : Bool) (K : Nat) (h : AH) : Nat → List AV → Option (List AV)
  | _, [] => some []
  | 0, _ :: _ => none
  | n + 1, a :: l => match fzF nw K h n a, fzL nw K h n l with
    | some b, some m => some (b :: m)
    | _, _ => none
def fzP (nw : Bool) (K : Nat) (h : AH) : Nat → List (List AV) → Option (List (List AV))
  | _, [] => some []
  | 0, _ :: _ => none
  | n + 1, a :: l => match fzL nw K h n a, fzP nw K h n l with
    | some b, some m => some (b :: m)
    | _, _ => none
def fzC (nw : Bool) (K : Nat) (h : AH) : Nat → Nat → Nat → List AV → Option (List (List AV))
  | _, _, 0, _ => some []
  | 0, _, _ + 1, _ => none
  | n + 1, z, c + 1, l => match fzL nw K h n (l.take z), fzC nw K h n z c (l.drop z) with
    | some b, some m => some (b :: m)
    | _, _ => none
end
theorem fzL_len {nw : Bool} {K : Nat} {h : AH} : ∀ (n : Nat) (l m : List AV), fzL nw K h n l = some m → m.length = l.length
  | _, [], m, hm => by cases ‹Nat› <;> simp [fzL] at hm <;> subst hm <;> rfl
  | 0, a :: l, m, hm => by simp [fzL] at hm
  | n + 1, a :: l, m, hm => by
    simp only [fzL] at hm
    split at hm
    · rename_i b m' h1 h2
      cases hm
      simp [fzL_len n l m' h2]
    · cases hm
section
variable {own : Nat → Prop} {β : Bl} {h : AH} {nx : Nat} {w : World} {L2 : Nat → Prop} {β2 : Bl} {K : Nat} {nw : Bool}
mutual
theorem VR.frzK (hs : SimH own β h.H nx w) (h1 : ∀ b, live β h.H b → ¬ L2 b) (h2 : nw = false → ∀ b, ¬ LL own β h.H b → ¬ L2 b) (hβ : ∀ i, i < K → β2 i = β i) : ∀ (n : Nat) (a b : AV), fzF nw K h n a = some b → ∀ v, VR w.heap (LL own β h.H) β a v → VR w.heap L2 β2 b v
  | 0, a, b, hf, v, hv => by simp [fzF] at hf
  | n + 1, a, b, hf, v, hv => by
    unfold fzF at hf
    split at hf
    · cases hf; cases hv; exact .bool _
    · cases hf; cases hv; exact .int _ _
    · cases hf; cases hv; exact .str _
    · cases hf; cases hv; exact .nilptr
    · cases hf; cases hv; exact .nilfunc
    · cases hf; cases hv; exact .nilif
    · cases hf; cases hv; exact .nilmap
    · cases hf; cases hv; exact .nilsl
    · cases hf; cases hv; exact .esl _
    · rename_i k m i c lo hi
      cases hb : Nat.blt i K with
      | false => rw [hb] at hf; cases hf
      | true =>
        rw [hb] at hf
        cases hf
        have hik : i < K := by simpa [Nat.blt_eq] using hb
        cases hv with
        | sint _ _ _ _ _ _ b base h3 h4 h5 => exact .sint k m i c lo hi b base (by rw [hβ i hik]; exact h3) h4 h5
    · rename_i cs
      rw [Option.map_eq_some_iff] at hf
      obtain ⟨m, hm, rfl⟩ := hf
      cases hv with
      | agg _ vs hl hx =>
        have hlen := fzL_len n cs m hm
        refine .agg m vs (by omega) fun i d v hd hv' => ?_
        obtain ⟨c, hc⟩ := get_of_len hlen.symm hd
        exact VR.frzKL hs h1 h2 hβ n cs m hm i c d hc hd v (hx i c v hc hv')
    · rename_i cs
      rw [Option.map_eq_some_iff] at hf
      obtain ⟨m, hm, rfl⟩ := hf
      cases hv with
      | tup _ vs hl hx =>
        have hlen := fzL_len n cs m hm
        refine .tup m vs (by omega) fun i d v hd hv' => ?_
        obtain ⟨c, hc⟩ := get_of_len hlen.symm hd
        exact VR.frzKL hs h1 h2 hβ n cs m hm i c d hc hd v (hx i c v hc hv')
    · rename_i id off len z
      split at hf
      · rename_i cs hcs
        cases hb : Nat.ble (off + len * z) cs.length with
        | false => rw [hb] at hf; cases hf
        | true =>
          rw [hb] at hf
          simp only [cond_true, Option.map_eq_some_iff] at hf
          obtain ⟨m, hm, rfl⟩ := hf
          have hle := Nat.le_of_ble_eq_true hb
          obtain ⟨q1, q2, q3⟩ := VR.frzKC hs h1 h2 hβ n z len (cs.drop off) m hm (by simp; omega)
          obtain ⟨b, base, hbb, hnb, cur, e, hcur, hcs', hcell⟩ := hs.obj id _ (cellsAt_get hcs)
          have hlive : live β h.H b := ⟨id, _, base, cellsAt_get hcs, hbb⟩
          cases hv with
          | rsl _ _ _ _ b' base' cap cur' e' hb' hcur' hcap hmx hs2 =>
            rw [hbb] at hb'; cases hb'
            rw [hcur] at hcur'; cases hcur'
            have := VR.psl (hp := w.heap) (L := L2) (β := β2) m z b (base + off) cap cur e (0, 0) hcur (h1 b hlive) (by rw [q1]; omega) q2 (by omega) (fun i y j d v hy hd hv' => ?_)
            · rwa [q1] at this
            · have hi : i < len := by rw [← q1]; exact (List.getElem?_eq_some_iff.1 hy).1
              have hj : j < z := by rw [← q2 i y hy]; exact (List.getElem?_eq_some_iff.1 hd).1
              have hb1 : i * z + z ≤ len * z := by
                have := Nat.mul_le_mul_right z (show i + 1 ≤ len by omega)
                rw [Nat.succ_mul] at this; exact this
              have hlt : off + (i * z + j) < cs.length := by omega
              exact q3 i y j cs[off + (i * z + j)] d hy hd (by rw [List.getElem?_drop]; simp [hlt]) v (hcell (off + (i * z + j)) _ v (by simp [hlt]) (by rw [← hv']; congr 1; omega))
          | rsl0 _ _ _ b' base' o hb' =>
            have : m = [] := List.length_eq_zero_iff.1 q1
            subst this
            exact .psl0 _ _
      · cases hf
    · rename_i xs
      cases hq : (nw && !xs.isEmpty) with
      | true => rw [hq] at hf; cases hf
      | false =>
      rw [hq] at hf
      simp only [cond_false, Option.map_eq_some_iff] at hf
      obtain ⟨m, hm, rfl⟩ := hf
      obtain ⟨q1, q2, q3⟩ := VR.frzKP hs h1 h2 hβ n xs m hm
      cases hv with
      | psl0 a cap =>
        have : m = [] := List.length_eq_zero_iff.1 q1
        subst this
        exact .psl0 a cap
      | psl _ z b o cap cur e fz hb hL hs' hz hcap hv =>
        cases xs with
        | nil =>
          have : m = [] := List.length_eq_zero_iff.1 q1
          subst this
          exact .psl0 _ _
        | cons x0 xs0 =>
        have hnw : nw = false := by simpa using hq
        have := VR.psl (hp := w.heap) (L := L2) (β := β2) m z b o cap cur e fz hb (h2 hnw b hL) (by rw [q1]; exact hs') (fun i y hy => ?_) (by rw [q1]; exact hcap) (fun i y j d v hy hd hv' => ?_)
        · rwa [q1] at this
        · obtain ⟨x, hx'⟩ := get_of_len q1.symm hy
          rw [← q2 i x y hx' hy]; exact hz i x hx'
        · obtain ⟨x, hx'⟩ := get_of_len q1.symm hy
          obtain ⟨c, hc'⟩ := get_of_len (q2 i x y hx' hy) hd
          exact q3 i x y j c d hx' hy hc' hd v (hv i x j c v hx' hc' hv')
    · cases hf
theorem VR.frzKL (hs : SimH own β h.H nx w) (h1 : ∀ b, live β h.H b → ¬ L2 b) (h2 : nw = false → ∀ b, ¬ LL own β h.H b → ¬ L2 b) (hβ : ∀ i, i < K → β2 i = β i) : ∀ (n : Nat) (l m : List AV), fzL nw K h n l = some m → ∀ (i : Nat) (c d : AV), l[i]? = some c → m[i]? = some d → ∀ v, VR w.heap (LL own β h.H) β c v → VR w.heap L2 β2 d v
  | _, [], m, hm, i, c, d, hc, hd, _, _ => by simp at hc
  | 0, a :: l, m, hm, i, c, d, hc, hd, _, _ => by simp [fzL] at hm
  | n + 1, a :: l, m, hm, i, c, d, hc, hd, v, hv => by
    simp only [fzL] at hm
    split at hm
    · rename_i b m' h3 h4
      cases hm
      cases i with
      | zero => simp at hc hd; subst hc; subst hd; exact VR.frzK hs h1 h2 hβ n a b h3 v hv
      | succ i => simp at hc hd; exact VR.frzKL hs h1 h2 hβ n l m' h4 i c d hc hd v hv
    · cases hm
theorem VR.frzKP (hs : SimH own β h.H nx w) (h1 : ∀ b, live β h.H b → ¬ L2 b) (h2 : nw = false → ∀ b, ¬ LL own β h.H b → ¬ L2 b) (hβ : ∀ i, i < K → β2 i = β i) : ∀ (n : Nat) (l m : List (List AV)), fzP nw K h n l = some m → m.length = l.length ∧ (∀ (i : Nat) (x y : List AV), l[i]? = some x → m[i]? = some y → x.length = y.length) ∧
    ∀ (i : Nat) (x y : List AV) (j : Nat) (c d : AV), l[i]? = some x → m[i]? = some y → x[j]? = some c → y[j]? = some d → ∀ v, VR w.heap (LL own β h.H) β c v → VR w.heap L2 β2 d v
  | n, [], m, hm => by
    cases n <;> simp [fzP] at hm <;> subst hm <;> exact ⟨rfl, fun i x y hx => by simp at hx, fun i x y j c d hx => by simp at hx⟩
  | 0, a :: l, m, hm => by simp [fzP] at hm
  | n + 1, a :: l, m, hm => by
    simp only [fzP] at hm
    split at hm
    · rename_i b m' h3 h4
      cases hm
      obtain ⟨q1, q2, q3⟩ := VR.frzKP hs h1 h2 hβ n l m' h4
      refine ⟨by simp [q1], fun i x y hx hy => ?_, fun i x y j c d hx hy hc hd v hv => ?_⟩
      · cases i with
        | zero => simp at hx hy; subst hx; subst hy; exact (fzL_len n _ _ h3).symm
        | succ i => simp at hx hy; exact q2 i x y hx hy
      · cases i with
        | zero => simp at hx hy; subst hx; subst hy; exact VR.frzKL hs h1 h2 hβ n _ _ h3 j c d hc hd v hv
        | succ i => simp at hx hy; exact q3 i x y j c d hx hy hc hd v hv
    · cases hm
theorem VR.frzKC (hs : SimH own β h.H nx w) (h1 : ∀ b, live β h.H b → ¬ L2 b) (h2 : nw = false → ∀ b, ¬ LL own β h.H b → ¬ L2 b) (hβ : ∀ i, i < K → β2 i = β i) : ∀ (n z c : Nat) (l : List AV) (m : List (List AV)), fzC nw K h n z c l = some m → c * z ≤ l.length → m.length = c ∧ (∀ (i : Nat) (y : List AV), m[i]? = some y → y.length = z) ∧
    ∀ (i : Nat) (y : List AV) (j : Nat) (a b : AV), m[i]? = some y → y[j]? = some b → l[i * z + j]? = some a → ∀ v, VR w.heap (LL own β h.H) β a v → VR w.heap L2 β2 b v
  | n, z, 0, l, m, hm, hl => by
    cases n <;> simp [fzC] at hm <;> subst hm <;> exact ⟨rfl, fun i y hy => by simp at hy, fun i y j a b hy => by simp at hy⟩
  | 0, z, c + 1, l, m, hm, hl => by simp [fzC] at hm
  | n + 1, z, c + 1, l, m, hm, hl => by
    simp only [fzC] at hm
    split at hm
    · rename_i b m' h3 h4
      cases hm
      rw [Nat.succ_mul] at hl
      obtain ⟨q1, q2, q3⟩ := VR.frzKC hs h1 h2 hβ n z c (l.drop z) m' h4 (by simp; omega)
      have hbl : b.length = z := by rw [fzL_len n _ b h3]; simp; omega
      refine ⟨by simp [q1], fun i y hy => ?_, fun i y j a d hy hd ha v hv => ?_⟩
      · cases i with
        | zero => simp at hy; subst hy; exact hbl
        | succ i => simp at hy; exact q2 i y hy
      · cases i with
        | zero =>
          simp at hy
          subst hy
          have hj : j < z := by rw [← hbl]; exact (List.getElem?_eq_some_iff.1 hd).1
          exact VR.frzKL hs h1 h2 hβ n _ b h3 j a d (by rw [List.getElem?_take, if_pos hj]; simpa using ha) hd v hv
        | succ i =>
          simp at hy
          exact q3 i y j a d hy hd (by rw [List.getElem?_drop, ← ha]; congr 1; rw [Nat.succ_mul]; omega) v hv
    · cases hm
end
end
theorem SimH.kept {own : Nat → Prop} {β : Bl} {h : AH} {w w' : World} (hs : SimH own β h.H h.nx w) (hsz : w.heap.size ≤ w'.heap.size) (hkeep : ∀ b, b < w.heap.size → w'.heap[b]? = w.heap[b]?) (hT : Trans own β h w β h w') : SimH own β h.H h.nx w' := by
  refine ⟨hs.fresh, fun id b base hb => Nat.lt_of_lt_of_le (hs.lt id b base hb) hsz, fun b hb => Nat.lt_of_lt_of_le (hs.ownlt b hb) hsz, fun id o hg => ?_, hs.inj⟩
  obtain ⟨b, base, hb, hnb, hor⟩ := hs.obj id o hg
  refine ⟨b, base, hb, hnb, ?_⟩
  have hlt := hs.lt id b base hb
  cases o with
  | cells cs =>
    obtain ⟨cur, e, q1, q2, q3⟩ := hor
    exact ⟨cur, e, by rw [hkeep b hlt]; exact q1, q2, fun i c v k1 k2 => (q3 i c v k1 k2).later hT.later⟩
  | map kvs =>
    obtain ⟨q0, es, q1, q2, q3⟩ := hor
    exact ⟨q0, es, by rw [hkeep b hlt]; exact q1, q2, fun i kv e k1 k2 => ⟨(q3 i kv e k1 k2).1.later hT.later, (q3 i kv e k1 k2).2.1.later hT.later, (q3 i kv e k1 k2).2.2⟩⟩
  | siter s pos => exact ⟨hor.1, by rw [hkeep b hlt]; exact hor.2⟩
  | glob g cs =>
    obtain ⟨q0, q00, cur, e, fz, q1, q2, q3⟩ := hor
    exact ⟨q0, q00, cur, e, fz, by rw [hkeep b hlt]; exact q1, q2, fun i c v k1 k2 => (q3 i c v k1 k2).later hT.later⟩
/-- A function that is run where only ghosts stand, called anywhere with these arguments. -/
theorem frameG {P : Program} {f K n : Nat} {args : List AV} {v0 v : AV} {h0 : AH} (hc : CallD P f args ⟨.leaf, K⟩ v0 h0) (hcl : clsL K args = true) (hf : fzF false K h0 n v0 = some v) {h : AH} (hK : K ≤ h.nx) : CallD P f args h v h := by
  refine ⟨hc.1, fun own β w cargs hs hRL => ?_⟩
  let βr : Bl := fun id => if id < K then β id else none
  have hβr : ∀ i, i < K → βr i = β i := fun i hi => by simp [βr, hi]
  have hll : ∀ b, ¬ live βr (.leaf : Hp) b := by
    rintro b ⟨id, o, base, h, _⟩; simp [PM.get] at h
  have hS : SimH (LL own β h.H) βr (⟨.leaf, K⟩ : AH).H (⟨.leaf, K⟩ : AH).nx w := by
    refine ⟨fun id hid => ?_, fun id b base hb => ?_, fun b hb => hs.ll hb, fun id o hg => by simp [PM.get] at hg, fun id id' o o' b x y hg => by simp [PM.get] at hg⟩
    · have : ¬ id < K := Nat.not_lt.2 hid
      simp [βr, this]
    · by_cases hid : id < K
      · rw [hβr id hid] at hb; exact hs.lt id b base hb
      · simp [βr, hid] at hb
  have heq : LL (LL own β h.H) βr (⟨.leaf, K⟩ : AH).H = LL own β h.H := by
    funext b
    apply propext
    exact ⟨fun hx => hx.elim id (fun hl => absurd hl (hll b)), .inl⟩
  have hR : RL w.heap (LL (LL own β h.H) βr (⟨.leaf, K⟩ : AH).H) βr args cargs.toList := by
    rw [heq]
    exact ⟨hRL.1, fun i c v h1 h2 => clsL_ok hβr args hcl i c h1 v (hRL.2 i c v h1 h2)⟩
  refine (hc.2 (LL own β h.H) βr w cargs hS hR).mono ?_
  rintro e w' ⟨cv, v1, h1, β0, rfl, ⟨rfl, rfl⟩, hs0, hv0, ht⟩
  have hkeep : ∀ b, b < w.heap.size → w'.heap[b]? = w.heap[b]? := fun b hb => ht.keep b hb (hll b)
  have hT : Trans own β h w β h w' := ⟨fun _ _ h => h, fun _ _ => rfl, Nat.le_refl _, ht.size, fun b hb _ => hkeep b hb, fun _ h => .inl h, fun b cur e fz hb => ⟨cur, by rw [hkeep b (lt_of_get hb)]; exact hb, rfl⟩, ht.os, ht.tape, ht.output⟩
  have hSS : SimH own β h.H h.nx w' := hs.kept ht.size hkeep hT
  refine ⟨cv, v, h, β, rfl, ⟨rfl, rfl⟩, hSS, ?_, hT⟩
  refine VR.frzK hs0 (fun b hb hl => ?_) (fun _ b hb hl => hb (.inl hl)) (fun i hi => ?_) n v1 v hf cv hv0
  · rcases ht.live b hb with h2 | h2
    · exact hll b h2
    · have := hs.ll hl; omega
  · rw [ht.low i hi, hβr i hi]


/-- A function that is run where only ghosts stand, called where its arguments can be taken as frozen; the result reaches nothing that was there. -/
theorem frameF {P : Program} {f K n m : Nat} {args pargs : List AV} {v0 v : AV} {h0 : AH} (hc : CallD P f pargs ⟨.leaf, K⟩ v0 h0) (hf : fzF true K h0 n v0 = some v) {h : AH} (hK : K ≤ h.nx) (ha : fzL false K h m args = some pargs) : CallD P f args h v h := by
  refine ⟨hc.1, fun own β w cargs hs hRL => ?_⟩
  let βr : Bl := fun id => if id < K then β id else none
  have hβr : ∀ i, i < K → βr i = β i := fun i hi => by simp [βr, hi]
  have hll : ∀ b, ¬ live βr (.leaf : Hp) b := by
    rintro b ⟨id, o, base, h, _⟩; simp [PM.get] at h
  have hno : ∀ b, ¬ LL (fun _ => False) βr (⟨.leaf, K⟩ : AH).H b := fun b hl => hl.elim (fun h => h) (hll b)
  have hS : SimH (fun _ => False) βr (⟨.leaf, K⟩ : AH).H (⟨.leaf, K⟩ : AH).nx w := by
    refine ⟨fun id hid => ?_, fun id b base hb => ?_, fun b hb => hb.elim, fun id o hg => by simp [PM.get] at hg, fun id id' o o' b x y hg => by simp [PM.get] at hg⟩
    · have : ¬ id < K := Nat.not_lt.2 hid
      simp [βr, this]
    · by_cases hid : id < K
      · rw [hβr id hid] at hb; exact hs.lt id b base hb
      · simp [βr, hid] at hb
  have hR : RL w.heap (LL (fun _ => False) βr (⟨.leaf, K⟩ : AH).H) βr pargs cargs.toList := by
    have hlen := fzL_len m args pargs ha
    refine ⟨by rw [hlen]; exact hRL.1, fun i d v h1 h2 => ?_⟩
    obtain ⟨c, hc'⟩ := get_of_len hlen.symm h1
    exact VR.frzKL hs (fun b _ => hno b) (fun _ b _ => hno b) hβr m args pargs ha i c d hc' h1 v (hRL.2 i c v hc' h2)
  refine (hc.2 (fun _ => False) βr w cargs hS hR).mono ?_
  rintro e w' ⟨cv, v1, h1, β0, rfl, ⟨rfl, rfl⟩, hs0, hv0, ht⟩
  have hkeep : ∀ b, b < w.heap.size → w'.heap[b]? = w.heap[b]? := fun b hb => ht.keep b hb (hll b)
  have hT : Trans own β h w β h w' := ⟨fun _ _ h => h, fun _ _ => rfl, Nat.le_refl _, ht.size, fun b hb _ => hkeep b hb, fun _ h => .inl h, fun b cur e fz hb => ⟨cur, by rw [hkeep b (lt_of_get hb)]; exact hb, rfl⟩, ht.os, ht.tape, ht.output⟩
  refine ⟨cv, v, h, β, rfl, ⟨rfl, rfl⟩, hs.kept ht.size hkeep hT, ?_, hT⟩
  refine VR.frzK hs0 (fun b hb hl => ?_) (fun hn => by cases hn) (fun i hi => ?_) n v1 v hf cv hv0
  · rcases ht.live b hb with h2 | h2
    · exact hll b h2
    · have := hs.ll hl; omega
  · rw [ht.low i hi, hβr i hi]
/-- an entry: a function, its frozen arguments, what it returns -/
structure PE where
  f : Nat
  args : List AV
  v : AV
def frzB (nw : Bool) (K : Nat) (r : Option (AV × AH)) (v : AV) : Bool :=
  match r with
  | some (v0, h0) => match fzF nw K h0 1000 v0 with
    | some u => AV.beq u v
    | none => false
  | none => false
def peOk (cl : Handler) (K : Nat) (e : PE) : Bool := cond (clsL K e.args) (frzB false K (cl e.f e.args ⟨.leaf, K⟩) e.v) false
/-- from behind -/
def beqR (x y : List AV) : Bool := AV.beqL x.reverse y.reverse
def pfind (f : Nat) (args : List AV) (h : AH) : List PE → Option (AV × AH)
  | [] => none
  | e :: r => cond (Nat.beq f e.f) (cond (beqR args e.args) (some (e.v, h)) (pfind f args h r)) (pfind f args h r)
def pH (K : Nat) (l : List PE) : Handler := fun f args h => cond (Nat.ble K h.nx) (pfind f args h l) none
def PEOk (P : Program) (K : Nat) (e : PE) : Prop := ∀ h : AH, K ≤ h.nx → CallD P e.f e.args h e.v h
theorem peOk_ok {P : Program} {cl : Handler} (hcl : FOk P cl) {K : Nat} {e : PE} (h : peOk cl K e = true) : PEOk P K e := by
  unfold peOk at h
  cases hc : clsL K e.args with
  | false => rw [hc] at h; cases h
  | true =>
  rw [hc] at h
  simp only [cond_true, frzB] at h
  split at h
  · rename_i v0 h0 hr
    split at h
    · rename_i u hu
      have := AV.beq_eq _ _ h
      subst this
      exact fun g hg => frameG (hcl _ _ _ _ _ hr) hc hu hg
    · cases h
  · cases h
theorem pH_ok {P : Program} {K : Nat} : ∀ {l : List PE}, (∀ e ∈ l, PEOk P K e) → FOk P (pH K l) := by
  intro l hl f args h v h' ha
  unfold pH at ha
  cases hb : Nat.ble K h.nx with
  | false => rw [hb] at ha; cases ha
  | true =>
  rw [hb] at ha
  simp only [cond_true] at ha
  have hle := Nat.le_of_ble_eq_true hb
  clear hb
  induction l with
  | nil => cases ha
  | cons e r ih =>
    have ihr := ih fun e he => hl e (List.mem_cons_of_mem _ he)
    simp only [pfind] at ha
    cases h1 : Nat.beq f e.f with
    | false => rw [h1] at ha; exact ihr ha
    | true =>
      rw [h1] at ha
      simp only [cond_true] at ha
      cases h2 : beqR args e.args with
      | false => rw [h2] at ha; exact ihr ha
      | true =>
        rw [h2] at ha
        cases ha
        have e1 := Nat.eq_of_beq_eq_true h1
        have e2 : args = e.args := by
          have := AV.beqL_eq _ _ h2
          simpa using congrArg List.reverse this
        subst e2; subst e1
        exact hl e (List.mem_cons_self ..) h hle
/-- calls with arguments that can be taken as frozen -/
def geOk (cl : Handler) (K : Nat) (e : PE) : Bool := frzB true K (cl e.f e.args ⟨.leaf, K⟩) e.v
def GEOk (P : Program) (K : Nat) (e : PE) : Prop := ∀ (m : Nat) (args : List AV) (h : AH), K ≤ h.nx → fzL false K h m args = some e.args → CallD P e.f args h e.v h
theorem geOk_ok {P : Program} {cl : Handler} (hcl : FOk P cl) {K : Nat} {e : PE} (h : geOk cl K e = true) : GEOk P K e := by
  unfold geOk frzB at h
  split at h
  · rename_i v0 h0 hr
    split at h
    · rename_i u hu
      have := AV.beq_eq _ _ h
      subst this
      exact fun m args g hg ha => frameF (hcl _ _ _ _ _ hr) hu hg ha
    · cases h
  · cases h
def gcall (K : Nat) (e : PE) (args : List AV) (h : AH) : Option (AV × AH) :=
  match fzL false K h 1000 args with
  | some p => cond (AV.beqL p e.args) (some (e.v, h)) none
  | none => none
def gfind (K f : Nat) (args : List AV) (h : AH) : List PE → Option (AV × AH)
  | [] => none
  | e :: r => cond (Nat.beq f e.f) (gcall K e args h) (gfind K f args h r)
/-- one entry a function -/
def gH (K : Nat) (l : List PE) : Handler := fun f args h => cond (Nat.ble K h.nx) (gfind K f args h l) none
theorem gH_ok {P : Program} {K : Nat} : ∀ {l : List PE}, (∀ e ∈ l, GEOk P K e) → FOk P (gH K l) := by
  intro l hl f args h v h' ha
  unfold gH at ha
  cases hb : Nat.ble K h.nx with
  | false => rw [hb] at ha; cases ha
  | true =>
  rw [hb] at ha
  simp only [cond_true] at ha
  have hle := Nat.le_of_ble_eq_true hb
  clear hb
  induction l with
  | nil => cases ha
  | cons e r ih =>
    simp only [gfind] at ha
    cases h1 : Nat.beq f e.f with
    | false => rw [h1] at ha; exact ih (fun e he => hl e (List.mem_cons_of_mem _ he)) ha
    | true =>
      rw [h1] at ha
      simp only [cond_true, gcall] at ha
      split at ha
      · rename_i p hp
        cases h2 : AV.beqL p e.args with
        | false => rw [h2] at ha; cases ha
        | true =>
          rw [h2] at ha
          cases ha
          have e1 := Nat.eq_of_beq_eq_true h1
          have e2 := AV.beqL_eq _ _ h2
          subst e2; subst e1
          exact hl e (List.mem_cons_self ..) _ _ h hle hp
      · cases ha
/-- entries by function -/
inductive PT where
  | leaf
  | one (f : Nat) (l : List PE)
  | node (m : Nat) (l r : PT)
def PT.find : PT → Nat → List AV → AH → Option (AV × AH)
  | .leaf, _, _, _ => none
  | .one k l, f, args, h => cond (Nat.beq f k) (pfind f args h l) none
  | .node m l r, f, args, h => cond (Nat.blt f m) (l.find f args h) (r.find f args h)
def PT.Ok (P : Program) (K : Nat) : PT → Prop
  | .leaf => True
  | .one _ l => ∀ e ∈ l, PEOk P K e
  | .node _ l r => l.Ok P K ∧ r.Ok P K
def pTH (K : Nat) (t : PT) : Handler := fun f args h => cond (Nat.ble K h.nx) (t.find f args h) none
theorem pTH_ok {P : Program} {K : Nat} : ∀ {t : PT}, t.Ok P K → FOk P (pTH K t) := by
  intro t
  induction t with
  | leaf => intro _ f args h v h' ha; unfold pTH at ha; cases hb : Nat.ble K h.nx <;> rw [hb] at ha <;> cases ha
  | one k l =>
    intro ho f args h v h' ha
    refine pH_ok (K := K) (l := l) ho f args h v h' ?_
    unfold pTH at ha
    unfold pH
    cases hb : Nat.ble K h.nx with
    | false => rw [hb] at ha; cases ha
    | true =>
      rw [hb] at ha
      simp only [cond_true, PT.find] at ha ⊢
      cases hq : Nat.beq f k with
      | false => rw [hq] at ha; cases ha
      | true => rw [hq] at ha; exact ha
  | node m l r ihl ihr =>
    intro ho f args h v h' ha
    unfold pTH at ha
    cases hb : Nat.ble K h.nx with
    | false => rw [hb] at ha; cases ha
    | true =>
      rw [hb] at ha
      simp only [cond_true, PT.find] at ha
      cases hq : Nat.blt f m with
      | true => rw [hq] at ha; exact ihl ho.1 f args h v h' (by unfold pTH; rw [hb]; exact ha)
      | false => rw [hq] at ha; exact ihr ho.2 f args h v h' (by unfold pTH; rw [hb]; exact ha)
def orH (a b : Handler) : Handler := fun f args h => orb (a f args h) (b f args h)
theorem orH_ok {P : Program} {a b : Handler} (ha : FOk P a) (hb : FOk P b) : FOk P (orH a b) := by
  intro f args h v h' hr
  unfold orH orb at hr
  split at hr
  · rename_i r hq; cases hr; exact ha _ _ _ _ _ hq
  · exact hb _ _ _ _ _ hr
end Go.Eng
end
