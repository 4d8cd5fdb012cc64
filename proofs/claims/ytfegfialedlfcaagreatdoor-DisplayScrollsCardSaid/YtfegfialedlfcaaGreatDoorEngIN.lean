/- Arguments that are read: integers, truths, strings, structures of these, slices of these. A call that ends with one new object and changed old ones: what else it has made is forgotten, what the new object holds is frozen. A call after which the heap is taken as before but for some old objects. Printed functions without printed code: notes on joins and loops. A table of all contracts that hold. Closed runs: an executor whose answers the transformer of predicates has too. Words of the functions that are printed for closed runs; tables of them. Numbers for ghosts: what a run with numbers that are known by bounds says of each choice of them; freezing what it leaves. -/
import Derived.Test.YtfegfialedlfcaaGreatDoorEngBB
import Derived.ChangeArms
import Derived.ChangeSame
import Derived.Handy
import Derived.KernelRfl
import Derived.Test.YtfegfialedlfcaaGreatDoorEngW
set_option linter.unusedSimpArgs false
set_option linter.unusedVariables false
set_option linter.unnecessarySimpa false
noncomputable section
namespace Go.Eng
open Go.RowKit
inductive SH where
  | int (k : IntKind)
  | bool
  | str
  | sl (e : List SH)

mutual
inductive HasSh : AV → SH → Prop where
  | int (k : IntKind) (n : Int) (h : (Lit.int k n).wf = true) : HasSh (.int k n) (.int k)
  | bool (b : Bool) : HasSh (.bool b) .bool
  | str (s : List UInt8) (h : s.length ≤ maxLen) : HasSh (.str s) .str
  | sl (xs : List (List AV)) (e : List SH) (h : xs.length ≤ maxLen) (hx : ∀ x ∈ xs, HasShL x e) : HasSh (.psl xs) (.sl e)
inductive HasShL : List AV → List SH → Prop where
  | nil : HasShL [] []
  | cons (a : AV) (s : SH) (ar : List AV) (ss : List SH) (h : HasSh a s) (hs : HasShL ar ss) : HasShL (a :: ar) (s :: ss)
end
theorem HasShL.len : ∀ {ar : List AV} {ss : List SH}, HasShL ar ss → ar.length = ss.length
  | _, _, .nil => rfl
  | _, _, .cons _ _ _ _ _ hs => by simp [hs.len]
theorem HasShL.append : ∀ {ar bs : List AV} {ss ts : List SH}, HasShL ar ss → HasShL bs ts → HasShL (ar ++ bs) (ss ++ ts)
  | _, _, _, _, .nil, k => k
  | _, _, _, _, .cons a s ar ss h hs, k => .cons a s _ _ h (hs.append k)

def shFs (cells : TypeId → Nat) (rec : TypeId → Option (List SH)) : Nat → List Field → Option (List SH)
  | _, [] => some []
  | off, f :: fs => match rec f.type with
    | some s => if f.offset = off ∧ s.length = cells f.type then (match shFs cells rec (off + s.length) fs with
      | some r => some (s ++ r)
      | none => none) else none
    | none => none
def shOf (P : Program) : Nat → TypeId → Option (List SH)
  | 0, _ => none
  | n + 1, t => match P.underlying t with
    | some .bool => some [.bool]
    | some (.int k) => some [.int k]
    | some .string => some [.str]
    | some (.slice e) => match shOf P n e with
      | some s => if s.length = P.cellsOf e ∧ 0 < s.length then some [.sl s] else none
      | none => none
    | some (.struct fs) => match shFs P.cellsOf (shOf P n) 0 fs.toList with
      | some s => if s.length = P.cellsOf t then some s else none
      | none => none
    | _ => none

theorem exists_list {α : Type} {p : Nat → α → Prop} : ∀ (n : Nat), (∀ i, i < n → ∃ y, p i y) → ∃ l : List α, l.length = n ∧ ∀ i y, l[i]? = some y → p i y
  | 0, _ => ⟨[], rfl, fun i y h => by simp at h⟩
  | n + 1, h => by
    obtain ⟨l, h1, h2⟩ := exists_list n fun i hi => h i (by omega)
    obtain ⟨y, hy⟩ := h n (by omega)
    refine ⟨l ++ [y], by simp [h1], fun i z hz => ?_⟩
    rw [List.getElem?_append] at hz
    split at hz
    · exact h2 i z hz
    · rename_i hi
      have : i = n := by
        have := (List.getElem?_eq_some_iff.1 hz).1
        simp at this; omega
      subst this
      simp [h1] at hz; subst hz; exact hy

section
variable {H : Type} {enc : TypeId × Value → H} {P : Program} {w : World} {spare : Nat → Bool} {held : Bool} {L : Nat → Prop}
def Reads (w : World) (L : Nat → Prop) (ar : List AV) (cs : List Value) : Prop := ar.length = cs.length ∧ ∀ (i : Nat) (c : AV) (v : Value), ar[i]? = some c → cs[i]? = some v → VR w.heap L noB c v

theorem open_fs (hL : ∀ b, ¬ L b) {n m : Nat} {cs : List Value} (ih : ∀ (t : TypeId) (s : List SH) (cs : List Value) (x : DataW H × List MemPlace), shOf P m t = some s → DataW.trod enc P w 0 spare held n t cs = some x → ∃ ar, HasShL ar s ∧ Reads w L ar cs) :
    ∀ (fl : List Field) (off : Nat) (s : List SH), shFs P.cellsOf (shOf P m) off fl = some s → (∀ f ∈ fl, ∃ y, DataW.trod enc P w 0 spare held n f.type ((cs.drop f.offset).take (P.cellsOf f.type)) = some y) →
      ∃ ar, HasShL ar s ∧ ∀ (i : Nat) (c : AV) (v : Value), ar[i]? = some c → cs[off + i]? = some v → VR w.heap L noB c v
  | [], off, s, hs, _ => by simp [shFs] at hs; subst hs; exact ⟨[], .nil, fun i c v h => by simp at h⟩
  | f :: fl, off, s, hs, hf => by
    unfold shFs at hs
    split at hs
    case h_2 => cases hs
    rename_i s1 h1
    split at hs
    case isFalse => cases hs
    rename_i h2
    split at hs
    case h_2 => cases hs
    rename_i r h3
    cases hs
    obtain ⟨y, hy⟩ := hf f (by simp)
    obtain ⟨ar, q1, q2⟩ := ih _ _ _ _ h1 hy
    obtain ⟨bs, q3, q4⟩ := open_fs hL ih fl _ _ h3 fun g hg => hf g (by simp [hg])
    have hl := q1.len
    refine ⟨ar ++ bs, q1.append q3, fun i c v k1 k2 => ?_⟩
    rw [List.getElem?_append] at k1
    split at k1
    · rename_i hi
      refine q2.2 i c v k1 ?_
      rw [List.getElem?_take, if_pos (by omega), List.getElem?_drop, h2.1]; exact k2
    · rename_i hi
      refine q4 (i - ar.length) c v k1 ?_
      rw [← k2]; congr 1; omega

theorem open_sh (hL : ∀ b, ¬ L b) : ∀ (n m : Nat) (t : TypeId) (s : List SH) (cs : List Value) (x : DataW H × List MemPlace), shOf P m t = some s → DataW.trod enc P w 0 spare held n t cs = some x → ∃ ar, HasShL ar s ∧ Reads w L ar cs
  | 0, m, t, s, cs, x, _, h => by simp [DataW.trod] at h
  | n + 1, 0, t, s, cs, x, hs, _ => by simp [shOf] at hs
  | n + 1, m + 1, t, s, cs, x, hs, h => by
    unfold shOf at hs
    split at hs
    · rename_i ht
      cases hs
      obtain ⟨b, rfl, _⟩ := DataW.trod_bool ht h
      exact ⟨[.bool b], .cons _ _ _ _ (.bool b) .nil, rfl, fun i c v h1 h2 => by
        match i with
        | 0 => simp at h1 h2; subst h1; subst h2; exact .bool b
        | i + 1 => simp at h1⟩
    · rename_i k ht
      cases hs
      obtain ⟨z, rfl, _, hw⟩ := DataW.trod_int ht h
      exact ⟨[.int k z], .cons _ _ _ _ (.int k z hw) .nil, rfl, fun i c v h1 h2 => by
        match i with
        | 0 => simp at h1 h2; subst h1; subst h2; exact .int k z
        | i + 1 => simp at h1⟩
    · rename_i ht
      cases hs
      obtain ⟨z, rfl, _, hw⟩ := DataW.trod_string ht h
      refine ⟨[.str z.data.toList], .cons _ _ _ _ (.str _ (by simpa using hw)) .nil, rfl, fun i c v h1 h2 => ?_⟩
      match i with
      | 0 =>
        simp at h1 h2; subst h1; subst h2
        have : z = ⟨z.data.toList.toArray⟩ := by cases z; simp
        rw [this]; exact .str _
      | i + 1 => simp at h1
    · rename_i e ht
      split at hs
      case h_2 => cases hs
      rename_i s1 h1
      split at hs
      case isFalse => cases hs
      rename_i h2
      cases hs
      rcases DataW.trod_slice ht h with ⟨rfl, _⟩ | ⟨a, len, cap, elems, rest, n', hn, rfl, _, _, hlc, hcm, hel, hx, _, _⟩
      · refine ⟨[.psl []], .cons _ _ _ _ (.sl [] _ (by simp) (fun x hx => by simp at hx)) .nil, rfl, fun i c v q1 q2 => ?_⟩
        match i with
        | 0 => simp at q1 q2; subst q1; subst q2; exact .psl0 none 0
        | i + 1 => simp at q1
      · cases hn
        have each : ∀ i, i < len → ∃ ar : List AV, HasShL ar s1 ∧ ∃ ds, w.cells? 0 (a.add (i * P.cellsOf e)) (P.cellsOf e) = some ds ∧ Reads w L ar ds := by
          intro i hi
          have := hx i hi
          obtain ⟨y, hy⟩ : ∃ y, elems[i]? = some y := ⟨elems[i], by simp [hel, hi]⟩
          rw [hy, Option.bind_eq_some_iff] at this
          obtain ⟨ds, q1, q2⟩ := this
          obtain ⟨ar, q3, q4⟩ := open_sh hL n m e s1 ds y h1 q2
          exact ⟨ar, q3, ds, q1, q4⟩
        obtain ⟨l, hl1, hl2⟩ := exists_list len each
        have hmem : ∀ x ∈ l, HasShL x s1 := fun x hx => by
          obtain ⟨i, hi⟩ := List.getElem?_of_mem hx
          exact (hl2 i x hi).1
        refine ⟨[.psl l], .cons _ _ _ _ (.sl l s1 (by omega) hmem) .nil, rfl, fun i c v q1 q2 => ?_⟩
        match i with
        | i + 1 => simp at q1
        | 0 =>
          simp at q1 q2; subst q1; subst q2
          by_cases hz : len = 0
          · subst hz
            have : l = [] := List.length_eq_zero_iff.1 hl1
            subst this
            exact .psl0 _ _
          · -- the block
            have cellat : ∀ i j, i < len → j < s1.length → ∃ v, w.cell? (a.add (i * P.cellsOf e + j)) = some v ∧ ∀ x c, l[i]? = some x → x[j]? = some c → VR w.heap L noB c v := by
              intro i j hi hj
              obtain ⟨y, hy⟩ : ∃ y, l[i]? = some y := ⟨l[i]'(by omega), by simp [hl1, hi]⟩
              obtain ⟨q3, ds, q4, q5⟩ := hl2 i y hy
              obtain ⟨_, q6, q7⟩ := World.cells?_some q4
              have hj2 : j < ds.length := by omega
              have := q7 j (by omega)
              rw [show (a.add (i * P.cellsOf e)).add j = a.add (i * P.cellsOf e + j) by unfold Addr.add; (repeat' split) <;> simp_all [Nat.add_assoc]] at this
              refine ⟨ds[j], by rw [this]; simp [hj2], fun x c k1 k2 => ?_⟩
              rw [hy] at k1; cases k1
              exact q5.2 j c _ k2 (by simp [hj2])
            obtain ⟨v0, hv0, _⟩ := cellat 0 0 (by omega) h2.2
            obtain ⟨b, o, sp⟩ := a
            have hsp : sp = none := by
              have := World.cell?_spot hv0
              simpa [Addr.add] using this
            subst hsp
            have hadd : ∀ n, (⟨b, o, none⟩ : Addr).add n = ⟨b, o + n, none⟩ := fun n => add_lit' b o n
            rw [hadd] at hv0
            obtain ⟨cur, et, fz, hb⟩ : ∃ cur et fz, w.heap[b]? = some (.cells cur et fz) := by
              unfold World.cell? at hv0
              split at hv0
              · rename_i c et fz hq; exact ⟨c, et, fz, hq⟩
              · cases hv0
            have hcell : ∀ n v, w.cell? ⟨b, o + n, none⟩ = some v → cur[o + n]? = some v := by
              intro n v hv
              unfold World.cell? at hv
              simp only [hb] at hv
              simpa using hv
            have hsz : o + l.length * s1.length ≤ cur.size := by
              obtain ⟨v1, hv1, _⟩ := cellat (len - 1) (s1.length - 1) (by omega) (by omega)
              rw [hadd] at hv1
              have := (Array.getElem?_eq_some_iff.1 (hcell _ _ hv1)).1
              rw [← h2.1] at this
              rw [hl1]
              have h4 : len * s1.length = (len - 1) * s1.length + s1.length := by
                conv => lhs; rw [show len = (len - 1) + 1 by omega]
                rw [Nat.succ_mul]
              have := h2.2
              omega
            have := VR.psl (hp := w.heap) (L := L) (β := noB) l s1.length b o cap cur et fz hb (hL b) hsz (fun i x hi => (hl2 i x hi).1.len) (by omega) (fun i x j c v k1 k2 k3 => ?_)
            · rw [hl1] at this; exact this
            · have hi : i < len := by have := (List.getElem?_eq_some_iff.1 k1).1; omega
              have hj : j < s1.length := by
                have := (List.getElem?_eq_some_iff.1 k2).1
                rw [(hl2 i x k1).1.len] at this; exact this
              obtain ⟨v1, hv1, hv2⟩ := cellat i j hi hj
              rw [hadd] at hv1
              have := hcell _ _ hv1
              rw [← h2.1, ← Nat.add_assoc] at this
              rw [k3] at this; cases this
              exact hv2 x c k1 k2
    · rename_i fs ht
      split at hs
      case h_2 => cases hs
      rename_i s1 h1
      split at hs
      case isFalse => cases hs
      rename_i h2
      cases hs
      obtain ⟨xs, n', hn, _, hlen, hxl, hf⟩ := DataW.trod_struct ht h
      cases hn
      obtain ⟨ar, q1, q2⟩ := open_fs (cs := cs) hL (fun t s cs x a b => open_sh hL n m t s cs x a b) fs.toList 0 s h1 fun f hfm => by
        obtain ⟨i, hi⟩ := List.getElem?_of_mem hfm
        have hi2 : fs[i]? = some f := by simpa using hi
        have hlt : i < fs.size := (Array.getElem?_eq_some_iff.1 hi2).1
        exact ⟨xs[i]'(by omega), by rw [hf i f hi2]; simp [hxl, hlt]⟩
      exact ⟨ar, q1, by rw [q1.len, hlen]; exact h2, fun i c v k1 k2 => q2 i c v k1 (by rw [Nat.zero_add]; exact k2)⟩
    · cases hs
end
end Go.Eng
end
noncomputable section
namespace Go.Eng
open Go.RowKit
/-- VR.frz, where the objects that are frozen are some of those that are owned -/
theorem VR.frzs {own : Nat → Prop} {β : Bl} {h hg : AH} {nx : Nat} {w : World} (hs : SimH own β h.H nx w) (hsub : ∀ i o, hg.H.get i = some o → h.H.get i = some o) {L2 : Nat → Prop} {β2 : Bl} {n : Bool} (h1 : ∀ b, live β hg.H b → ¬ L2 b) (h2 : n = false → ∀ b, ¬ LL own β h.H b → ¬ L2 b)
    {a a' : AV} (hf : Frz hg n a a') : ∀ {v : Value}, VR w.heap (LL own β h.H) β a v → VR w.heap L2 β2 a' v := by
  induction hf with
  | undef a => intro v hv; exact .undef v
  | bool b => intro v hv; cases hv; exact .bool b
  | int k m => intro v hv; cases hv; exact .int k m
  | str s => intro v hv; cases hv; exact .str s
  | nilptr => intro v hv; cases hv; exact .nilptr
  | nilfunc => intro v hv; cases hv; exact .nilfunc
  | nilif => intro v hv; cases hv; exact .nilif
  | nilmap => intro v hv; cases hv; exact .nilmap
  | nilsl0 => intro v hv; cases hv; exact .nilsl
  | nilsl => intro v hv; cases hv; exact .psl0 _ _
  | esl0 => intro v hv; cases hv; exact .esl _
  | esl => intro v hv; cases hv; exact .psl0 _ _
  | gptr g o => intro v hv; cases hv; exact .gptr g o
  | agg cs ds hl hc ih =>
    intro v hv
    cases hv with
    | agg _ vs hl2 hv =>
      refine .agg ds vs (hl ▸ hl2) fun i d v hd hv' => ?_
      obtain ⟨c, hc'⟩ := get_of_len hl hd
      exact ih i c d hc' hd (hv i c v hc' hv')
  | tup cs ds hl hc ih =>
    intro v hv
    cases hv with
    | tup _ vs hl2 hv =>
      refine .tup ds vs (hl ▸ hl2) fun i d v hd hv' => ?_
      obtain ⟨c, hc'⟩ := get_of_len hl hd
      exact ih i c d hc' hd (hv i c v hc' hv')
  | psl0 => intro v hv; cases hv <;> exact .psl0 _ _
  | psl hn xs ys hl hx hc ih =>
    intro v hv
    cases hv with
    | psl0 a cap => cases ys with
      | nil => exact .psl0 a cap
      | cons y ys => simp at hl
    | psl _ z b o cap cur e fz hb hL hs' hz hcap hv =>
      rw [hl]
      refine .psl ys z b o cap cur e fz hb (h2 hn b hL) (hl ▸ hs') (fun i y hy => ?_) (hl ▸ hcap) fun i y j d v hy hd hv' => ?_
      · obtain ⟨x, hx'⟩ := get_of_len hl hy
        rw [← hx i x y hx' hy]; exact hz i x hx'
      · obtain ⟨x, hx'⟩ := get_of_len hl hy
        obtain ⟨c, hc'⟩ := get_of_len (hx i x y hx' hy) hd
        exact ih i x y j c d hx' hy hc' hd (hv i x j c v hx' hc' hv')
  | pptr hn cs ds hl hc ih =>
    intro v hv
    cases hv with
    | pptr _ b o cur e fz hb hL hs' hv =>
      refine .pptr ds b o cur e fz hb (h2 hn b hL) (hl ▸ hs') fun i d v hd hv' => ?_
      obtain ⟨c, hc'⟩ := get_of_len hl hd
      exact ih i c d hc' hd (hv i c v hc' hv')
  | rsl id off z cs ys ho hs' hz hc ih =>
    intro v hv
    obtain ⟨b, base, hb, hnb, cur, e, hcur, hcs, hcell⟩ := hs.obj id _ (hsub _ _ (cellsAt_get ho))
    have hlive : live β hg.H b := ⟨id, _, base, cellsAt_get ho, hb⟩
    generalize hlen : ys.length = len at hv
    cases hv with
    | rsl _ _ _ _ b' base' cap cur' e' fz' hb' hcur' hcap hm hs2 =>
      rw [hb] at hb'; cases hb'
      rw [hcur] at hcur'; cases hcur'
      subst hlen
      refine .psl ys z b (base + off) cap cur e (0, 0) hcur (h1 b hlive) (by omega) hz hcap fun i y j d v hy hd hv' => ?_
      have hi : i < ys.length := (List.getElem?_eq_some_iff.1 hy).1
      have hj : j < z := by rw [← hz i y hy]; exact (List.getElem?_eq_some_iff.1 hd).1
      have hb1 : i * z + z ≤ ys.length * z := by
        have := Nat.mul_le_mul_right z (show i + 1 ≤ ys.length by omega)
        rw [Nat.succ_mul] at this; exact this
      have hlt : off + i * z + j < cs.length := by omega
      exact ih i y j cs[off + i * z + j] d hy hd (by simp [hlt]) (hcell (off + i * z + j) _ v (by simp [hlt]) (by rw [← hv']; congr 1; omega))
    | rsl0 _ _ _ b' base' o hb' =>
      cases ys with
      | nil => exact .psl0 _ _
      | cons y ys => simp at hlen
  | ptr id off cs ds ho hs' hc ih =>
    intro v hv
    obtain ⟨b, base, hb, hnb, cur, e, hcur, hcs, hcell⟩ := hs.obj id _ (hsub _ _ (cellsAt_get ho))
    have hlive : live β hg.H b := ⟨id, _, base, cellsAt_get ho, hb⟩
    cases hv with
    | ptr _ _ b' base' hb' =>
      rw [hb] at hb'; cases hb'
      refine .pptr ds b (base + off) cur e (0, 0) hcur (h1 b hlive) (by omega) fun i d v hd hv' => ?_
      have hi : i < ds.length := (List.getElem?_eq_some_iff.1 hd).1
      have hlt : off + i < cs.length := by omega
      exact ih i cs[off + i] d (by simp [hlt]) hd (hcell (off + i) _ v (by simp [hlt]) (by rw [← hv']; congr 1; omega))
  | func fn f1 c1 f2 c2 hl1 hl2 g1 g2 ih1 ih2 =>
    intro v hv
    cases hv with
    | func _ _ _ u1 u2 k1 k2 q1 q2 =>
      refine .func fn f2 c2 u1 u2 (hl1 ▸ k1) (hl2 ▸ k2) (fun i d v hd hv' => ?_) (fun i d v hd hv' => ?_)
      · obtain ⟨c, hc'⟩ := get_of_len hl1 hd
        exact ih1 i c d hc' hd (q1 i c v hc' hv')
      · obtain ⟨c, hc'⟩ := get_of_len hl2 hd
        exact ih2 i c d hc' hd (q2 i c v hc' hv')
  | iface t a b hb ih =>
    intro v hv
    cases hv with
    | iface _ _ v hv => exact .iface t b v (ih hv)

/-- the objects from n on, without one of them -/
def newer (h : AH) (n id : Nat) : Nat → AH
  | 0 => h.kill id
  | k + 1 => (newer h n id k).kill k
def rest (h : AH) (n id : Nat) : AH := newer h n id n
/-- the heap that is left: the old objects, one new one -/
def settled (g : AH) (n : Nat) (cs : List AV) : AH := ⟨g.H.put n (.cells cs), n + 1⟩
theorem get_settled (g : AH) (n : Nat) (cs : List AV) (i : Nat) : (settled g n cs).H.get i = if i = n then some (.cells cs) else g.H.get i := PM.get_put _ _ _ _

/-- what is frozen stays so where further objects stand -/
theorem Frz.ext {h h' : AH} (he : ∀ i cs, h.cellsAt i = some cs → h'.cellsAt i = some cs) {n : Bool} {a b : AV} (hf : Frz h n a b) : Frz h' n a b := by
  induction hf with
  | undef a => exact .undef a
  | bool b => exact .bool b
  | int k m => exact .int k m
  | str s => exact .str s
  | nilptr => exact .nilptr
  | nilfunc => exact .nilfunc
  | nilif => exact .nilif
  | nilmap => exact .nilmap
  | nilsl0 => exact .nilsl0
  | nilsl => exact .nilsl
  | esl0 => exact .esl0
  | esl => exact .esl
  | gptr g o => exact .gptr g o
  | agg cs ds hl hc ih => exact .agg cs ds hl fun i c d h1 h2 => ih i c d h1 h2
  | tup cs ds hl hc ih => exact .tup cs ds hl fun i c d h1 h2 => ih i c d h1 h2
  | psl0 => exact .psl0
  | psl hn xs ys hl hx hc ih => exact .psl hn xs ys hl hx fun i x y j c d h1 h2 h3 h4 => ih i x y j c d h1 h2 h3 h4
  | pptr hn cs ds hl hc ih => exact .pptr hn cs ds hl fun i c d h1 h2 => ih i c d h1 h2
  | rsl id off z cs ys ho hs hz hc ih => exact .rsl id off z cs ys (he _ _ ho) hs hz fun i y j c d h1 h2 h3 => ih i y j c d h1 h2 h3
  | ptr id off cs ds ho hs hc ih => exact .ptr id off cs ds (he _ _ ho) hs fun i c d h1 h2 => ih i c d h1 h2
  | func fn f1 c1 f2 c2 hl1 hl2 h1 h2 ih1 ih2 => exact .func fn f1 c1 f2 c2 hl1 hl2 (fun i c d q1 q2 => ih1 i c d q1 q2) (fun i c d q1 q2 => ih2 i c d q1 q2)
  | iface t a b hb ih => exact .iface t a b (ih)
end Go.Eng
end
noncomputable section
namespace Go.Eng
open Go.RowKit
/-- a value that stood already is related wherever the old numbers mean the same -/
theorem VR.redom {hp hp' : Array Obj} {L L' L'' : Nat → Prop} {β β0 β' : Bl} (hβ : ∀ id x, β id = some x → β' id = β0 id) (hL : ∀ b, L'' b → L' b) {c : AV} {v0 : Value} (h0 : VR hp L β c v0) : ∀ {v : Value}, VR hp' L' β0 c v → VR hp' L'' β' c v := by
  induction h0 with
  | undef v => intro v _; exact .undef v
  | bool b => intro v hv; cases hv; exact .bool b
  | int k n => intro v hv; cases hv; exact .int k n
  | str s => intro v hv; cases hv; exact .str s
  | agg cs vs hlen h ih =>
    intro v hv
    cases hv with
    | agg _ us hl hu =>
      refine .agg cs us hl fun i c u h1 h2 => ?_
      obtain ⟨x, hx⟩ := get_of_len (l := vs.toList) (m := cs) (by simpa using hlen.symm) h1
      exact ih i c x h1 (by simpa using hx) (hu i c u h1 h2)
  | tup cs vs hlen h ih =>
    intro v hv
    cases hv with
    | tup _ us hl hu =>
      refine .tup cs us hl fun i c u h1 h2 => ?_
      obtain ⟨x, hx⟩ := get_of_len (l := vs.toList) (m := cs) (by simpa using hlen.symm) h1
      exact ih i c x h1 (by simpa using hx) (hu i c u h1 h2)
  | ptr id off b base h =>
    intro v hv
    cases hv with
    | ptr _ _ b2 base2 h2 => exact .ptr id off b2 base2 ((hβ id _ h).trans h2)
  | nilptr => intro v hv; cases hv; exact .nilptr
  | pptr cs b o cur e fz hb hnL hs h ih =>
    intro v hv
    cases hv with
    | pptr _ b2 o2 cur2 e2 fz2 hb2 hL2 hs2 h2 =>
      refine .pptr cs b2 o2 cur2 e2 fz2 hb2 (fun hl => hL2 (hL _ hl)) hs2 fun i c u h3 h4 => ?_
      have hi : i < cs.length := (List.getElem?_eq_some_iff.1 h3).1
      exact ih i c cur[o + i] h3 (by simp [show o + i < cur.size by omega]) (h2 i c u h3 h4)
  | gptr g off => intro v hv; cases hv; exact .gptr g off
  | nilsl => intro v hv; cases hv; exact .nilsl
  | esl a => intro v hv; cases hv; exact .esl _
  | psl0 a cap => intro v hv; cases hv <;> exact .psl0 _ _
  | psl xs z b o cap cur e fz hb hnL hs hz hcap h ih =>
    intro v hv
    cases hv with
    | psl0 a cap => exact .psl0 _ _
    | psl _ z2 b2 o2 cap2 cur2 e2 fz2 hb2 hL2 hs2 hz2 hcap2 h2 =>
      refine .psl xs z2 b2 o2 cap2 cur2 e2 fz2 hb2 (fun hl => hL2 (hL _ hl)) hs2 hz2 hcap2 fun i x j c u h3 h4 h5 => ?_
      have hi : i < xs.length := (List.getElem?_eq_some_iff.1 h3).1
      have hj : j < z := by rw [← hz i x h3]; exact (List.getElem?_eq_some_iff.1 h4).1
      have hb1 : i * z + z ≤ xs.length * z := by
        have := Nat.mul_le_mul_right z (show i + 1 ≤ xs.length by omega)
        rw [Nat.succ_mul] at this; exact this
      exact ih i x j c cur[o + i * z + j] h3 h4 (by simp [show o + i * z + j < cur.size by omega]) (h2 i x j c u h3 h4 h5)
  | rsl id off len z b base cap cur e fz h hb hc hm hs =>
    intro v hv
    cases hv with
    | rsl _ _ _ _ b2 base2 cap2 cur2 e2 fz2 g1 g2 g3 g4 g5 => exact .rsl id off len z b2 base2 cap2 cur2 e2 fz2 ((hβ id _ h).trans g1) g2 g3 g4 g5
    | rsl0 _ _ _ b2 base2 o g1 => exact .rsl0 id off z b2 base2 o ((hβ id _ h).trans g1)
  | rsl0 id off z b base o h =>
    intro v hv
    cases hv with
    | rsl _ _ _ _ b2 base2 cap2 cur2 e2 fz2 g1 g2 g3 g4 g5 => exact .rsl id off 0 z b2 base2 cap2 cur2 e2 fz2 ((hβ id _ h).trans g1) g2 g3 g4 g5
    | rsl0 _ _ _ b2 base2 o g1 => exact .rsl0 id off z b2 base2 o ((hβ id _ h).trans g1)
  | mapv id b base h =>
    intro v hv
    cases hv with
    | mapv _ b2 base2 h2 => exact .mapv id b2 base2 ((hβ id _ h).trans h2)
  | nilmap => intro v hv; cases hv; exact .nilmap
  | func fn f1 c1 f2 c2 hl1 hl2 h1 h2 ih1 ih2 =>
    intro v hv
    cases hv with
    | func _ _ _ u1 u2 k1 k2 q1 q2 =>
      refine .func fn f1 c1 u1 u2 k1 k2 (fun i c u g1 g2 => ?_) (fun i c u g1 g2 => ?_)
      · obtain ⟨x, hx⟩ := get_of_len (l := f2.toList) (m := f1) (by simpa using hl1.symm) g1
        exact ih1 i c x g1 (by simpa using hx) (q1 i c u g1 g2)
      · obtain ⟨x, hx⟩ := get_of_len (l := c2.toList) (m := c1) (by simpa using hl2.symm) g1
        exact ih2 i c x g1 (by simpa using hx) (q2 i c u g1 g2)
  | nilfunc => intro v hv; cases hv; exact .nilfunc
  | nilif => intro v hv; cases hv; exact .nilif
  | iface t a v0 h ih =>
    intro v hv
    cases hv with
    | iface _ _ v h2 => exact .iface t a v (ih h2)
  | sint k m i c lo hi b base h h1 h2 =>
    intro v hv
    cases hv with
    | sint _ _ _ _ _ _ b2 base2 g g1 g2 => exact .sint k m i c lo hi b2 base2 ((hβ i _ h).trans g) g1 g2
  | scol k m r i j l lo hi b1 n1 b2 n2 b3 h1 h2 h3 q1 q2 q3 q4 =>
    intro v hv
    cases hv with
    | scol _ _ _ _ _ _ _ _ c1 m1 c2 m2 c3 g1 g2 g3 p1 p2 p3 p4 => exact .scol k m r i j l lo hi c1 m1 c2 m2 c3 ((hβ i _ h1).trans g1) ((hβ j _ h2).trans g2) ((hβ l _ h3).trans g3) p1 p2 p3 p4
  | oint k rs n h =>
    intro v hv
    cases hv with
    | oint _ _ n2 h2 => exact .oint k rs n2 h2
  | lin k l c lo hi f h0 h1 h2 =>
    intro v hv
    cases hv with
    | lin _ _ _ _ _ g g0 g1 g2 => exact .lin k l c lo hi g (fun p hp => let ⟨b, hb⟩ := h0 p hp; let ⟨b2, hb2⟩ := g0 p hp; ⟨b2, (hβ p.2 _ hb).trans hb2⟩) g1 g2
  | gsl g off len cap hc =>
    intro v hv
    cases hv with
    | gsl _ _ _ cap2 hc2 => exact .gsl g off len cap2 hc2
/-- the objects from n on -/
def newF (h : AH) : Nat → AH
  | 0 => h
  | k + 1 => (newF h k).kill k
theorem get_newF (h : AH) : ∀ (k i : Nat), (newF h k).H.get i = if i < k then none else h.H.get i
  | 0, i => by simp [newF]
  | k + 1, i => by
    show ((newF h k).kill k).H.get i = _
    rw [get_kill, get_newF h k i]
    by_cases h1 : i = k
    · subst h1; simp
    · rw [if_neg h1]
      by_cases h2 : i < k
      · rw [if_pos h2, if_pos (by omega)]
      · rw [if_neg h2, if_neg (by omega)]
def fresh (h : AH) (n : Nat) : AH := newF h n
theorem get_fresh (h : AH) (n i : Nat) : (fresh h n).H.get i = if i < n then none else h.H.get i := get_newF h n i
/-- an old object stands as it did, or its cells are given, frozen -/
def Kept (h h' g : AH) (i : Nat) : Prop :=
  (g.H.get i = h.H.get i ∧ h'.H.get i = h.H.get i) ∨ ∃ cs1 cs2, h'.H.get i = some (.cells cs1) ∧ g.H.get i = some (.cells cs2) ∧ FrzL (fresh h' h.nx) false cs1 cs2
theorem OR.redom {hp hp' : Array Obj} {L L' L'' : Nat → Prop} {β β0 β' : Bl} (hβ : ∀ id x, β id = some x → β' id = β0 id) (hL : ∀ b, L'' b → L' b) {b0 base0 b base : Nat} {o : AObj} (h0 : OR hp L β b0 base0 o) (h : OR hp' L' β0 b base o) : OR hp' L'' β' b base o := by
  cases o with
  | cells cs =>
    obtain ⟨cur0, e0, _, k2, k3⟩ := h0
    obtain ⟨cur, e, q1, q2, q3⟩ := h
    refine ⟨cur, e, q1, q2, fun i c v h1 h2 => ?_⟩
    have hi : i < cs.length := (List.getElem?_eq_some_iff.1 h1).1
    exact (k3 i c cur0[base0 + i] h1 (by simp [show base0 + i < cur0.size by omega])).redom hβ hL (q3 i c v h1 h2)
  | map kvs =>
    obtain ⟨_, es0, _, k2, k3⟩ := h0
    obtain ⟨hb, es, q1, q2, q3⟩ := h
    refine ⟨hb, es, q1, q2, fun i kv e h1 h2 => ?_⟩
    have hi : i < kvs.length := (List.getElem?_eq_some_iff.1 h1).1
    obtain ⟨m1, m2, _⟩ := k3 i kv es0[i] h1 (by simp [show i < es0.size by omega])
    obtain ⟨p1, p2, p3⟩ := q3 i kv e h1 h2
    exact ⟨m1.redom hβ hL p1, m2.redom hβ hL p2, p3⟩
  | siter s pos => exact h
  | typ t cs =>
    obtain ⟨_, cur0, _, k2, k3⟩ := h0
    obtain ⟨a1, cur, q1, q2, q3⟩ := h
    refine ⟨a1, cur, q1, q2, fun i c v h1 h2 => ?_⟩
    have hk := k2.1
    have hi : i < cs.length := (List.getElem?_eq_some_iff.1 h1).1
    exact (k3 i c cur0[i] h1 (by simp [show i < cur0.size by omega])).redom hβ hL (q3 i c v h1 h2)
  | glob g cs =>
    obtain ⟨_, _, cur0, e0, fz0, _, k2, k3⟩ := h0
    obtain ⟨a1, a2, cur, e, fz, q1, q2, q3⟩ := h
    refine ⟨a1, a2, cur, e, fz, q1, q2, fun i c v h1 h2 => ?_⟩
    have hi : i < cs.length := (List.getElem?_eq_some_iff.1 h1).1
    exact (k3 i c cur0[i] h1 (by simp [show i < cur0.size by omega])).redom hβ hL (q3 i c v h1 h2)

theorem restore {P : Program} {f : Nat} {args : List AV} {h g : AH} {v : AV} {R : AV → AH → Prop} (hc : CallsA P f args h R) (hnx : g.nx = h.nx) (hg : ∀ i, h.nx ≤ i → g.H.get i = h.H.get i)
    (hR : ∀ v' h', R v' h' → Frz (fresh h' h.nx) false v' v ∧ ∀ i, i < h.nx → Kept h h' g i) : CallD P f args h v g := by
  refine ⟨hc.1, fun own β w cargs hs hRL => (hc.2 own β w cargs hs hRL).mono ?_⟩
  rintro e w' ⟨cv, v0, h0, β0, rfl, hq, hs0, hv0, ht⟩
  obtain ⟨hfv, hk⟩ := hR v0 h0 hq
  have hnone : ∀ i, h.nx ≤ i → g.H.get i = none := fun i hi => by
    rw [hg i hi]
    cases hh : h.H.get i with
    | none => rfl
    | some o => obtain ⟨b, base, hb, _⟩ := hs.obj i o hh; rw [hs.fresh i hi] at hb; cases hb
  obtain ⟨β', hβ'⟩ : ∃ β' : Bl, β' = fun i => if i < h.nx then β0 i else none := ⟨_, rfl⟩
  have hlt : ∀ i, i < h.nx → β' i = β0 i := fun i hi => by rw [hβ']; simp [hi]
  have hge : ∀ i, h.nx ≤ i → β' i = none := fun i hi => by rw [hβ']; simp [show ¬ i < h.nx by omega]
  have hdom : ∀ id x, β id = some x → id < h.nx := fun id x hx => Nat.lt_of_not_le fun hle => by rw [hs.fresh id hle] at hx; cases hx
  have hβ : ∀ id x, β id = some x → β' id = β0 id := fun id x hx => hlt id (hdom id x hx)
  have hget : ∀ i o, g.H.get i = some o → i < h.nx ∧ ∃ o2, h0.H.get i = some o2 := fun i o ho => by
    have hi : i < h.nx := Nat.lt_of_not_le fun hle => by rw [hnone i hle] at ho; cases ho
    refine ⟨hi, ?_⟩
    rcases hk i hi with ⟨k1, k2⟩ | ⟨cs1, cs2, k1, _, _⟩
    · exact ⟨o, by rw [k2, ← k1]; exact ho⟩
    · exact ⟨_, k1⟩
  have hlv : ∀ b, live β' g.H b → ∃ i o ba, i < h.nx ∧ h0.H.get i = some o ∧ β0 i = some (b, ba) := by
    rintro b ⟨i, o, ba, h1, h2⟩
    obtain ⟨hi, o2, ho2⟩ := hget i o h1
    rw [hlt i hi] at h2
    exact ⟨i, o2, ba, hi, ho2, h2⟩
  have hlv0 : ∀ b, live β' g.H b → live β0 h0.H b := fun b hb => let ⟨i, o, ba, _, h1, h2⟩ := hlv b hb; ⟨i, o, ba, h1, h2⟩
  have hL : ∀ b, LL own β' g.H b → LL own β0 h0.H b := fun b hb => hb.imp_right (hlv0 b)
  have hsub : ∀ i o, (fresh h0 h.nx).H.get i = some o → h0.H.get i = some o := fun i o hi => by
    rw [get_fresh] at hi
    split at hi
    · cases hi
    · exact hi
  have hnotL : ∀ b, live β0 (fresh h0 h.nx).H b → ¬ LL own β' g.H b := by
    rintro b ⟨i, o, ba, h1, h2⟩ hl
    rw [get_fresh] at h1
    split at h1
    · cases h1
    rename_i hi
    rcases hl with ho | hl
    · obtain ⟨b2, base2, k1, k2, _⟩ := hs0.obj i o h1
      rw [h2] at k1; cases k1; exact k2 ho
    · obtain ⟨j, o2, ba2, hj, h3, h4⟩ := hlv b hl
      have := hs0.inj i j o o2 b ba ba2 h1 h3 h2 h4
      omega
  have hfz : ∀ {a a' : AV} {u : Value}, Frz (fresh h0 h.nx) false a a' → VR w'.heap (LL own β0 h0.H) β0 a u → VR w'.heap (LL own β' g.H) β' a' u :=
    fun hf hu => VR.frzs hs0 hsub hnotL (fun _ b hn hl => hn (hL b hl)) hf hu
  have hS : SimH own β' g.H g.nx w' := by
    refine ⟨fun i hi => hge i (by omega), fun i b ba hi => ?_, hs0.ownlt, fun i o hgi => ?_, fun i j o o' b x y h1 h2 h3 h4 => ?_⟩
    · by_cases h1 : i < h.nx
      · rw [hlt i h1] at hi; exact hs0.lt i b ba hi
      · rw [hge i (by omega)] at hi; cases hi
    · obtain ⟨hi, _⟩ := hget i o hgi
      rcases hk i hi with ⟨k1, k2⟩ | ⟨cs1, cs2, k1, k2, k3⟩
      · have hh : h.H.get i = some o := k1 ▸ hgi
        obtain ⟨b0, base0, p1, p2, p3⟩ := hs.obj i o hh
        obtain ⟨b, ba, q1, q2, q3⟩ := hs0.obj i o (k2.trans hh)
        exact ⟨b, ba, (hlt i hi).trans q1, q2, OR.redom hβ hL p3 q3⟩
      · rw [k2] at hgi; cases hgi
        obtain ⟨b, ba, q1, q2, cur, et, r1, r2, r3⟩ := hs0.obj i _ k1
        have hf := (FrzL_iff _ _ _ _).1 k3
        refine ⟨b, ba, (hlt i hi).trans q1, q2, cur, et, r1, by rw [← hf.1]; exact r2, fun j c u m1 m2 => ?_⟩
        obtain ⟨c0, hc0⟩ := get_of_len hf.1 m1
        exact hfz (hf.2 j c0 c hc0 m1) (r3 j c0 u hc0 m2)
    · obtain ⟨i1, o1, p1⟩ := hget i o h1
      obtain ⟨j1, o2, p2⟩ := hget j o' h2
      rw [hlt i i1] at h3; rw [hlt j j1] at h4
      exact hs0.inj i j o1 o2 b x y p1 p2 h3 h4
  refine ⟨cv, v, g, β', rfl, ⟨rfl, rfl⟩, hS, hfz hfv hv0, ⟨fun id x hx => ?_, fun id hid => ?_, by omega, ht.size, ht.keep, fun b hl => ht.live b (hlv0 b hl), fun b cur e fz hc => let ⟨c, f, h1, h2, h3⟩ := ht.shape b cur e fz hc; ⟨c, f, h1, h2, fun hl => h3 (hlv0 b hl)⟩, ht.os, ht.tape, ht.output⟩⟩
  · rw [hβ id x hx]; exact ht.ext id x hx
  · rw [hlt id hid]; exact ht.low id hid
/-- nothing that was there turns -/
theorem restore0 {P : Program} {f : Nat} {args : List AV} {h : AH} {v : AV} {R : AV → AH → Prop} (hc : CallsA P f args h R)
    (hR : ∀ v' h', R v' h' → Frz (fresh h' h.nx) false v' v ∧ ∀ i, i < h.nx → h'.H.get i = h.H.get i) : CallD P f args h v h :=
  restore hc rfl (fun _ _ => rfl) fun v' h' hq => ⟨(hR v' h' hq).1, fun i hi => .inl ⟨rfl, (hR v' h' hq).2 i hi⟩⟩
end Go.Eng
end
noncomputable section
namespace Go.Eng
open Go.RowKit
/-! shorter words for the printed functions -/
def wA (g : AV) (r : Option (AV × AH)) (h : AH) (k : AV → Rec → AH → Prop) : Prop := wgd (gdv true g) (fun k => wdp h r .pure k) h k
@[simp ↓] theorem wA_eq (g : AV) (r : Option (AV × AH)) (h : AH) (k : AV → Rec → AH → Prop) : wA g r h k = wgd (gdv true g) (fun k => wdp h r .pure k) h k := Eq.trans rfl rfl
def wC (g : AV) (r : Option (AV × AH)) (x : AV) (h : AH) (k : AV → Rec → AH → Prop) : Prop := wgd (gdv true g) (fun k => wdp h r (rdK (rdv x)) k) h k
@[simp ↓] theorem wC_eq (g : AV) (r : Option (AV × AH)) (x : AV) (h : AH) (k : AV → Rec → AH → Prop) : wC g r x h k = wgd (gdv true g) (fun k => wdp h r (rdK (rdv x)) k) h k := Eq.trans rfl rfl
def wP (h : AH) (r : Option (AV × AH)) (k : AV → Rec → AH → Prop) : Prop := wdp h r .pure k
@[simp ↓] theorem wP_eq (h : AH) (r : Option (AV × AH)) (k : AV → Rec → AH → Prop) : wP h r k = wdp h r .pure k := Eq.trans rfl rfl
def wR (h : AH) (r : Option (AV × AH)) (x : AV) (k : AV → Rec → AH → Prop) : Prop := wdp h r (rdK (rdv x)) k
@[simp ↓] theorem wR_eq (h : AH) (r : Option (AV × AH)) (x : AV) (k : AV → Rec → AH → Prop) : wR h r x k = wdp h r (rdK (rdv x)) k := Eq.trans rfl rfl
def gA (g : AV) (r : Option (AV × AH)) (h : AH) (k : AV → AH → Prop) : Prop := wg (gdv true g) (fun k => wk r k) h k
@[simp ↓] theorem gA_eq (g : AV) (r : Option (AV × AH)) (h : AH) (k : AV → AH → Prop) : gA g r h k = wg (gdv true g) (fun k => wk r k) h k := Eq.trans rfl rfl
def gB (g : AV) (r : Option (AV × AH)) (h : AH) (k : AV → AH → Prop) : Prop := wg (gdv false g) (fun k => wk r k) h k
@[simp ↓] theorem gB_eq (g : AV) (r : Option (AV × AH)) (h : AH) (k : AV → AH → Prop) : gB g r h k = wg (gdv false g) (fun k => wk r k) h k := Eq.trans rfl rfl
abbrev F (n : Nat) : AV := .func (.func n) [] []
inductive An where
  | j (lo : List Nat)
  | jn (lo : List Nat)
  | l (li lo : List Nat)
def anD (d : Option Nat) (done : List Nat) : List Nat :=
  match d with
  | some n => done.filter fun x => !Nat.beq x n
  | none => done
def anM (n : Nat) : List Nat → Bool
  | [] => false
  | x :: l => cond (Nat.beq x n) true (anM n l)
/-- where the guards are split, the first time each -/
def spl1 (o : AOpr) (done : List Nat) : Option Nat × List Nat :=
  match o.guard with
  | some (g, _) => cond (anM g done) (none, anD o.dst done) (some g, anD o.dst (g :: done))
  | none => (none, anD o.dst done)
def marksR : List AOpr → List Nat → List (AOpr × Option Nat)
  | [], _ => []
  | o :: l, d => (o, (spl1 o d).1) :: marksR l (spl1 o d).2
def marksD : List (AOpr × Nat) → List Nat → List ((AOpr × Nat) × Option Nat)
  | [], _ => []
  | o :: l, d => (o, (spl1 o.1 d).1) :: marksD l (spl1 o.1 d).2
def guardedR : List AOpr → Bool
  | [] => false
  | o :: l => match o.guard with
    | some _ => true
    | none => guardedR l
def guardedD : List (AOpr × Nat) → Bool
  | [] => false
  | o :: l => match o.1.guard with
    | some _ => true
    | none => guardedD l
def mkReg (ops : List AOpr) : SCode := cond (guardedR ops) (.regS (marksR ops [])) (.reg ops)
def mkDraw (ops : List (AOpr × Nat)) : SCode := cond (guardedD ops) (.drawS (marksD ops [])) (.draw ops)
def takeA (i : Nat) : List (Nat × An) → Option An
  | (k, t) :: _ => cond (Nat.beq i k) (some t) none
  | [] => none
def restA (i : Nat) : List (Nat × An) → List (Nat × An)
  | (k, t) :: l => cond (Nat.beq i k) l ((k, t) :: l)
  | [] => []
def wrapA (a : Option An) (s : SCode) : SCode :=
  match a with
  | some (.j lo) => .join lo s
  | some (.jn lo) => .joinN lo s
  | _ => s
def loopA (a : Option An) (s : SCode) : SCode :=
  match a with
  | some (.l li lo) => .loop li lo s
  | _ => .loop [] [] s
structure AnS where
  c : SCode
  i : Nat
  l : List (Nat × An)
def ann : ACode → Nat → List (Nat × An) → AnS
  | .skip, i, l => ⟨.skip, i, l⟩
  | .reg ops, i, l => ⟨wrapA (takeA i l) (mkReg ops), i + 1, restA i l⟩
  | .draw ops, i, l => ⟨wrapA (takeA i l) (mkDraw ops), i + 1, restA i l⟩
  | .seq a b, i, l =>
    match ann a i l with
    | ⟨x, j, l1⟩ => match ann b j l1 with
      | ⟨y, k, l2⟩ => ⟨.seq x y, k, l2⟩
  | .cond c a b, i, l =>
    match ann a (i + 1) (restA i l) with
    | ⟨x, j, l1⟩ => match ann b j l1 with
      | ⟨y, k, l2⟩ => ⟨wrapA (takeA i l) (.cond c x y), k, l2⟩
  | .block id a, i, l =>
    match ann a (i + 1) (restA i l) with
    | ⟨x, j, l1⟩ => ⟨wrapA (takeA i l) (.block id x), j, l1⟩
  | .loop a, i, l =>
    match ann a (i + 1) (restA i l) with
    | ⟨x, j, l1⟩ => ⟨loopA (takeA i l) x, j, l1⟩
  | .exit id, i, l => ⟨.exit id, i, l⟩
  | .ret, i, l => ⟨.ret, i, l⟩
  | .stuck, i, l => ⟨.stuck, i, l⟩
  | .rng g ps a b, i, l =>
    match ann a i l with
    | ⟨x, j, l1⟩ => match ann b j l1 with
      | ⟨y, k, l2⟩ => ⟨.rng [] g ps x y, k, l2⟩
theorem marksR_map : ∀ (l : List AOpr) (d : List Nat), (marksR l d).map (·.1) = l
  | [], _ => rfl
  | o :: l, d => by simp [marksR, marksR_map l]
theorem marksD_map : ∀ (l : List (AOpr × Nat)) (d : List Nat), (marksD l d).map (·.1) = l
  | [], _ => rfl
  | o :: l, d => by simp [marksD, marksD_map l]
theorem mkReg_er (ops : List AOpr) : (mkReg ops).erase = .reg ops := by
  unfold mkReg
  cases guardedR ops
  · rfl
  · simp [SCode.erase, marksR_map]
theorem mkDraw_er (ops : List (AOpr × Nat)) : (mkDraw ops).erase = .draw ops := by
  unfold mkDraw
  cases guardedD ops
  · rfl
  · simp [SCode.erase, marksD_map]
theorem wrapA_er (a : Option An) (s : SCode) : (wrapA a s).erase = s.erase := by
  unfold wrapA
  split <;> rfl
theorem loopA_er (a : Option An) (s : SCode) : (loopA a s).erase = .loop s.erase := by
  unfold loopA
  split <;> rfl
theorem ann_er : ∀ (c : ACode) (i : Nat) (l : List (Nat × An)), (ann c i l).c.erase = c
  | .skip, i, l => rfl
  | .reg ops, i, l => by simp only [ann]; rw [wrapA_er, mkReg_er]
  | .draw ops, i, l => by simp only [ann]; rw [wrapA_er, mkDraw_er]
  | .seq a b, i, l => by
    simp only [ann]
    have h1 := ann_er a i l
    have h2 := ann_er b (ann a i l).i (ann a i l).l
    simp only [SCode.erase]
    rw [h1, h2]
  | .cond c a b, i, l => by
    simp only [ann]
    have h1 := ann_er a (i + 1) (restA i l)
    have h2 := ann_er b (ann a (i + 1) (restA i l)).i (ann a (i + 1) (restA i l)).l
    rw [wrapA_er]
    simp only [SCode.erase]
    rw [h1, h2]
  | .block id a, i, l => by
    simp only [ann]
    have h1 := ann_er a (i + 1) (restA i l)
    rw [wrapA_er]
    simp only [SCode.erase]
    rw [h1]
  | .loop a, i, l => by
    simp only [ann]
    have h1 := ann_er a (i + 1) (restA i l)
    rw [loopA_er, h1]
  | .exit id, i, l => rfl
  | .ret, i, l => rfl
  | .stuck, i, l => rfl
  | .rng g ps a b, i, l => by
    simp only [ann]
    have h1 := ann_er a i l
    have h2 := ann_er b (ann a i l).i (ann a i l).l
    simp only [SCode.erase]
    rw [h1, h2]
def noSF : SFn := ⟨0, [], .stuck⟩
def mkSF (P : Program) (fn : Func) (l : List (Nat × An)) : SFn :=
  match cFn P fn with
  | some af => ⟨af.nt, af.res, (ann af.body 0 l).c⟩
  | none => noSF
def okSF (P : Program) (fn : Func) (l : List (Nat × An)) : Bool := (cFn P fn).isSome && ((mkSF P fn l).body.rok && ((mkSF P fn l).body.its.isEmpty && fn.name != "runtime.NumGoroutine"))
theorem wfnM {P : Program} {cl : CL} (hcl : CLOk P cl) {f : Nat} (l : List (Nat × An)) {fn : Func} (hf : P.funcs[f]? = some fn) (hok : okSF P fn l = true) {args : List AV} {h : AH} {R : AV → AH → Prop} {G : Prop}
    (he : wrun cl (mkSF P fn l) args h R = G) (hg : G) : CallsA P f args h R := by
  simp only [okSF, Bool.and_eq_true] at hok
  obtain ⟨h1, h2, h3, h4⟩ := hok
  have hn : fn.name ≠ "runtime.NumGoroutine" := by simpa using h4
  have hc : cFn P fn = some (mkSF P fn l).erase := by
    unfold mkSF
    cases hq : cFn P fn with
    | none => rw [hq] at h1; cases h1
    | some af => simp only [SFn.erase, ann_er]
  rw [← he] at hg
  exact wfn_ok hcl hf hc hn h2 (its_nil (List.isEmpty_iff.1 h3)) hg
end Go.Eng
end
noncomputable section
namespace Go.Eng
open Go.RowKit
/-- every contract that holds -/
def tU (P : Program) : CL := fun f args h Q => ∃ v h', CallD P f args h v h' ∧ Q v h'
theorem tU_ok (P : Program) : CLOk P (tU P) := fun _ _ _ _ q => q
theorem sD {P : Program} {f : Nat} {args : List AV} {h h' : AH} {v : AV} {Q : AV → AH → Prop} (c : CallD P f args h v h') (q : Q v h') : tU P f args h Q := ⟨v, h', c, q⟩
/-- a word that the kernel unfolds ahead of all others -/
def hiK : Prop := wrun (fun _ _ _ _ => False) noSF [] emp fun _ _ => True
abbrev HP := AH → Prop
abbrev OV := Option (AV × AH)
/-- a value that is computed -/
abbrev X : Type := QT → HP
def X.v (a : AV) : X := fun k h => (fun _ : Prop => k a h) hiK
instance : Coe AV X := ⟨X.v⟩
def xl : X := fun k h => (fun _ : Prop => k .nilsl h) hiK
def o0 (f : AH → OV) : X := fun k h => wk (f h) k
def q1 (b : Bool) (g : AV) (f : AV → AH → OV) (x : X) : X := fun k h => x (fun a h => wg (gdv b g) (fun k => wk (f a h) k) h k) h
def q3 (b : Bool) (g : AV) (f : AV → AV → AV → AH → OV) (x y z : X) : X := fun k h => x (fun a h => y (fun c h => z (fun d h => wg (gdv b g) (fun k => wk (f a c d h) k) h k) h) h) h
section
variable (k : QT) (h : AH) (x y z : X) (b : Bool) (g v : AV)
end
/-! in regions that draw their order -/
abbrev Y : Type := (AV → Rec → HP) → HP
def Y.v (a : AV) : Y := fun k h => (fun _ : Prop => k a .pure h) hiK
instance : Coe AV Y := ⟨Y.v⟩
def ys (s : List UInt8) : Y := fun k h => (fun _ : Prop => k (.str s) .pure h) hiK
abbrev Md : Type := OV → Rec → AH → (AV → Rec → HP) → Prop
def p0 (f : AH → OV) (m : Md) : Y := fun k h => (fun _ : Prop => m (f h) .pure h k) hiK
def pe (f : AV → AV → AH → OV) (x y : Y) : Y := fun k h => x (fun a _ h => y (fun b _ h => wde h (f a b h) k) h) h
section
variable (k : AV → Rec → HP) (h : AH) (x y z : Y) (m : Md) (g v : AV) (r : OV) (c : Rec)
end
section
variable (k : QT) (h : AH) (x : X) (b : Bool) (g : AV) (P : Program) (n : Nat) (l : List X)
end
end Go.Eng
end
noncomputable section
namespace Go.Eng
/-- what calls do -/
def clF (P : Program) : CL := fun f args h Q => ∃ v h', CallD P f args h v h' ∧ Q v h'
theorem clF_ok {P : Program} : CLOk P (clF P) := fun _ _ _ _ hq => hq
def FOk (P : Program) (cl : Handler) : Prop := ∀ f args h v h', cl f args h = some (v, h') → CallD P f args h v h'

def fchk (ks : List Rec) : List (Nat × Nat) → Bool
  | [] => true
  | (i, j) :: r => cond (recOk (ks.getD i .pure) (ks.getD j .pure)) (fchk ks r) false
def ckE (z b : Nat) (sl : AV) (xl : List (List AV)) (h : AH) : Bool :=
  match h.cellsAt b with
  | some cs => AV.beqL cs [sl] && (match elemsZ h z sl with
    | some l => AV.beqLL l xl
    | none => false)
  | none => false
def itf (g : Nat) : List It → Option It
  | [] => none
  | it :: r => cond (Nat.beq g it.f) (some it) (itf g r)
theorem itf_some {g : Nat} {it : It} : ∀ {l : List It}, itf g l = some it → it ∈ l ∧ g = it.f
  | [], h => by cases h
  | i :: r, h => by
    simp only [itf] at h
    cases hb : Nat.beq g i.f with
    | true => rw [hb] at h; cases h; exact ⟨by simp, Nat.eq_of_beq_eq_true hb⟩
    | false => rw [hb] at h; obtain ⟨h1, h2⟩ := itf_some h; exact ⟨by simp [h1], h2⟩
/-! ## it is sound -/
section
variable {P : Program} {cl : Handler}
theorem aop_noH {T : Tm} {h : AH} {op : AOp} (hn : ∀ f args, op ≠ .call f args) : aop cl T h op = aop noH T h op := by
  cases op <;> first | rfl | exact absurd rfl (hn _ _)
theorem fcall_ok (hcl : FOk P cl) {T : Tm} {h : AH} {f : Opd} {args : List Opd} {v : AV} {h' : AH} (ha : aop cl T h (.call f args) = some (v, h')) {K : AV → AH → Prop} (hk : K v h') : wcall (clF P) (f.ev T) (args.map (·.ev T)) h K := by
  simp only [aop, kCall] at ha
  unfold wcall
  split at ha
  · rename_i g first captured hf
    rw [hf]
    exact ⟨v, h', hcl _ _ _ _ _ ha, hk⟩
  · cases ha
theorem fop_ok (hcl : FOk P cl) {T : Tm} {h : AH} {op : AOp} {v : AV} {h' : AH} (ha : aop cl T h op = some (v, h')) {K : AV → AH → Prop} (hk : K v h') : wop (clF P) op T h K := by
  by_cases hc : ∃ f args, op = .call f args
  · obtain ⟨f, args, rfl⟩ := hc
    exact fcall_ok hcl ha hk
  · have ha' := ha
    rw [aop_noH fun f args he => hc ⟨f, args, he⟩] at ha'
    unfold wop
    split
    · exact (hc ⟨_, _, rfl⟩).elim
    · simp only [aop, kMov] at ha'
      cases ha'
      exact hk
    · rw [ha']; exact hk
theorem fchk_ok {ks : List Rec} {p : Prop} (hp : p) : ∀ (l : List (Nat × Nat)), fchk ks l = true → chk ks l p
  | [], _ => hp
  | (i, j) :: r, h => by
    simp only [fchk] at h
    cases hb : recOk (ks.getD i .pure) (ks.getD j .pure) with
    | false => rw [hb] at h; cases h
    | true => rw [hb] at h; exact ⟨hb, fchk_ok hp r h⟩
theorem ckE_ok {z b : Nat} {sl : AV} {xl : List (List AV)} {h : AH} (hc : ckE z b sl xl h = true) : h.cellsAt b = some [sl] ∧ elemsZ h z sl = some xl := by
  unfold ckE at hc
  split at hc
  · rename_i cs h1
    simp only [Bool.and_eq_true] at hc
    have h2 := AV.beqL_eq _ _ hc.1
    have hc2 := hc.2
    split at hc2
    · rename_i l h3
      have h4 := AV.beqLL_eq _ _ hc2
      exact ⟨by rw [h1, h2], by rw [h3, h4]⟩
    · cases hc2
  · cases hc

end
end Go.Eng
end
noncomputable section
namespace Go.Eng
/-- short words of the printed code -/
def q (d : Nat) (o : AOp) : AOpr := ⟨some d, o, none⟩
def x (t : Nat) : Opd := .tmp t
def orb (a b : Option (AV × AH)) : Option (AV × AH) :=
  match a with
  | some r => some r
  | none => b
end Go.Eng
end
noncomputable section
namespace Go.Eng
def insE (ns : List Nat) : List (Int × Nat) → Option Int
  | [] => some 0
  | p :: r => match ns[p.2]?, insE ns r with
    | some n, some e => some (p.1 * (n : Int) + e)
    | _, _ => none
theorem insE_some {ns : List Nat} {β : Bl} (hβ : ∀ i n, ns[i]? = some n → ∃ b, β i = some (b, n)) {f : Nat → Nat} : ∀ {l : List (Int × Nat)} {e : Int}, (∀ p ∈ l, ∃ b, β p.2 = some (b, f p.2)) → insE ns l = some e → linE f l = e
  | [], e, _, h => by simp [insE] at h; exact h
  | p :: r, e, h0, h => by
    simp only [insE] at h
    split at h
    · rename_i n e' h1 h2
      cases h
      obtain ⟨b, hb⟩ := hβ _ _ h1
      obtain ⟨b', hb'⟩ := h0 p (by simp)
      rw [hb] at hb'
      cases hb'
      simp only [linE]
      rw [insE_some hβ (fun q hq => h0 q (by simp [hq])) h2]
    · cases h
theorem insE_num {ns : List Nat} {β : Bl} (hβ : ∀ i n, ns[i]? = some n → ∃ b, β i = some (b, n)) : ∀ {l : List (Int × Nat)} {e : Int}, insE ns l = some e → (∀ p ∈ l, ∃ b, β p.2 = some (b, numB β p.2)) ∧ linE (numB β) l = e
  | [], e, h => by simp [insE] at h; exact ⟨fun p hp => by simp at hp, h⟩
  | p :: r, e, h => by
    have h' := h
    simp only [insE] at h
    split at h
    · rename_i n e' h1 h2
      obtain ⟨k1, k2⟩ := insE_num hβ h2
      obtain ⟨b, hb⟩ := hβ _ _ h1
      have hp : numB β p.2 = n := by simp [numB, hb]
      cases h
      refine ⟨fun q hq => ?_, by simp only [linE]; rw [hp, k2]⟩
      rcases List.mem_cons.1 hq with rfl | hq
      · exact ⟨b, by rw [hp]; exact hb⟩
      · exact k1 q hq
    · cases h
mutual
def inst (ns : List Nat) : AV → AV
  | .agg cs => .agg (instL ns cs)
  | .tup cs => .tup (instL ns cs)
  | .pptr cs => .pptr (instL ns cs)
  | .psl xs => .psl (instLL ns xs)
  | .func fn a b => .func fn (instL ns a) (instL ns b)
  | .iface t a => .iface t (inst ns a)
  | .sint k m i c lo hi => match ns[i]? with
    | some n => .int k (((n % m : Nat) : Int) + c)
    | none => .sint k m i c lo hi
  | .lin k l c lo hi => match insE ns l with
    | some e => .int k (e + c)
    | none => .lin k l c lo hi
  | .undef => .undef
  | .bool b => .bool b
  | .int k n => .int k n
  | .str s => .str s
  | .ptr a b => .ptr a b
  | .nilptr => .nilptr
  | .gptr g o => .gptr g o
  | .gsl g o n => .gsl g o n
  | .nilsl => .nilsl
  | .esl => .esl
  | .rsl a b c d => .rsl a b c d
  | .mapv a => .mapv a
  | .nilmap => .nilmap
  | .nilfunc => .nilfunc
  | .nilif => .nilif
  | .scol k m r i j l lo hi => .scol k m r i j l lo hi
  | .oint k rs => .oint k rs
def instL (ns : List Nat) : List AV → List AV
  | [] => []
  | a :: l => inst ns a :: instL ns l
def instLL (ns : List Nat) : List (List AV) → List (List AV)
  | [] => []
  | a :: l => instL ns a :: instLL ns l
end
theorem instL_eq (ns : List Nat) : ∀ l, instL ns l = l.map (inst ns)
  | [] => rfl
  | a :: l => by simp [instL, instL_eq ns l]
theorem instLL_eq (ns : List Nat) : ∀ l, instLL ns l = l.map fun x => x.map (inst ns)
  | [] => rfl
  | a :: l => by simp [instLL, instLL_eq ns l, instL_eq]

section
variable {ns : List Nat}
theorem VR.inst {hp : Array Obj} {L : Nat → Prop} {β : Bl} (hβ : ∀ i n, ns[i]? = some n → ∃ b, β i = some (b, n)) {a : AV} {v : Value} (h : VR hp L β a v) : VR hp L β (Eng.inst ns a) v := by
  induction h with
  | undef v => simp only [Eng.inst]; exact .undef v
  | bool b => simp only [Eng.inst]; exact .bool b
  | int k n => simp only [Eng.inst]; exact .int k n
  | str s => simp only [Eng.inst]; exact .str s
  | agg cs vs hl h ih =>
    simp only [Eng.inst, instL_eq]
    refine .agg _ _ (by simpa using hl) fun i c v hc hv => ?_
    rw [List.getElem?_map, Option.map_eq_some_iff] at hc
    obtain ⟨c0, h0, rfl⟩ := hc
    exact ih i c0 v h0 hv
  | tup cs vs hl h ih =>
    simp only [Eng.inst, instL_eq]
    refine .tup _ _ (by simpa using hl) fun i c v hc hv => ?_
    rw [List.getElem?_map, Option.map_eq_some_iff] at hc
    obtain ⟨c0, h0, rfl⟩ := hc
    exact ih i c0 v h0 hv
  | ptr id off b base h => simp only [Eng.inst]; exact .ptr id off b base h
  | nilptr => simp only [Eng.inst]; exact .nilptr
  | pptr cs b o cur e fz hb hL hs h ih =>
    simp only [Eng.inst, instL_eq]
    refine .pptr _ b o cur e fz hb hL (by simpa using hs) fun i c v hc hv => ?_
    rw [List.getElem?_map, Option.map_eq_some_iff] at hc
    obtain ⟨c0, h0, rfl⟩ := hc
    exact ih i c0 v h0 hv
  | gptr g off => simp only [Eng.inst]; exact .gptr g off
  | gsl g off len cap hc => simp only [Eng.inst]; exact .gsl g off len cap hc
  | nilsl => simp only [Eng.inst]; exact .nilsl
  | esl a => simp only [Eng.inst]; exact .esl a
  | psl0 a cap => simp only [Eng.inst, instLL]; exact .psl0 a cap
  | psl xs z b o cap cur e fz hb hL hs hz hc h ih =>
    simp only [Eng.inst, instLL_eq]
    have := VR.psl (hp := hp) (L := L) (β := β) (xs.map fun x => x.map (Eng.inst ns)) z b o cap cur e fz hb hL (by simpa using hs) (fun i x hx => ?_) (by simpa using hc) (fun i x j c v hx hj hv => ?_)
    · simpa using this
    · rw [List.getElem?_map, Option.map_eq_some_iff] at hx
      obtain ⟨x0, h0, rfl⟩ := hx
      simpa using hz i x0 h0
    · rw [List.getElem?_map, Option.map_eq_some_iff] at hx
      obtain ⟨x0, h0, rfl⟩ := hx
      rw [List.getElem?_map, Option.map_eq_some_iff] at hj
      obtain ⟨c0, h1, rfl⟩ := hj
      exact ih i x0 j c0 v h0 h1 hv
  | rsl id off len z b base cap cur e fz h hb hc hm hs => simp only [Eng.inst]; exact .rsl id off len z b base cap cur e fz h hb hc hm hs
  | rsl0 id off z b base o h => simp only [Eng.inst]; exact .rsl0 id off z b base o h
  | mapv id b base h => simp only [Eng.inst]; exact .mapv id b base h
  | nilmap => simp only [Eng.inst]; exact .nilmap
  | func fn f1 c1 f2 c2 hl1 hl2 h1 h2 ih1 ih2 =>
    simp only [Eng.inst, instL_eq]
    refine .func fn _ _ f2 c2 (by simpa using hl1) (by simpa using hl2) (fun i c v hc hv => ?_) (fun i c v hc hv => ?_)
    · rw [List.getElem?_map, Option.map_eq_some_iff] at hc
      obtain ⟨c0, h0, rfl⟩ := hc
      exact ih1 i c0 v h0 hv
    · rw [List.getElem?_map, Option.map_eq_some_iff] at hc
      obtain ⟨c0, h0, rfl⟩ := hc
      exact ih2 i c0 v h0 hv
  | nilfunc => simp only [Eng.inst]; exact .nilfunc
  | nilif => simp only [Eng.inst]; exact .nilif
  | iface t a v h ih => simp only [Eng.inst]; exact .iface t _ v ih
  | sint k m i c lo hi b base h h1 h2 =>
    simp only [Eng.inst]
    split
    · rename_i n hn
      obtain ⟨b', hb'⟩ := hβ i n hn
      rw [h] at hb'
      cases hb'
      exact .int k _
    · exact .sint k m i c lo hi b base h h1 h2
  | scol k m r i j l lo hi b1 n1 b2 n2 b3 h1 h2 h3 q1 q2 q3 q4 => simp only [Eng.inst]; exact .scol k m r i j l lo hi b1 n1 b2 n2 b3 h1 h2 h3 q1 q2 q3 q4
  | oint k rs n h => simp only [Eng.inst]; exact .oint k rs n h
  | lin k l c lo hi f h0 h1 h2 =>
    simp only [Eng.inst]
    split
    · rename_i e he
      rw [insE_some hβ h0 he]
      exact .int k _
    · exact .lin k l c lo hi f h0 h1 h2

end
/-! ## back: a value with numbers, where bounds suffice -/
mutual
def okG (ns : List Nat) : AV → Prop
  | .agg cs => okGL ns cs
  | .tup cs => okGL ns cs
  | .pptr cs => okGL ns cs
  | .psl xs => okGLL ns xs
  | .func _ a b => okGL ns a ∧ okGL ns b
  | .iface _ a => okG ns a
  | .sint _ m i c lo hi => ∃ n, ns[i]? = some n ∧ lo ≤ ((n % m : Nat) : Int) + c ∧ ((n % m : Nat) : Int) + c ≤ hi
  | .lin _ l c lo hi => ∃ e, insE ns l = some e ∧ lo ≤ e + c ∧ e + c ≤ hi
  | .scol _ _ _ _ _ _ _ _ | .ptr _ _ | .rsl _ _ _ _ | .mapv _ | .oint _ _ | .gsl _ _ _ => False
  | _ => True
def okGL (ns : List Nat) : List AV → Prop
  | [] => True
  | a :: l => okG ns a ∧ okGL ns l
def okGLL (ns : List Nat) : List (List AV) → Prop
  | [] => True
  | a :: l => okGL ns a ∧ okGLL ns l
end
section
variable {ns : List Nat} {hp : Array Obj} {L : Nat → Prop} {β β' : Bl}
mutual
theorem uninst (hg : ∀ i n, ns[i]? = some n → ∃ b, β' i = some (b, n)) : ∀ (s : AV), okG ns s → ∀ v, VR hp L β (inst ns s) v → VR hp L β' s v
  | .undef, _, v, h => .undef v
  | .bool b, _, v, h => by simp only [inst] at h; cases h; exact .bool b
  | .int k n, _, v, h => by simp only [inst] at h; cases h; exact .int k n
  | .str s, _, v, h => by simp only [inst] at h; cases h; exact .str s
  | .nilptr, _, v, h => by simp only [inst] at h; cases h; exact .nilptr
  | .gptr g o, _, v, h => by simp only [inst] at h; cases h; exact .gptr g o
  | .nilsl, _, v, h => by simp only [inst] at h; cases h; exact .nilsl
  | .esl, _, v, h => by simp only [inst] at h; cases h; exact .esl _
  | .nilmap, _, v, h => by simp only [inst] at h; cases h; exact .nilmap
  | .nilfunc, _, v, h => by simp only [inst] at h; cases h; exact .nilfunc
  | .nilif, _, v, h => by simp only [inst] at h; cases h; exact .nilif
  | .iface t a, ho, v, h => by
    simp only [inst] at h
    simp only [okG] at ho
    cases h with | iface _ _ u hu => exact .iface t a u (uninst hg a ho u hu)
  | .sint k m i c lo hi, ho, v, h => by
    simp only [okG] at ho
    obtain ⟨n, hn, h1, h2⟩ := ho
    simp only [inst, hn] at h
    cases h
    obtain ⟨b, hb⟩ := hg i n hn
    exact .sint k m i c lo hi b n hb h1 h2
  | .lin k l c lo hi, ho, v, h => by
    simp only [okG] at ho
    obtain ⟨e, he, h1, h2⟩ := ho
    simp only [inst, he] at h
    cases h
    obtain ⟨k1, k2⟩ := insE_num hg he
    have := VR.lin (hp := hp) (L := L) k l c lo hi (numB β') k1 (by rw [k2]; exact h1) (by rw [k2]; exact h2)
    rwa [k2] at this
  | .agg cs, ho, v, h => by
    simp only [inst, instL_eq] at h
    simp only [okG] at ho
    cases h with
    | agg _ vs hl hx => exact .agg cs vs (by simpa using hl) fun i c v hc hv => uninstL hg cs ho i c hc v (hx i _ v (by rw [List.getElem?_map, hc]; rfl) hv)
  | .tup cs, ho, v, h => by
    simp only [inst, instL_eq] at h
    simp only [okG] at ho
    cases h with
    | tup _ vs hl hx => exact .tup cs vs (by simpa using hl) fun i c v hc hv => uninstL hg cs ho i c hc v (hx i _ v (by rw [List.getElem?_map, hc]; rfl) hv)
  | .pptr cs, ho, v, h => by
    simp only [inst, instL_eq] at h
    simp only [okG] at ho
    cases h with
    | pptr _ b o cur e fz hb hL hs hx => exact .pptr cs b o cur e fz hb hL (by simpa using hs) fun i c v hc hv => uninstL hg cs ho i c hc v (hx i _ v (by rw [List.getElem?_map, hc]; rfl) hv)
  | .psl xs, ho, v, h => by
    simp only [inst, instLL_eq] at h
    simp only [okG] at ho
    generalize hq : (xs.map fun x => x.map (inst ns)) = ys at h
    cases h with
    | psl0 a cap =>
      have : xs = [] := by simpa using hq
      subst this
      exact .psl0 a cap
    | psl _ z b o cap cur e fz hb hL hs hz hc hx =>
      subst hq
      have := VR.psl (hp := hp) (L := L) (β := β') xs z b o cap cur e fz hb hL (by simpa using hs) (fun i x hxx => by simpa using hz i (x.map (inst ns)) (by rw [List.getElem?_map, hxx]; rfl)) (by simpa using hc)
        (fun i x j c v hxx hj hv => uninstLL hg xs ho i x hxx j c hj v (hx i (x.map (inst ns)) j (inst ns c) v (by rw [List.getElem?_map, hxx]; rfl) (by rw [List.getElem?_map, hj]; rfl) hv))
      simpa using this
  | .func fn a b, ho, v, h => by
    simp only [inst, instL_eq] at h
    simp only [okG] at ho
    cases h with
    | func _ _ _ f2 c2 hl1 hl2 h1 h2 => exact .func fn a b f2 c2 (by simpa using hl1) (by simpa using hl2) (fun i c v hc hv => uninstL hg a ho.1 i c hc v (h1 i _ v (by rw [List.getElem?_map, hc]; rfl) hv)) (fun i c v hc hv => uninstL hg b ho.2 i c hc v (h2 i _ v (by rw [List.getElem?_map, hc]; rfl) hv))
  | .ptr _ _, ho, _, _ => by simp only [okG] at ho
  | .rsl _ _ _ _, ho, _, _ => by simp only [okG] at ho
  | .mapv _, ho, _, _ => by simp only [okG] at ho
  | .scol _ _ _ _ _ _ _ _, ho, _, _ => by simp only [okG] at ho
  | .oint _ _, ho, _, _ => by simp only [okG] at ho
  | .gsl _ _ _, ho, _, _ => by simp only [okG] at ho
theorem uninstL (hg : ∀ i n, ns[i]? = some n → ∃ b, β' i = some (b, n)) : ∀ (l : List AV), okGL ns l → ∀ (i : Nat) (c : AV), l[i]? = some c → ∀ v, VR hp L β (inst ns c) v → VR hp L β' c v
  | [], _, i, c, hc, _, _ => by simp at hc
  | a :: l, ho, 0, c, hc, v, h => by
    simp at hc; subst hc
    simp only [okGL] at ho
    exact uninst hg a ho.1 v h
  | a :: l, ho, i + 1, c, hc, v, h => by
    simp at hc
    simp only [okGL] at ho
    exact uninstL hg l ho.2 i c hc v h
theorem uninstLL (hg : ∀ i n, ns[i]? = some n → ∃ b, β' i = some (b, n)) : ∀ (l : List (List AV)), okGLL ns l → ∀ (i : Nat) (x : List AV), l[i]? = some x → ∀ (j : Nat) (c : AV), x[j]? = some c → ∀ v, VR hp L β (inst ns c) v → VR hp L β' c v
  | [], _, i, c, hc, _, _, _, _, _ => by simp at hc
  | a :: l, ho, 0, x, hx, j, c, hc, v, h => by
    simp at hx; subst hx
    simp only [okGLL] at ho
    exact uninstL hg a ho.1 j c hc v h
  | a :: l, ho, i + 1, x, hx, j, c, hc, v, h => by
    simp at hx
    simp only [okGLL] at ho
    exact uninstLL hg l ho.2 i x hx j c hc v h
end
end
section
variable {ns : List Nat} {h : AH}
end
end Go.Eng
end
