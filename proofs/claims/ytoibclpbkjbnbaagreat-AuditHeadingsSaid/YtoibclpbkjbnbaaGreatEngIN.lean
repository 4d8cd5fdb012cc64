/- Numbers for ghosts: what a run with numbers that are known by bounds says of each choice of them; freezing what it leaves. -/
import Derived.Test.YtoibclpbkjbnbaaGreatEngOX
import Derived.Test.YtoibclpbkjbnbaaGreatEngDD
set_option linter.unusedSimpArgs false
set_option linter.unusedVariables false
set_option linter.unnecessarySimpa false
noncomputable section
namespace Go.Eng
mutual
def inst (ns : List Nat) : AV → AV
  | .agg cs => .agg (instL ns cs)
  | .tup cs => .tup (instL ns cs)
  | .pptr cs => .pptr (instL ns cs)
  | .psl xs => .psl (instLL ns xs)
  | .func fn a b => .func fn (instL ns a) (instL ns b)
  | .iface t a => .iface t (inst ns a)
  | .sint k m i c lo hi => match ns[i]? with
    | some n => .int k (((n % m : Nat) : Int) + c)
    | none => .sint k m i c lo hi
  | .undef => .undef
  | .bool b => .bool b
  | .int k n => .int k n
  | .str s => .str s
  | .ptr a b => .ptr a b
  | .nilptr => .nilptr
  | .gptr g o => .gptr g o
  | .nilsl => .nilsl
  | .esl => .esl
  | .rsl a b c d => .rsl a b c d
  | .mapv a => .mapv a
  | .nilmap => .nilmap
  | .nilfunc => .nilfunc
  | .nilif => .nilif
  | .scol k m r i j l lo hi => .scol k m r i j l lo hi
def instL (ns : List Nat) : List AV → List AV
  | [] => []
  | a :: l => inst ns a :: instL ns l
def instLL (ns : List Nat) : List (List AV) → List (List AV)
  | [] => []
  | a :: l => instL ns a :: instLL ns l
end
theorem instL_eq (ns : List Nat) : ∀ l, instL ns l = l.map (inst ns)
  | [] => rfl
  | a :: l => by simp [instL, instL_eq ns l]
theorem instLL_eq (ns : List Nat) : ∀ l, instLL ns l = l.map fun x => x.map (inst ns)
  | [] => rfl
  | a :: l => by simp [instLL, instLL_eq ns l, instL_eq]

section
variable {ns : List Nat}
theorem VR.inst {hp : Array Obj} {L : Nat → Prop} {β : Bl} (hβ : ∀ i n, ns[i]? = some n → ∃ b, β i = some (b, n)) {a : AV} {v : Value} (h : VR hp L β a v) : VR hp L β (Eng.inst ns a) v := by
  induction h with
  | undef v => simp only [Eng.inst]; exact .undef v
  | bool b => simp only [Eng.inst]; exact .bool b
  | int k n => simp only [Eng.inst]; exact .int k n
  | str s => simp only [Eng.inst]; exact .str s
  | agg cs vs hl h ih =>
    simp only [Eng.inst, instL_eq]
    refine .agg _ _ (by simpa using hl) fun i c v hc hv => ?_
    rw [List.getElem?_map, Option.map_eq_some_iff] at hc
    obtain ⟨c0, h0, rfl⟩ := hc
    exact ih i c0 v h0 hv
  | tup cs vs hl h ih =>
    simp only [Eng.inst, instL_eq]
    refine .tup _ _ (by simpa using hl) fun i c v hc hv => ?_
    rw [List.getElem?_map, Option.map_eq_some_iff] at hc
    obtain ⟨c0, h0, rfl⟩ := hc
    exact ih i c0 v h0 hv
  | ptr id off b base h => simp only [Eng.inst]; exact .ptr id off b base h
  | nilptr => simp only [Eng.inst]; exact .nilptr
  | pptr cs b o cur e fz hb hL hs h ih =>
    simp only [Eng.inst, instL_eq]
    refine .pptr _ b o cur e fz hb hL (by simpa using hs) fun i c v hc hv => ?_
    rw [List.getElem?_map, Option.map_eq_some_iff] at hc
    obtain ⟨c0, h0, rfl⟩ := hc
    exact ih i c0 v h0 hv
  | gptr g off => simp only [Eng.inst]; exact .gptr g off
  | nilsl => simp only [Eng.inst]; exact .nilsl
  | esl a => simp only [Eng.inst]; exact .esl a
  | psl0 a cap => simp only [Eng.inst, instLL]; exact .psl0 a cap
  | psl xs z b o cap cur e fz hb hL hs hz hc h ih =>
    simp only [Eng.inst, instLL_eq]
    have := VR.psl (hp := hp) (L := L) (β := β) (xs.map fun x => x.map (Eng.inst ns)) z b o cap cur e fz hb hL (by simpa using hs) (fun i x hx => ?_) (by simpa using hc) (fun i x j c v hx hj hv => ?_)
    · simpa using this
    · rw [List.getElem?_map, Option.map_eq_some_iff] at hx
      obtain ⟨x0, h0, rfl⟩ := hx
      simpa using hz i x0 h0
    · rw [List.getElem?_map, Option.map_eq_some_iff] at hx
      obtain ⟨x0, h0, rfl⟩ := hx
      rw [List.getElem?_map, Option.map_eq_some_iff] at hj
      obtain ⟨c0, h1, rfl⟩ := hj
      exact ih i x0 j c0 v h0 h1 hv
  | rsl id off len z b base cap cur e h hb hc hm hs => simp only [Eng.inst]; exact .rsl id off len z b base cap cur e h hb hc hm hs
  | rsl0 id off z b base o h => simp only [Eng.inst]; exact .rsl0 id off z b base o h
  | mapv id b base h => simp only [Eng.inst]; exact .mapv id b base h
  | nilmap => simp only [Eng.inst]; exact .nilmap
  | func fn f1 c1 f2 c2 hl1 hl2 h1 h2 ih1 ih2 =>
    simp only [Eng.inst, instL_eq]
    refine .func fn _ _ f2 c2 (by simpa using hl1) (by simpa using hl2) (fun i c v hc hv => ?_) (fun i c v hc hv => ?_)
    · rw [List.getElem?_map, Option.map_eq_some_iff] at hc
      obtain ⟨c0, h0, rfl⟩ := hc
      exact ih1 i c0 v h0 hv
    · rw [List.getElem?_map, Option.map_eq_some_iff] at hc
      obtain ⟨c0, h0, rfl⟩ := hc
      exact ih2 i c0 v h0 hv
  | nilfunc => simp only [Eng.inst]; exact .nilfunc
  | nilif => simp only [Eng.inst]; exact .nilif
  | iface t a v h ih => simp only [Eng.inst]; exact .iface t _ v ih
  | sint k m i c lo hi b base h h1 h2 =>
    simp only [Eng.inst]
    split
    · rename_i n hn
      obtain ⟨b', hb'⟩ := hβ i n hn
      rw [h] at hb'
      cases hb'
      exact .int k _
    · exact .sint k m i c lo hi b base h h1 h2
  | scol k m r i j l lo hi b1 n1 b2 n2 b3 h1 h2 h3 q1 q2 q3 q4 => simp only [Eng.inst]; exact .scol k m r i j l lo hi b1 n1 b2 n2 b3 h1 h2 h3 q1 q2 q3 q4

def instO (ns : List Nat) : AObj → AObj
  | .cells cs => .cells (cs.map (inst ns))
  | .map kvs => .map (kvs.map fun kv => (inst ns kv.1, inst ns kv.2))
  | .siter s p => .siter s p
  | .glob g cs => .glob g (cs.map (inst ns))
theorem OR.inst {hp : Array Obj} {L : Nat → Prop} {β : Bl} (hβ : ∀ i n, ns[i]? = some n → ∃ b, β i = some (b, n)) {b base : Nat} {o : AObj} (h : OR hp L β b base o) : OR hp L β b base (instO ns o) := by
  cases o with
  | cells cs =>
    obtain ⟨cur, e, h1, h2, h3⟩ := h
    refine ⟨cur, e, h1, by simpa using h2, fun i c v hc hv => ?_⟩
    rw [List.getElem?_map, Option.map_eq_some_iff] at hc
    obtain ⟨c0, h0, rfl⟩ := hc
    exact (h3 i c0 v h0 hv).inst hβ
  | map kvs =>
    obtain ⟨h0, es, h1, h2, h3⟩ := h
    refine ⟨h0, es, by simpa using h1, by simpa using h2, fun i kv e hk he => ?_⟩
    rw [List.getElem?_map, Option.map_eq_some_iff] at hk
    obtain ⟨k0, q0, rfl⟩ := hk
    obtain ⟨a1, a2, a3⟩ := h3 i k0 e q0 he
    exact ⟨a1.inst hβ, a2.inst hβ, a3⟩
  | siter s p => exact h
  | glob g cs =>
    obtain ⟨h0, h5, cur, e, fz, h1, h2, h3⟩ := h
    refine ⟨h0, h5, cur, e, fz, h1, by simpa using h2, fun i c v hc hv => ?_⟩
    rw [List.getElem?_map, Option.map_eq_some_iff] at hc
    obtain ⟨c0, h0, rfl⟩ := hc
    exact (h3 i c0 v h0 hv).inst hβ
end
def PM.map {α β : Type} (f : α → β) : PM α → PM β
  | .leaf => .leaf
  | .node l v r => .node (l.map f) (v.map f) (r.map f)
theorem PM.get_map {α β : Type} (f : α → β) : ∀ (t : PM α) (k : Nat), (t.map f).get k = (t.get k).map f
  | .leaf, k => rfl
  | .node l v r, k => by
    simp only [PM.map, PM.get]
    cases Nat.beq k 0
    · cases Nat.beq (Nat.mod k 2) 1
      · simp only [cond_false]; exact PM.get_map f r _
      · simp only [cond_false, cond_true]; exact PM.get_map f l _
    · rfl
theorem live_map {β : Bl} {H : Hp} (f : AObj → AObj) : live β (H.map f) = live β H := by
  funext b
  apply propext
  constructor
  · rintro ⟨id, o, base, h1, h2⟩
    rw [PM.get_map, Option.map_eq_some_iff] at h1
    obtain ⟨o0, h0, rfl⟩ := h1
    exact ⟨id, o0, base, h0, h2⟩
  · rintro ⟨id, o, base, h1, h2⟩
    exact ⟨id, f o, base, by rw [PM.get_map, h1]; rfl, h2⟩
theorem SimH.inst {ns : List Nat} {own : Nat → Prop} {β : Bl} {H : Hp} {nx : Nat} {w : World} (hβ : ∀ i n, ns[i]? = some n → ∃ b, β i = some (b, n)) (hs : SimH own β H nx w) : SimH own β (H.map (instO ns)) nx w := by
  refine ⟨hs.fresh, hs.lt, hs.ownlt, fun id o hg => ?_, fun id id' o o' b x y h1 h2 h3 h4 => ?_⟩
  · rw [PM.get_map, Option.map_eq_some_iff] at hg
    obtain ⟨o0, h0, rfl⟩ := hg
    obtain ⟨b, base, h1, h2, h3⟩ := hs.obj id o0 h0
    refine ⟨b, base, h1, h2, ?_⟩
    rw [live_map]
    exact h3.inst hβ
  · rw [PM.get_map, Option.map_eq_some_iff] at h1 h2
    obtain ⟨o1, q1, _⟩ := h1
    obtain ⟨o2, q2, _⟩ := h2
    exact hs.inj id id' o1 o2 b x y q1 q2 h3 h4
/-- the heap that a run with ghosts leaves, for numbers -/
def instH (ns : List Nat) (h : AH) : AH := ⟨h.H.map (instO ns), h.nx⟩

/-! ## back: a value with numbers, where bounds suffice -/
mutual
def okG (ns : List Nat) : AV → Prop
  | .agg cs => okGL ns cs
  | .tup cs => okGL ns cs
  | .pptr cs => okGL ns cs
  | .psl xs => okGLL ns xs
  | .func _ a b => okGL ns a ∧ okGL ns b
  | .iface _ a => okG ns a
  | .sint _ m i c lo hi => ∃ n, ns[i]? = some n ∧ lo ≤ ((n % m : Nat) : Int) + c ∧ ((n % m : Nat) : Int) + c ≤ hi
  | .scol _ _ _ _ _ _ _ _ | .ptr _ _ | .rsl _ _ _ _ | .mapv _ => False
  | _ => True
def okGL (ns : List Nat) : List AV → Prop
  | [] => True
  | a :: l => okG ns a ∧ okGL ns l
def okGLL (ns : List Nat) : List (List AV) → Prop
  | [] => True
  | a :: l => okGL ns a ∧ okGLL ns l
end
section
variable {ns : List Nat} {hp : Array Obj} {L : Nat → Prop} {β β' : Bl}
mutual
theorem uninst (hg : ∀ i n, ns[i]? = some n → ∃ b, β' i = some (b, n)) : ∀ (s : AV), okG ns s → ∀ v, VR hp L β (inst ns s) v → VR hp L β' s v
  | .undef, _, v, h => .undef v
  | .bool b, _, v, h => by simp only [inst] at h; cases h; exact .bool b
  | .int k n, _, v, h => by simp only [inst] at h; cases h; exact .int k n
  | .str s, _, v, h => by simp only [inst] at h; cases h; exact .str s
  | .nilptr, _, v, h => by simp only [inst] at h; cases h; exact .nilptr
  | .gptr g o, _, v, h => by simp only [inst] at h; cases h; exact .gptr g o
  | .nilsl, _, v, h => by simp only [inst] at h; cases h; exact .nilsl
  | .esl, _, v, h => by simp only [inst] at h; cases h; exact .esl _
  | .nilmap, _, v, h => by simp only [inst] at h; cases h; exact .nilmap
  | .nilfunc, _, v, h => by simp only [inst] at h; cases h; exact .nilfunc
  | .nilif, _, v, h => by simp only [inst] at h; cases h; exact .nilif
  | .iface t a, ho, v, h => by
    simp only [inst] at h
    simp only [okG] at ho
    cases h with | iface _ _ u hu => exact .iface t a u (uninst hg a ho u hu)
  | .sint k m i c lo hi, ho, v, h => by
    simp only [okG] at ho
    obtain ⟨n, hn, h1, h2⟩ := ho
    simp only [inst, hn] at h
    cases h
    obtain ⟨b, hb⟩ := hg i n hn
    exact .sint k m i c lo hi b n hb h1 h2
  | .agg cs, ho, v, h => by
    simp only [inst, instL_eq] at h
    simp only [okG] at ho
    cases h with
    | agg _ vs hl hx => exact .agg cs vs (by simpa using hl) fun i c v hc hv => uninstL hg cs ho i c hc v (hx i _ v (by rw [List.getElem?_map, hc]; rfl) hv)
  | .tup cs, ho, v, h => by
    simp only [inst, instL_eq] at h
    simp only [okG] at ho
    cases h with
    | tup _ vs hl hx => exact .tup cs vs (by simpa using hl) fun i c v hc hv => uninstL hg cs ho i c hc v (hx i _ v (by rw [List.getElem?_map, hc]; rfl) hv)
  | .pptr cs, ho, v, h => by
    simp only [inst, instL_eq] at h
    simp only [okG] at ho
    cases h with
    | pptr _ b o cur e fz hb hL hs hx => exact .pptr cs b o cur e fz hb hL (by simpa using hs) fun i c v hc hv => uninstL hg cs ho i c hc v (hx i _ v (by rw [List.getElem?_map, hc]; rfl) hv)
  | .psl xs, ho, v, h => by
    simp only [inst, instLL_eq] at h
    simp only [okG] at ho
    generalize hq : (xs.map fun x => x.map (inst ns)) = ys at h
    cases h with
    | psl0 a cap =>
      have : xs = [] := by simpa using hq
      subst this
      exact .psl0 a cap
    | psl _ z b o cap cur e fz hb hL hs hz hc hx =>
      subst hq
      have := VR.psl (hp := hp) (L := L) (β := β') xs z b o cap cur e fz hb hL (by simpa using hs) (fun i x hxx => by simpa using hz i (x.map (inst ns)) (by rw [List.getElem?_map, hxx]; rfl)) (by simpa using hc)
        (fun i x j c v hxx hj hv => uninstLL hg xs ho i x hxx j c hj v (hx i (x.map (inst ns)) j (inst ns c) v (by rw [List.getElem?_map, hxx]; rfl) (by rw [List.getElem?_map, hj]; rfl) hv))
      simpa using this
  | .func fn a b, ho, v, h => by
    simp only [inst, instL_eq] at h
    simp only [okG] at ho
    cases h with
    | func _ _ _ f2 c2 hl1 hl2 h1 h2 => exact .func fn a b f2 c2 (by simpa using hl1) (by simpa using hl2) (fun i c v hc hv => uninstL hg a ho.1 i c hc v (h1 i _ v (by rw [List.getElem?_map, hc]; rfl) hv)) (fun i c v hc hv => uninstL hg b ho.2 i c hc v (h2 i _ v (by rw [List.getElem?_map, hc]; rfl) hv))
  | .ptr _ _, ho, _, _ => by simp only [okG] at ho
  | .rsl _ _ _ _, ho, _, _ => by simp only [okG] at ho
  | .mapv _, ho, _, _ => by simp only [okG] at ho
  | .scol _ _ _ _ _ _ _ _, ho, _, _ => by simp only [okG] at ho
theorem uninstL (hg : ∀ i n, ns[i]? = some n → ∃ b, β' i = some (b, n)) : ∀ (l : List AV), okGL ns l → ∀ (i : Nat) (c : AV), l[i]? = some c → ∀ v, VR hp L β (inst ns c) v → VR hp L β' c v
  | [], _, i, c, hc, _, _ => by simp at hc
  | a :: l, ho, 0, c, hc, v, h => by
    simp at hc; subst hc
    simp only [okGL] at ho
    exact uninst hg a ho.1 v h
  | a :: l, ho, i + 1, c, hc, v, h => by
    simp at hc
    simp only [okGL] at ho
    exact uninstL hg l ho.2 i c hc v h
theorem uninstLL (hg : ∀ i n, ns[i]? = some n → ∃ b, β' i = some (b, n)) : ∀ (l : List (List AV)), okGLL ns l → ∀ (i : Nat) (x : List AV), l[i]? = some x → ∀ (j : Nat) (c : AV), x[j]? = some c → ∀ v, VR hp L β (inst ns c) v → VR hp L β' c v
  | [], _, i, c, hc, _, _, _, _, _ => by simp at hc
  | a :: l, ho, 0, x, hx, j, c, hc, v, h => by
    simp at hx; subst hx
    simp only [okGLL] at ho
    exact uninstL hg a ho.1 j c hc v h
  | a :: l, ho, i + 1, x, hx, j, c, hc, v, h => by
    simp at hx
    simp only [okGLL] at ho
    exact uninstLL hg l ho.2 i x hx j c hc v h
end
end
theorem LL_leaf (own : Nat → Prop) (β β' : Bl) : LL own β (.leaf : Hp) = LL own β' (.leaf : Hp) := by
  funext b
  apply propext
  have hn : ∀ β : Bl, ¬ live β (.leaf : Hp) b := fun β ⟨id, o, base, h1, _⟩ => by simp [PM.get] at h1
  exact ⟨fun h => h.elim .inl fun h => (hn _ h).elim, fun h => h.elim .inl fun h => (hn _ h).elim⟩
/-- numbers put in the ghosts' places -/
theorem ghost_elim {P : Program} {f k : Nat} {sargs : List AV} {v : AV} {h' : AH} (hc : CallD P f sargs ⟨.leaf, k⟩ v h') {ns : List Nat} (hk : ns.length = k) (ho : okGL ns sargs)
    (hne : ∀ (hp : Array Obj) (L : Nat → Prop) (β : Bl) (cargs : List Value), k ≠ 0 → RL hp L β (sargs.map (inst ns)) cargs → 0 < hp.size) :
    CallsA P f (sargs.map (inst ns)) emp fun v1 h1 => v1 = inst ns v ∧ h1 = instH ns h' := by
  refine ⟨hc.1, fun own β w cargs hs hR => ?_⟩
  have hg : ∀ i n, ns[i]? = some n → ∃ b, (fun id => (ns[id]?).map fun n => ((0 : Nat), n) : Bl) i = some (b, n) := fun i n hi => ⟨0, by simp [hi]⟩
  have hleaf : ∀ (β : Bl) (b : Nat), ¬ live β (.leaf : Hp) b := fun β b ⟨id, o, base, h1, _⟩ => by simp [PM.get] at h1
  have hS : SimH own (fun id => (ns[id]?).map fun n => ((0 : Nat), n)) (⟨.leaf, k⟩ : AH).H (⟨.leaf, k⟩ : AH).nx w := by
    refine ⟨fun id hid => ?_, fun id b base hb => ?_, hs.ownlt, fun id o hg => by simp [PM.get] at hg, fun id id' o o' b x y h1 => by simp [PM.get] at h1⟩
    · simp only at hid ⊢
      rw [List.getElem?_eq_none (by omega)]; rfl
    · simp only [Option.map_eq_some_iff] at hb
      obtain ⟨n, hn, he⟩ := hb
      cases he
      refine hne _ _ _ _ ?_ hR
      have := (List.getElem?_eq_some_iff.1 hn).1
      omega
  have hR' : RL w.heap (LL own (fun id => (ns[id]?).map fun n => ((0 : Nat), n)) (⟨.leaf, k⟩ : AH).H) (fun id => (ns[id]?).map fun n => ((0 : Nat), n)) sargs cargs.toList := by
    refine ⟨by simpa using hR.1, fun i c v hcc hv => ?_⟩
    have h1 := hR.2 i (inst ns c) v (by rw [List.getElem?_map, hcc]; rfl) hv
    rw [show LL own β emp.H = LL own (fun id => (ns[id]?).map fun n => ((0 : Nat), n)) (.leaf : Hp) from LL_leaf _ _ _] at h1
    exact uninstL hg sargs ho i c hcc v h1
  refine (hc.2 own _ w cargs hS hR').mono ?_
  rintro e w' ⟨cv, v2, h2, β2, rfl, ⟨rfl, rfl⟩, g1, g2, g3⟩
  have hg2 : ∀ i n, ns[i]? = some n → ∃ b, β2 i = some (b, n) := fun i n hi => by
    obtain ⟨b, hb⟩ := hg i n hi
    exact ⟨b, g3.ext _ _ hb⟩
  have hβ : ∀ id, β id = none := fun id => hs.fresh id (Nat.zero_le _)
  refine ⟨cv, _, _, β2, rfl, ⟨rfl, rfl⟩, g1.inst hg2, ?_, ?_⟩
  · have := g2.inst (ns := ns) hg2
    rw [show LL own β2 (instH ns h2).H = LL own β2 h2.H from by unfold LL instH; rw [live_map]]
    exact this
  · refine ⟨fun id x hx => ?_, fun id hid => absurd hid (Nat.not_lt_zero _), Nat.zero_le _, g3.size, fun b hb _ => g3.keep b hb (hleaf _ b), fun b hb => ?_, g3.shape, g3.os, g3.tape, g3.output⟩
    · rw [hβ id] at hx; cases hx
    · unfold instH at hb
      rw [live_map] at hb
      rcases g3.live b hb with h1 | h1
      · exact (hleaf _ b h1).elim
      · exact .inr h1

/-! ## freezing -/
mutual
/-- what a value is when all that it reaches is taken as frozen (K: how many ghosts there are) -/
def frzF (K : Nat) (h : AH) : Nat → AV → Option AV
  | 0, _ => none
  | n + 1, a => match a with
    | .bool b => some (.bool b)
    | .int k m => some (.int k m)
    | .str s => some (.str s)
    | .nilptr => some .nilptr
    | .nilfunc => some .nilfunc
    | .nilif => some .nilif
    | .nilmap => some .nilmap
    | .nilsl => some .nilsl
    | .esl => some .esl
    | .sint k m i c lo hi => cond (Nat.blt i K) (some (.sint k m i c lo hi)) none
    | .agg cs => (frzL K h n cs).map .agg
    | .tup cs => (frzL K h n cs).map .tup
    | .rsl id off len z => match h.cellsAt id with
      | some cs => cond (Nat.ble (off + len * z) cs.length) ((frzC K h n z len (cs.drop off)).map .psl) none
      | none => none
    | .psl xs => (frzP K h n xs).map .psl
    | _ => none
def frzL (K : Nat) (h : AH) : Nat → List AV → Option (List AV)
  | _, [] => some []
  | 0, _ :: _ => none
  | n + 1, a :: l => match frzF K h n a, frzL K h n l with
    | some b, some m => some (b :: m)
    | _, _ => none
def frzP (K : Nat) (h : AH) : Nat → List (List AV) → Option (List (List AV))
  | _, [] => some []
  | 0, _ :: _ => none
  | n + 1, a :: l => match frzL K h n a, frzP K h n l with
    | some b, some m => some (b :: m)
    | _, _ => none
def frzC (K : Nat) (h : AH) : Nat → Nat → Nat → List AV → Option (List (List AV))
  | _, _, 0, _ => some []
  | 0, _, _ + 1, _ => none
  | n + 1, z, c + 1, l => match frzL K h n (l.take z), frzC K h n z c (l.drop z) with
    | some b, some m => some (b :: m)
    | _, _ => none
end
theorem frzL_len {K : Nat} {h : AH} : ∀ (n : Nat) (l m : List AV), frzL K h n l = some m → m.length = l.length
  | _, [], m, hm => by cases ‹Nat› <;> simp [frzL] at hm <;> subst hm <;> rfl
  | 0, a :: l, m, hm => by simp [frzL] at hm
  | n + 1, a :: l, m, hm => by
    simp only [frzL] at hm
    split at hm
    · rename_i b m' h1 h2
      cases hm
      simp [frzL_len n l m' h2]
    · cases hm
section
variable {ns : List Nat} {h : AH}
theorem instH_cells {id : Nat} {cs : List AV} (hc : h.cellsAt id = some cs) : (instH ns h).cellsAt id = some (cs.map (inst ns)) := by
  have := cellsAt_some hc
  unfold AH.cellsAt instH
  rw [PM.get_map, this]
  rfl
mutual
theorem frzF_ok : ∀ (n : Nat) (a b : AV), frzF ns.length h n a = some b → Frz (instH ns h) false (inst ns a) (inst ns b)
  | 0, a, b, hf => by simp [frzF] at hf
  | n + 1, a, b, hf => by
    unfold frzF at hf
    split at hf
    · cases hf; simp only [inst]; exact .bool _
    · cases hf; simp only [inst]; exact .int _ _
    · cases hf; simp only [inst]; exact .str _
    · cases hf; simp only [inst]; exact .nilptr
    · cases hf; simp only [inst]; exact .nilfunc
    · cases hf; simp only [inst]; exact .nilif
    · cases hf; simp only [inst]; exact .nilmap
    · cases hf; simp only [inst]; exact .nilsl0
    · cases hf; simp only [inst]; exact .esl0
    · rename_i k m i c lo hi
      cases hb : Nat.blt i ns.length with
      | false => rw [hb] at hf; cases hf
      | true =>
        rw [hb] at hf
        cases hf
        have hi : i < ns.length := by simpa [Nat.blt_eq] using hb
        simp only [inst, List.getElem?_eq_getElem hi]
        exact .int _ _
    · rename_i cs
      rw [Option.map_eq_some_iff] at hf
      obtain ⟨m, hm, rfl⟩ := hf
      simp only [inst, instL_eq]
      refine .agg _ _ (by simp [frzL_len n cs m hm]) fun i c d hc hd => ?_
      rw [List.getElem?_map, Option.map_eq_some_iff] at hc hd
      obtain ⟨c0, h0, rfl⟩ := hc
      obtain ⟨d0, h1, rfl⟩ := hd
      exact frzL_ok n cs m hm i c0 d0 h0 h1
    · rename_i cs
      rw [Option.map_eq_some_iff] at hf
      obtain ⟨m, hm, rfl⟩ := hf
      simp only [inst, instL_eq]
      refine .tup _ _ (by simp [frzL_len n cs m hm]) fun i c d hc hd => ?_
      rw [List.getElem?_map, Option.map_eq_some_iff] at hc hd
      obtain ⟨c0, h0, rfl⟩ := hc
      obtain ⟨d0, h1, rfl⟩ := hd
      exact frzL_ok n cs m hm i c0 d0 h0 h1
    · rename_i id off len z
      split at hf
      · rename_i cs hcs
        cases hb : Nat.ble (off + len * z) cs.length with
        | false => rw [hb] at hf; cases hf
        | true =>
          rw [hb] at hf
          simp only [cond_true, Option.map_eq_some_iff] at hf
          obtain ⟨m, hm, rfl⟩ := hf
          have hle := Nat.le_of_ble_eq_true hb
          obtain ⟨q1, q2, q3⟩ := frzC_ok n z len (cs.drop off) m hm (by simp; omega)
          simp only [inst, instLL_eq]
          have := Frz.rsl (h := instH ns h) (n := false) id off z (cs.map (inst ns)) (m.map fun x => x.map (inst ns)) (instH_cells hcs) (by simp [q1]; omega) (fun i y hy => ?_) (fun i y j c d hy hd hc => ?_)
          · simpa [q1] using this
          · rw [List.getElem?_map, Option.map_eq_some_iff] at hy
            obtain ⟨y0, h0, rfl⟩ := hy
            simpa using q2 i y0 h0
          · rw [List.getElem?_map, Option.map_eq_some_iff] at hy
            obtain ⟨y0, h0, rfl⟩ := hy
            rw [List.getElem?_map, Option.map_eq_some_iff] at hd hc
            obtain ⟨d0, h1, rfl⟩ := hd
            obtain ⟨c0, h2, rfl⟩ := hc
            exact q3 i y0 j c0 d0 h0 h1 (by rw [List.getElem?_drop, ← h2]; congr 1; omega)
      · cases hf
    · rename_i xs
      rw [Option.map_eq_some_iff] at hf
      obtain ⟨m, hm, rfl⟩ := hf
      obtain ⟨q1, q2, q3⟩ := frzP_ok n xs m hm
      simp only [inst, instLL_eq]
      refine .psl rfl _ _ (by simp [q1]) (fun i x y hx hy => ?_) (fun i x y j c d hx hy hc hd => ?_)
      · rw [List.getElem?_map, Option.map_eq_some_iff] at hx hy
        obtain ⟨x0, h0, rfl⟩ := hx
        obtain ⟨y0, h1, rfl⟩ := hy
        simpa using q2 i x0 y0 h0 h1
      · rw [List.getElem?_map, Option.map_eq_some_iff] at hx hy
        obtain ⟨x0, h0, rfl⟩ := hx
        obtain ⟨y0, h1, rfl⟩ := hy
        rw [List.getElem?_map, Option.map_eq_some_iff] at hc hd
        obtain ⟨c0, h2, rfl⟩ := hc
        obtain ⟨d0, h3, rfl⟩ := hd
        exact q3 i x0 y0 j c0 d0 h0 h1 h2 h3
    · cases hf
theorem frzL_ok : ∀ (n : Nat) (l m : List AV), frzL ns.length h n l = some m → ∀ (i : Nat) (c d : AV), l[i]? = some c → m[i]? = some d → Frz (instH ns h) false (inst ns c) (inst ns d)
  | _, [], m, hm, i, c, d, hc, hd => by simp at hc
  | 0, a :: l, m, hm, i, c, d, hc, hd => by simp [frzL] at hm
  | n + 1, a :: l, m, hm, i, c, d, hc, hd => by
    simp only [frzL] at hm
    split at hm
    · rename_i b m' h1 h2
      cases hm
      cases i with
      | zero => simp at hc hd; subst hc; subst hd; exact frzF_ok n a b h1
      | succ i => simp at hc hd; exact frzL_ok n l m' h2 i c d hc hd
    · cases hm
theorem frzP_ok : ∀ (n : Nat) (l m : List (List AV)), frzP ns.length h n l = some m → m.length = l.length ∧ (∀ (i : Nat) (x y : List AV), l[i]? = some x → m[i]? = some y → x.length = y.length) ∧
    ∀ (i : Nat) (x y : List AV) (j : Nat) (c d : AV), l[i]? = some x → m[i]? = some y → x[j]? = some c → y[j]? = some d → Frz (instH ns h) false (inst ns c) (inst ns d)
  | n, [], m, hm => by
    cases n <;> simp [frzP] at hm <;> subst hm <;> exact ⟨rfl, fun i x y hx => by simp at hx, fun i x y j c d hx => by simp at hx⟩
  | 0, a :: l, m, hm => by simp [frzP] at hm
  | n + 1, a :: l, m, hm => by
    simp only [frzP] at hm
    split at hm
    · rename_i b m' h1 h2
      cases hm
      obtain ⟨q1, q2, q3⟩ := frzP_ok n l m' h2
      refine ⟨by simp [q1], fun i x y hx hy => ?_, fun i x y j c d hx hy hc hd => ?_⟩
      · cases i with
        | zero => simp at hx hy; subst hx; subst hy; exact (frzL_len n _ _ h1).symm
        | succ i => simp at hx hy; exact q2 i x y hx hy
      · cases i with
        | zero => simp at hx hy; subst hx; subst hy; exact frzL_ok n _ _ h1 j c d hc hd
        | succ i => simp at hx hy; exact q3 i x y j c d hx hy hc hd
    · cases hm
theorem frzC_ok : ∀ (n z c : Nat) (l : List AV) (m : List (List AV)), frzC ns.length h n z c l = some m → c * z ≤ l.length → m.length = c ∧ (∀ (i : Nat) (y : List AV), m[i]? = some y → y.length = z) ∧
    ∀ (i : Nat) (y : List AV) (j : Nat) (a b : AV), m[i]? = some y → y[j]? = some b → l[i * z + j]? = some a → Frz (instH ns h) false (inst ns a) (inst ns b)
  | n, z, 0, l, m, hm, hl => by
    cases n <;> simp [frzC] at hm <;> subst hm <;> exact ⟨rfl, fun i y hy => by simp at hy, fun i y j a b hy => by simp at hy⟩
  | 0, z, c + 1, l, m, hm, hl => by simp [frzC] at hm
  | n + 1, z, c + 1, l, m, hm, hl => by
    simp only [frzC] at hm
    split at hm
    · rename_i b m' h1 h2
      cases hm
      rw [Nat.succ_mul] at hl
      obtain ⟨q1, q2, q3⟩ := frzC_ok n z c (l.drop z) m' h2 (by simp; omega)
      have hbl : b.length = z := by rw [frzL_len n _ b h1]; simp; omega
      refine ⟨by simp [q1], fun i y hy => ?_, fun i y j a d hy hd ha => ?_⟩
      · cases i with
        | zero => simp at hy; subst hy; exact hbl
        | succ i => simp at hy; exact q2 i y hy
      · cases i with
        | zero =>
          simp at hy
          subst hy
          have hj : j < z := by rw [← hbl]; exact (List.getElem?_eq_some_iff.1 hd).1
          exact frzL_ok n _ b h1 j a d (by rw [List.getElem?_take, if_pos hj]; simpa using ha) hd
        | succ i =>
          simp at hy
          exact q3 i y j a d hy hd (by rw [List.getElem?_drop, ← ha]; congr 1; rw [Nat.succ_mul]; omega)
    · cases hm
end
end
end Go.Eng
end
