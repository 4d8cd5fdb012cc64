/- strings.Builder's WriteString at this program. Runs in a world where a package-level variable is laid. Calls with frozen arguments where a variable is laid: found once, used later. Appending a string's bytes to a builder's row, and whereto they go. strings.Builder's WriteString with the whole frame. A call that ends with one new object and changed old ones: what else it has made is forgotten, what the new object holds is frozen. A call after which the heap is taken as before but for some old objects. -/
import Derived.Test.YtndpneieplopaaaGreatDoorTryzShelf
import Derived.KernelRfl
import Derived.Test.YtndpneieplopaaaGreatDoorEngIN
import Derived.OpenShut
import Derived.ChangeArms
import Derived.Below
import Derived.Test.YtndpneieplopaaaGreatDoorEngPH
import Derived.Shelf.Strings.Builder1
import Derived.WalkKit
import Derived.ProofKit
import Derived.BigCall
import Derived.BigGuard
import Derived.Deep.Heap
set_option linter.unusedSimpArgs false
set_option linter.unusedVariables false
set_option linter.unnecessarySimpa false
noncomputable section
namespace Go.Proofs
open Go.Shelf
def Tryz.renB : Go.Shelf.Ren := ⟨fun | 166 => 31 | 240 => 76 | 276 => 110 | n => n, fun | 0 => 0 | 3 => 3 | 4 => 4 | 5 => 5 | 9 => 9 | 20 => 20 | 70 => 83 | 72 => 85 | 37 => 80 | 75 => 88 | 80 => 91 | 164 => 149 | n => n, fun | n => n⟩
theorem tf240 : Tryz.prog.funcs[76]? = some (Body.n240 Tryz.renB) := Tryz.func76.trans (congrArg some (by kernel_rfl))
theorem tf276 : Tryz.prog.funcs[110]? = some (Body.n276 Tryz.renB) := Tryz.func110.trans (congrArg some (by kernel_rfl))
theorem tf166 : Tryz.prog.funcs[31]? = some (Body.n166 Tryz.renB) := Tryz.func31.trans (congrArg some (by kernel_rfl))
theorem Tryz.lays166 : Lays.n166 Tryz.prog Tryz.renB := {
  mixed := by kernel_rfl
  f166 := tf166
  f240 := tf240
  f276 := tf276
  t0 := Tryz.underlying0
  a0 := Tryz.isAgg0
  z0 := Tryz.sizeOf0
  v0 := Tryz.zeroValue0
  t3 := Tryz.underlying3
  a3 := Tryz.isAgg3
  z3 := Tryz.sizeOf3
  v3 := Tryz.zeroValue3
  t4 := Tryz.underlying4
  a4 := Tryz.isAgg4
  z4 := Tryz.sizeOf4
  v4 := Tryz.zeroValue4
  t9 := Tryz.underlying9
  a9 := Tryz.isAgg9
  z9 := Tryz.sizeOf9
  v9 := Tryz.zeroValue9
  t20 := Tryz.underlying20
  a20 := Tryz.isAgg20
  z20 := Tryz.sizeOf20
  v20 := Tryz.zeroValue20
  t37 := Tryz.underlying80
  a37 := Tryz.isAgg80
  z37 := Tryz.sizeOf80
  v37 := Tryz.zeroValue80
  t70 := Tryz.underlying83
  a70 := Tryz.isAgg83
  z70 := Tryz.sizeOf83
  v70 := Tryz.zeroValue83
  t72 := Tryz.underlying85
  a72 := Tryz.isAgg85
  z72 := Tryz.sizeOf85
  v72 := Tryz.zeroValue85
  t75 := Tryz.underlying88
  a75 := Tryz.isAgg88
  z75 := Tryz.sizeOf88
  v75 := Tryz.zeroValue88
  t164 := Tryz.underlying149
  a164 := Tryz.isAgg149
  z164 := Tryz.sizeOf149
  v164 := Tryz.zeroValue149 }
theorem Tryz.Builder_Extra_166 : Builder.Extra Tryz.prog Tryz.renB := {
  sizeBuilder := by kernel_rfl
  liesBuilder := by kernel_rfl
  t5 := Tryz.underlying5
  a5 := Tryz.isAgg5
  z5 := Tryz.sizeOf5
  v5 := Tryz.zeroValue5
  infoByte := by kernel_rfl
  cellsByte := by kernel_rfl
  sizeByte := by kernel_rfl
  neB5 := by decide }
end Go.Proofs
end
noncomputable section
namespace Go.Eng
open Go.RowKit
/-! ## cells off a datum -/
mutual
def flatD {H : Type} (P : Program) : Nat → TypeId → DataW H → Option (List AV)
  | 0, _, _ => none
  | n + 1, t, d => match P.underlying t with
    | some .bool => match d with
      | .lit (.bool b) => some [.bool b]
      | _ => none
    | some (.int k) => match d with
      | .lit (.int k' m) => if k' = k then some [.int k m] else none
      | _ => none
    | some (.array len e) => match d with
      | .agg ds => if ds.length = len ∧ P.cellsOf t = len * P.cellsOf e then flatA P n e (P.cellsOf e) ds else none
      | _ => none
    | some (.struct fs) => match d with
      | .agg ds => match flatS P n fs.toList 0 ds with
        | some al => if al.length = P.cellsOf t then some al else none
        | none => none
      | _ => none
    | _ => none
def flatA {H : Type} (P : Program) : Nat → TypeId → Nat → List (DataW H) → Option (List AV)
  | _, _, _, [] => some []
  | n, e, z, d :: ds => match flatD P n e d, flatA P n e z ds with
    | some a, some b => if a.length = z then some (a ++ b) else none
    | _, _ => none
def flatS {H : Type} (P : Program) : Nat → List Field → Nat → List (DataW H) → Option (List AV)
  | _, [], _, [] => some []
  | n, f :: fs, o, d :: ds => match flatD P n f.type d with
    | some a => if f.offset = o ∧ a.length = P.cellsOf f.type then (match flatS P n fs (o + a.length) ds with
      | some b => some (a ++ b)
      | none => none) else none
    | none => none
  | _, _, _, _ => none
end
section
variable {H : Type} {enc : TypeId × Value → H} {P : Program} {w : World} {base : Nat} {spare : Nat → Bool} {held : Bool} {hp : Array Obj} {L : Nat → Prop} {β : Bl}
theorem RL.take_drop {al bs : List AV} {cs : List Value} {z : Nat} (h1 : RL hp L β al (cs.take z)) (hz : al.length = z) (h2 : RL hp L β bs (cs.drop z)) : RL hp L β (al ++ bs) cs := by
  have := h1.append h2
  rwa [List.take_append_drop] at this

theorem flatA_RL {n m : Nat} {e : TypeId} (ih : ∀ (cs : List Value) (d : DataW H) (p : List MemPlace) (al : List AV), DataW.trod enc P w base spare held m e cs = some (d, p) → flatD P n e d = some al → RL hp L β al cs) :
    ∀ (xs : List (DataW H × List MemPlace)) (cs : List Value) (al : List AV), cs.length = xs.length * P.cellsOf e → (∀ i, i < xs.length → DataW.trod enc P w base spare held m e ((cs.drop (i * P.cellsOf e)).take (P.cellsOf e)) = xs[i]?) →
      flatA P n e (P.cellsOf e) (xs.map (·.1)) = some al → RL hp L β al cs
  | [], cs, al, hl, hx, hf => by
    simp [flatA] at hf
    subst hf
    have : cs = [] := List.length_eq_zero_iff.1 (by simpa using hl)
    subst this
    exact .nil
  | x :: xs, cs, al, hl, hx, hf => by
    simp only [List.map_cons, flatA] at hf
    split at hf
    · rename_i a b ha hb
      split at hf
      · rename_i hz
        cases hf
        have h0 := hx 0 (by simp)
        simp at h0
        obtain ⟨d, p⟩ := x
        have r1 := ih _ d p a h0 ha
        refine r1.take_drop hz (flatA_RL ih xs _ _ ?_ (fun i hi => ?_) hb)
        · simp only [List.length_drop, hl, List.length_cons, Nat.succ_mul]; omega
        · have := hx (i + 1) (by simp; omega)
          rw [Nat.succ_mul] at this
          rw [List.drop_drop, Nat.add_comm]
          simpa using this
      · cases hf
    · cases hf
theorem flatS_RL {n m : Nat} (ih : ∀ (t : TypeId) (cs : List Value) (d : DataW H) (p : List MemPlace) (al : List AV), DataW.trod enc P w base spare held m t cs = some (d, p) → flatD P n t d = some al → RL hp L β al cs) :
    ∀ (fs : List Field) (xs : List (DataW H × List MemPlace)) (o : Nat) (cs : List Value) (al : List AV), al.length = cs.length → (∀ (i : Nat) (f : Field), fs[i]? = some f → ∃ x, xs[i]? = some x ∧ o ≤ f.offset ∧ DataW.trod enc P w base spare held m f.type ((cs.drop (f.offset - o)).take (P.cellsOf f.type)) = some x) →
      flatS P n fs o (xs.map (·.1)) = some al → RL hp L β al cs
  | [], [], o, cs, al, hl, hx, hf => by
    simp [flatS] at hf
    subst hf
    have : cs = [] := List.length_eq_zero_iff.1 (by simpa using hl.symm)
    subst this
    exact .nil
  | [], x :: xs, o, cs, al, hl, hx, hf => by simp [flatS] at hf
  | f :: fs, [], o, cs, al, hl, hx, hf => by simp [flatS] at hf
  | f :: fs, x :: xs, o, cs, al, hl, hx, hf => by
    simp only [List.map_cons, flatS] at hf
    split at hf
    · rename_i a ha
      split at hf
      · rename_i hc
        obtain ⟨hof, hz⟩ := hc
        split at hf
        · rename_i b hb
          cases hf
          obtain ⟨x', h1, h2, h3⟩ := hx 0 f rfl
          simp at h1
          subst h1
          rw [hof, Nat.sub_self, List.drop_zero] at h3
          obtain ⟨d, p⟩ := x
          have r1 := ih _ _ d p a h3 ha
          refine r1.take_drop hz (flatS_RL ih fs xs _ _ _ ?_ (fun i g hg => ?_) hb)
          · simp at hl ⊢; omega
          · obtain ⟨y, q1, q2, q3⟩ := hx (i + 1) g (by simpa using hg)
            have hmono : o + a.length ≤ g.offset := by
              -- offsets go up: off the form of flatS
              clear q3
              have : ∀ (fs : List Field) (ds : List (DataW H)) (o : Nat) (b : List AV), flatS P n fs o ds = some b → ∀ (i : Nat) (g : Field), fs[i]? = some g → o ≤ g.offset := by
                intro fs
                induction fs with
                | nil => intro ds o b _ i g hg; simp at hg
                | cons f fs ihf =>
                  intro ds o b hb i g hg
                  cases ds with
                  | nil => simp [flatS] at hb
                  | cons d ds =>
                  simp only [flatS] at hb
                  split at hb
                  · split at hb
                    · rename_i hc
                      split at hb
                      · rename_i b' hb'
                        cases i with
                        | zero => simp at hg; subst hg; omega
                        | succ i => have := ihf _ _ _ hb' i g (by simpa using hg); omega
                      · cases hb
                    · cases hb
                  · cases hb
              exact this _ _ _ _ hb i g hg
            refine ⟨y, by simpa using q1, hmono, ?_⟩
            rw [← hz, List.drop_drop, show a.length + (g.offset - (o + a.length)) = g.offset - o by omega]
            exact q3
        · cases hf
      · cases hf
    · cases hf

theorem flatD_RL : ∀ (n m : Nat) (t : TypeId) (cs : List Value) (d : DataW H) (p : List MemPlace) (al : List AV), DataW.trod enc P w base spare held m t cs = some (d, p) → flatD P n t d = some al → RL hp L β al cs
  | 0, m, t, cs, d, p, al, ht, hf => by simp [flatD] at hf
  | n + 1, m, t, cs, d, p, al, ht, hf => by
    unfold flatD at hf
    split at hf
    · rename_i hu
      obtain ⟨b, rfl, hx⟩ := DataW.trod_bool hu ht
      cases hx
      cases hf
      exact .cons (.bool _) .nil
    · rename_i k hu
      obtain ⟨q, rfl, hx, _⟩ := DataW.trod_int hu ht
      cases hx
      simp only [if_true] at hf
      cases hf
      exact .cons (.int _ _) .nil
    · rename_i len e hu
      obtain ⟨xs, m1, rfl, hx, hcl, hxl, hel⟩ := DataW.trod_array hu ht
      cases hx
      simp only at hf
      split at hf
      · rename_i hc
        exact flatA_RL (n := n) (fun cs d p al h1 h2 => flatD_RL n m1 e cs d p al h1 h2) xs cs al (by rw [hcl, hc.2, hxl]) (fun i hi => hel i (by omega)) hf
      · cases hf
    · rename_i fs hu
      obtain ⟨xs, m1, rfl, hx, hcl, hxl, hel⟩ := DataW.trod_struct hu ht
      cases hx
      simp only at hf
      split at hf
      · rename_i al' h1
        split at hf
        · rename_i hl
          cases hf
          refine flatS_RL (n := n) (fun t cs d p al h1 h2 => flatD_RL n m1 t cs d p al h1 h2) fs.toList xs 0 cs al (by rw [hl, hcl]) (fun i f hi => ?_) h1
          have hi' : fs[i]? = some f := by simpa using hi
          have hlt : i < xs.length := by rw [hxl]; exact (Array.getElem?_eq_some_iff.1 hi').1
          have := hel i f hi'
          rw [List.getElem?_eq_getElem hlt] at this
          exact ⟨xs[i], by simp [hlt], Nat.zero_le _, by simpa using this⟩
        · cases hf
      · cases hf
    · cases hf
end
/-! ## a run where one variable is laid, and some numbers are known by bounds alone -/
def gB (g : Nat) (gs : List Nat) : Bl := fun id => if id = g then some (g, 0) else if g < id then (gs[id - (g + 1)]?).map fun n => (g, n) else none
def gH (g : Nat) (cs : List AV) (k : Nat) : AH := ⟨PM.put .leaf g (.glob g cs), g + 1 + k⟩
def plainAV : AV → Bool
  | .bool _ | .int _ _ => true
  | _ => false
theorem plain_eq {hp hp' : Array Obj} {L L' : Nat → Prop} {β β' : Bl} {a : AV} {v v' : Value} (hp1 : plainAV a = true) (h : VR hp L β a v) (h' : VR hp' L' β' a v') : v = v' := by
  cases a <;> simp [plainAV] at hp1 <;> cases h <;> cases h' <;> rfl
theorem gH_get {g : Nat} {cs : List AV} {k id : Nat} {o : AObj} (h : (gH g cs k).H.get id = some o) : id = g ∧ o = .glob g cs := by
  unfold gH at h
  simp only [PM.get_put] at h
  split at h
  · rename_i hid; cases h; exact ⟨hid, rfl⟩
  · simp [PM.get] at h
theorem gB_ghost {g : Nat} {gs : List Nat} {i n : Nat} (h : gs[i]? = some n) : gB g gs (g + 1 + i) = some (g, n) := by
  unfold gB
  rw [if_neg (by omega), if_pos (by omega), show g + 1 + i - (g + 1) = i by omega, h]; rfl
/-- 'true', and the variable reads as it did -/
def okR (g : Nat) (cs : List AV) : Option (AV × AH) → Bool
  | some (.bool true, h) => match h.globAt g with
    | some l => AV.beqL l cs
    | none => false
  | _ => false
theorem run_glob {P : Program} {cl : Handler} (hcl : FOk P cl) {f g : Nat} {pargs cs : List AV} {gs : List Nat} (hrun : okR g cs (cl f pargs (gH g cs gs.length)) = true) (hpl : cs.all plainAV = true)
    {W : World} {cargs : Array Value} {cur : Array Value} {e : TypeId} {fz : Nat × Nat} (hb : W.heap[g]? = some (.cells cur e fz)) (hcs : RL W.heap (fun _ => False) noB cs cur.toList)
    (hR : ∀ (hp : Array Obj) (L : Nat → Prop) (β : Bl), (∀ i n, gs[i]? = some n → β (g + 1 + i) = some (g, n)) → RL hp L β pargs cargs.toList) :
    Calls P f cargs W fun e W' => e = .returned (.bool true) ∧ Below W.heap.size W W' := by
  unfold okR at hrun
  split at hrun
  case h_2 => cases hrun
  rename_i h' hr
  split at hrun
  case h_2 => cases hrun
  rename_i l hl
  have hl' : l = cs := AV.beqL_eq _ _ hrun
  subst hl'
  have hg : h'.H.get g = some (.glob g l) := by
    unfold AH.globAt at hl
    split at hl
    · rename_i g' cs' hq
      split at hl
      · rename_i hgg; subst hgg; cases hl; exact hq
      · cases hl
    · cases hl
  have hlt := lt_of_get hb
  have hpv : ∀ (i : Nat) (c : AV) (hp : Array Obj) (L : Nat → Prop) (β : Bl) (v : Value), l[i]? = some c → cur[i]? = some v → VR hp L β c v := by
    intro i c hp L β v hc hv
    have h1 := hcs.2 i c v hc (by simpa using hv)
    have hpc : plainAV c = true := List.all_eq_true.1 hpl c (List.mem_of_getElem? hc)
    cases c <;> simp [plainAV] at hpc <;> cases h1
    · exact .bool _
    · exact .int _ _
  have hS : SimH (fun _ => False) (gB g gs) (gH g l gs.length).H (gH g l gs.length).nx W := by
    refine ⟨fun id hid => ?_, fun id b base hb' => ?_, fun b hb => hb.elim, fun id o ho => ?_, fun id id' o o' b x y h1 h2 _ _ => (gH_get h1).1.trans (gH_get h2).1.symm⟩
    · simp only [gH] at hid
      unfold gB
      rw [if_neg (by omega), if_pos (by omega), List.getElem?_eq_none (by omega)]; rfl
    · unfold gB at hb'
      split at hb'
      · cases hb'; exact hlt
      · split at hb'
        · rw [Option.map_eq_some_iff] at hb'
          obtain ⟨n, _, he⟩ := hb'
          cases he; exact hlt
        · cases hb'
    · obtain ⟨rfl, rfl⟩ := gH_get ho
      refine ⟨id, 0, by simp [gB], fun hf => hf.elim, rfl, rfl, cur, e, fz, hb, ?_, fun i c v hc hv => hpv i c _ _ _ v hc hv⟩
      have := hcs.1
      simp at this
      omega
  refine ((hcl f pargs _ _ _ hr).2 (fun _ => False) (gB g gs) W cargs hS (hR _ _ _ fun i n hi => gB_ghost hi)).mono ?_
  rintro ee W' ⟨cv, v, h2, β', rfl, ⟨rfl, rfl⟩, hS', hv, ht⟩
  cases hv
  refine ⟨rfl, ht.os, ht.tape, ht.output, ht.size, fun k hk => ?_⟩
  by_cases hkg : k = g
  · subst hkg
    obtain ⟨b, base, h1, _, h0, h3, cur', e', fz', h4, h5, h6⟩ := hS'.obj k _ hg
    subst h3
    obtain ⟨cur2, fz2, h7, h8, h9⟩ := ht.shape _ _ _ _ hb
    obtain rfl := h9 ⟨_, _, _, hg, h1⟩
    rw [h7] at h4
    cases h4
    rw [h7, hb]
    have : cur' = cur := by
      apply Array.ext h8
      intro i hi1 hi2
      have hlen := hcs.1
      simp at hlen
      have hc : l[i]? = some l[i] := List.getElem?_eq_getElem (by omega)
      exact plain_eq (List.all_eq_true.1 hpl _ (List.mem_of_getElem? hc)) (h6 i _ _ hc (Array.getElem?_eq_getElem hi1)) (hpv i _ W.heap (fun _ => False) noB _ hc (Array.getElem?_eq_getElem hi2))
    rw [this]
  · refine ht.keep k hk ?_
    rintro ⟨id, o, base, h1, h2⟩
    obtain ⟨rfl, rfl⟩ := gH_get h1
    simp [gB] at h2
    exact hkg h2.1.symm
end Go.Eng
end
noncomputable section
namespace Go.Eng
/-- the world of an entry: the variable alone -/
def gBase (g : Nat) (cs : List AV) : AH := gH g cs 0
/-- the variable reads as it did -/
def gOk (g : Nat) (cs : List AV) (h : AH) : Bool :=
  match h.globAt g with
  | some l => AV.beqL l cs
  | none => false
theorem gOk_get {g : Nat} {cs : List AV} {h : AH} (hg : gOk g cs h = true) : h.H.get g = some (.glob g cs) := by
  unfold gOk at hg
  split at hg
  · rename_i l hl
    have := AV.beqL_eq _ _ hg
    subst this
    unfold AH.globAt at hl
    split at hl
    · rename_i g' cs' hq
      split at hl
      · rename_i he; subst he; cases hl; exact hq
      · cases hl
    · cases hl
  · cases hg
theorem plain_any {hp hp' : Array Obj} {L L' : Nat → Prop} {β β' : Bl} {a : AV} {v : Value} (h1 : plainAV a = true) (h : VR hp L β a v) : VR hp' L' β' a v := by
  cases a <;> simp [plainAV] at h1 <;> cases h
  · exact .bool _
  · exact .int _ _

/-- a call from the variable alone, made where other objects are -/
theorem frameV {P : Program} {f g : Nat} {pargs : List AV} {cs : List AV} {v0 v : AV} {h0 : AH} {own : Nat → Prop} {β : Bl} {w : World} {cargs : Array Value} {h : AH} (hc : CallD P f pargs (gBase g cs) v0 h0) (hg0 : gOk g cs h0 = true) (hpl : cs.all plainAV = true)
    (hgh : h.H.get g = some (.glob g cs)) (hs : SimH own β h.H h.nx w) (own' : Nat → Prop) (ho1 : ∀ b, own' b → b < w.heap.size) (ho2 : ¬ own' g)
    (hR : ∀ βr : Bl, (∀ b, LL own' βr (gBase g cs).H b ↔ own' b ∨ b = g) → RL w.heap (LL own' βr (gBase g cs).H) βr pargs cargs.toList)
    (hres : ∀ (cv : Value) (w' : World) (β0 : Bl), SimH own' β0 h0.H h0.nx w' → VR w'.heap (LL own' β0 h0.H) β0 v0 cv → (∀ b, live β0 h0.H b → b = g ∨ w.heap.size ≤ b) → (∀ b, b < w.heap.size → b ≠ g → w'.heap[b]? = w.heap[b]?) → VR w'.heap (LL own β h.H) β v cv) :
    Calls P f cargs w fun e w' => ∃ cv v1 h1 β', e = .returned cv ∧ (v1 = v ∧ h1 = h) ∧ SimH own β' h1.H h1.nx w' ∧ VR w'.heap (LL own β' h1.H) β' v1 cv ∧ Trans own β h w β' h1 w' := by
  obtain ⟨b, base, hb, hnb, hb0, hbg, cur, e, fz, q1, q2, q3⟩ := hs.obj g _ hgh
  subst hb0; subst hbg
  have hlt := lt_of_get q1
  have hlive : live β h.H b := ⟨b, _, 0, hgh, hb⟩
  let βr : Bl := fun id => if id = b then some (b, 0) else none
  have hll : ∀ x, live βr (gBase b cs).H x ↔ x = b := by
    intro x
    constructor
    · rintro ⟨id, o, ba, h1, h2⟩
      obtain ⟨rfl, _⟩ := gH_get h1
      simp [βr] at h2; exact h2.1.symm
    · rintro rfl
      exact ⟨x, .glob x cs, 0, by simp [gBase, gH, PM.get_put], by simp [βr]⟩
  have hLL : ∀ x, LL own' βr (gBase b cs).H x ↔ own' x ∨ x = b := fun x => or_congr_right (hll x)
  have hS : SimH own' βr (gBase b cs).H (gBase b cs).nx w := by
    refine ⟨fun id hid => ?_, fun id b' ba hb' => ?_, ho1, fun id o ho => ?_, fun id id' o o' b' x y h1 h2 _ _ => (gH_get h1).1.trans (gH_get h2).1.symm⟩
    · have : id ≠ b := by simp [gBase, gH] at hid; omega
      simp [βr, this]
    · by_cases hid : id = b
      · simp [βr, hid] at hb'; rw [← hb'.1]; exact hlt
      · simp [βr, hid] at hb'
    · obtain ⟨rfl, rfl⟩ := gH_get ho
      exact ⟨id, 0, by simp [βr], ho2, rfl, rfl, cur, e, fz, q1, q2, fun i c u h1 h2 => plain_any (List.all_eq_true.1 hpl c (List.mem_of_getElem? h1)) (q3 i c u h1 h2)⟩
  refine (hc.2 own' βr w cargs hS (hR βr hLL)).mono ?_
  rintro e' w' ⟨cv, v1, h1, β0, rfl, ⟨rfl, rfl⟩, hs0, hv0, ht⟩
  have hkeep : ∀ x, x < w.heap.size → x ≠ b → w'.heap[x]? = w.heap[x]? := fun x hx hne => ht.keep x hx fun hl => hne ((hll x).1 hl)
  obtain ⟨b1, ba1, hbb1, _, hz0, hbg1, cur1, e1, fz1, r1, r2, r3⟩ := hs0.obj b _ (gOk_get hg0)
  subst hbg1
  have hT : Trans own β h w β h w' := ⟨fun _ _ h => h, fun _ _ => rfl, Nat.le_refl _, ht.size, fun x hx hn => hkeep x hx fun he => hn (he ▸ hlive), fun _ h => .inl h, fun x cur2 e2 fz2 hc => (by
    obtain ⟨c, f, k1, k2, k3⟩ := ht.shape x cur2 e2 fz2 hc
    by_cases hx : x = b1
    · exact ⟨c, f, k1, k2, fun _ => k3 (hx ▸ ⟨_, _, _, gOk_get hg0, hbb1⟩)⟩
    · rw [hkeep x (lt_of_get hc) hx, hc] at k1; cases k1
      exact ⟨_, _, by rw [hkeep x (lt_of_get hc) hx]; exact hc, rfl, fun _ => rfl⟩), ht.os, ht.tape, ht.output⟩
  have hSS : SimH own β h.H h.nx w' := by
    refine ⟨hs.fresh, fun id b' ba hb' => Nat.lt_of_lt_of_le (hs.lt id b' ba hb') ht.size, fun b' hb' => Nat.lt_of_lt_of_le (hs.ownlt b' hb') ht.size, fun id o hg => ?_, hs.inj⟩
    by_cases hid : id = b1
    · subst hid
      rw [hgh] at hg; cases hg
      exact ⟨id, 0, hb, hnb, rfl, rfl, cur1, e1, fz1, r1, r2, fun i c u k1 k2 => plain_any (List.all_eq_true.1 hpl c (List.mem_of_getElem? k1)) (r3 i c u k1 k2)⟩
    · obtain ⟨b', ba, hb', hnb', hor⟩ := hs.obj id o hg
      refine ⟨b', ba, hb', hnb', ?_⟩
      have hl' := hs.lt id b' ba hb'
      have hne : b' ≠ b1 := fun he => hid (hs.inj id b1 o _ b' ba 0 hg hgh hb' (he ▸ hb))
      cases o with
      | cells cs' =>
        obtain ⟨cur', e', s1, s2, s3⟩ := hor
        exact ⟨cur', e', by rw [hkeep b' hl' hne]; exact s1, s2, fun i c v k1 k2 => (s3 i c v k1 k2).later hT.later⟩
      | map kvs =>
        obtain ⟨s0, es, s1, s2, s3⟩ := hor
        exact ⟨s0, es, by rw [hkeep b' hl' hne]; exact s1, s2, fun i kv e k1 k2 => ⟨(s3 i kv e k1 k2).1.later hT.later, (s3 i kv e k1 k2).2.1.later hT.later, (s3 i kv e k1 k2).2.2⟩⟩
      | siter s pos => exact ⟨hor.1, by rw [hkeep b' hl' hne]; exact hor.2⟩
      | typ t cs' =>
        obtain ⟨s0, cur', s1, s2, s3⟩ := hor
        exact ⟨s0, cur', by rw [hkeep b' hl' hne]; exact s1, s2, fun i c v k1 k2 => (s3 i c v k1 k2).later hT.later⟩
      | glob g' cs' =>
        obtain ⟨s0, s00, cur', e', fz', s1, s2, s3⟩ := hor
        exact ⟨s0, s00, cur', e', fz', by rw [hkeep b' hl' hne]; exact s1, s2, fun i c v k1 k2 => (s3 i c v k1 k2).later hT.later⟩
  refine ⟨cv, v, h, β, rfl, ⟨rfl, rfl⟩, hSS, hres cv w' β0 hs0 hv0 (fun x hx => ?_) hkeep, hT⟩
  rcases ht.live x hx with h2 | h2
  · exact .inl ((hll x).1 h2)
  · exact .inr h2

/-- arguments in which nothing owned occurs -/
theorem frameGV {P : Program} {f g n : Nat} {args cs : List AV} {v0 v : AV} {h0 : AH} (hc : CallD P f args (gBase g cs) v0 h0) (hg0 : gOk g cs h0 = true) (hpl : cs.all plainAV = true) (hcl : clsL 0 args = true) (hf : fzF false 0 h0 n v0 = some v) {h : AH} (hgh : h.H.get g = some (.glob g cs)) : CallD P f args h v h := by
  refine ⟨hc.1, fun own β w cargs hs hRL => ?_⟩
  have hlg : LL own β h.H g := by
    obtain ⟨b, base, hb, _, _, hbg, _⟩ := hs.obj g _ hgh
    exact .inr ⟨g, _, base, hgh, by rw [hb, hbg]⟩
  refine frameV hc hg0 hpl hgh hs (fun b => LL own β h.H b ∧ b ≠ g) (fun b hb => hs.ll hb.1) (fun hh => hh.2 rfl) (fun βr hL => ?_) (fun cv w' β0 hs0 hv0 hlv hkeep => ?_)
  · have heq : LL (fun b => LL own β h.H b ∧ b ≠ g) βr (gBase g cs).H = LL own β h.H := by
      funext b
      apply propext
      rw [hL b]
      constructor
      · rintro (h1 | h1)
        · exact h1.1
        · rw [h1]; exact hlg
      · intro h1
        by_cases hb : b = g
        · exact .inr hb
        · exact .inl ⟨h1, hb⟩
    rw [heq]
    exact ⟨hRL.1, fun i c v h1 h2 => clsL_ok (K := 0) (fun i hi => absurd hi (Nat.not_lt_zero _)) args hcl i c h1 v (hRL.2 i c v h1 h2)⟩
  · refine VR.frzK hs0 (K := 0) (fun id cs' b base hgc hbc hl => ?_) (fun _ b hb hl => ?_) (fun i hi => absurd hi (Nat.not_lt_zero _)) n v0 v hf cv hv0
    · rcases hlv b ⟨id, _, base, hgc, hbc⟩ with rfl | h2
      · obtain ⟨b1, ba1, hb1, _, _, hbg1, _⟩ := hs0.obj b _ (gOk_get hg0)
        have := hs0.inj id b _ _ b base ba1 hgc (gOk_get hg0) hbc (by rw [hb1, hbg1])
        subst this
        rw [gOk_get hg0] at hgc; cases hgc
      · have := hs.ll hl; omega
    · by_cases hbg : b = g
      · subst hbg
        obtain ⟨b1, ba1, hb1, _, _, hbg1, _⟩ := hs0.obj b _ (gOk_get hg0)
        exact hb (.inr ⟨b, _, ba1, gOk_get hg0, by rw [hb1, hbg1]⟩)
      · exact hb (.inl ⟨hl, hbg⟩)

/-- arguments that can be taken as frozen; the result reaches nothing that was there -/
theorem frameFV {P : Program} {f g n m : Nat} {args pargs cs : List AV} {v0 v : AV} {h0 : AH} (hc : CallD P f pargs (gBase g cs) v0 h0) (hg0 : gOk g cs h0 = true) (hpl : cs.all plainAV = true) (hf : fzF true 0 h0 n v0 = some v) {h : AH} (hgh : h.H.get g = some (.glob g cs)) (ha : fzL false 0 h m args = some pargs) : CallD P f args h v h := by
  refine ⟨hc.1, fun own β w cargs hs hRL => ?_⟩
  refine frameV hc hg0 hpl hgh hs (fun _ => False) (fun b hb => hb.elim) (fun hh => hh) (fun βr hL => ?_) (fun cv w' β0 hs0 hv0 hlv hkeep => ?_)
  · have hlen := fzL_len m args pargs ha
    have hng : ∀ b, ¬ LL (fun _ => False) βr (gBase g cs).H b ∨ b = g := fun b => by
      by_cases hb : b = g
      · exact .inr hb
      · exact .inl fun h1 => by rcases (hL b).1 h1 with h2 | h2; exact h2; exact hb h2
    refine ⟨by rw [hlen]; exact hRL.1, fun i d v h1 h2 => ?_⟩
    obtain ⟨c, hc'⟩ := get_of_len hlen.symm h1
    refine VR.frzKL hs (K := 0) (fun id cs' b base hgc hbc hl => ?_) (fun _ b hb hl => ?_) (fun i hi => absurd hi (Nat.not_lt_zero _)) m args pargs ha i c d hc' h1 v (hRL.2 i c v hc' h2)
    · rcases (hL b).1 hl with h3 | rfl
      · exact h3
      · obtain ⟨b1, ba1, hb1, _, _, hbg1, _⟩ := hs.obj b _ hgh
        have := hs.inj id b _ _ b base ba1 hgc hgh hbc (by rw [hb1, hbg1])
        subst this
        rw [hgh] at hgc; cases hgc
    · rcases (hL b).1 hl with h3 | rfl
      · exact h3
      · obtain ⟨b1, ba1, hb1, _, _, hbg1, _⟩ := hs.obj b _ hgh
        exact hb (.inr ⟨b, _, ba1, hgh, by rw [hb1, hbg1]⟩)
  · refine VR.frzK hs0 (K := 0) (fun id cs' b base hgc hbc hl => ?_) (fun hn => by cases hn) (fun i hi => absurd hi (Nat.not_lt_zero _)) n v0 v hf cv hv0
    rcases hlv b ⟨id, _, base, hgc, hbc⟩ with rfl | h2
    · obtain ⟨b1, ba1, hb1, _, _, hbg1, _⟩ := hs0.obj b _ (gOk_get hg0)
      have := hs0.inj id b _ _ b base ba1 hgc (gOk_get hg0) hbc (by rw [hb1, hbg1])
      subst this
      rw [gOk_get hg0] at hgc; cases hgc
    · have := hs.ll hl; omega

def PVOk (P : Program) (g : Nat) (cs : List AV) (e : PE) : Prop := ∀ h : AH, h.H.get g = some (.glob g cs) → CallD P e.f e.args h e.v h
def GVOk (P : Program) (g : Nat) (cs : List AV) (e : PE) : Prop := ∀ (m : Nat) (args : List AV) (h : AH), h.H.get g = some (.glob g cs) → fzL false 0 h m args = some e.args → CallD P e.f args h e.v h
section
variable {P : Program} {g : Nat} {cs : List AV}
end
end Go.Eng
end
noncomputable section
namespace Go.Eng
section
variable {P : Program} {w : World}
/-- every row stays a row, of its type and size -/
def Shp (w w' : World) : Prop := ∀ (k : Nat) (cur : Array Value) (e : TypeId) (fz : Nat × Nat), w.heap[k]? = some (.cells cur e fz) → ∃ cur', w'.heap[k]? = some (.cells cur' e fz) ∧ cur'.size = cur.size
theorem Shp.trans {w w1 w2 : World} (h : Shp w w1) (k : Shp w1 w2) : Shp w w2 := fun x cur e fz hx => by
  obtain ⟨c1, h1, h2⟩ := h x cur e fz hx
  obtain ⟨c2, h3, h4⟩ := k x c1 e fz h1
  exact ⟨c2, h3, h4.trans h2⟩
theorem Shp.refl (w : World) : Shp w w := fun _ cur _ _ h => ⟨cur, h, rfl⟩
theorem Shp.grown {w w' : World} (h : w.grownBy w' none) : Shp w w' := fun k cur e fz hk => ⟨cur, by rw [h.block k (lt_of_get hk) (by simp)]; exact hk, rfl⟩
theorem Shp.setCell (w : World) (a : Addr) (v : Value) : Shp w (w.setCell a v) := fun k cur e fz hk => by
  simp only [World.setCell, Array.getElem?_modify]
  by_cases hka : a.block = k
  · rw [if_pos hka, hk]; exact ⟨if a.spot.isSome = true then cur else cur.setIfInBounds a.off v, rfl, by split <;> simp⟩
  · rw [if_neg hka]; exact ⟨cur, hk, rfl⟩
/-- v is the slice of a row from its start on, that holds xs; nil where there is none yet -/
def RowAt (e : TypeId) (v : Value) (xs : List Value) (w : World) : Prop :=
  (v = .slice none 0 0 ∧ xs = []) ∨ ∃ g cap cur, v = .slice (some ⟨g, 0, none⟩) xs.length cap ∧ w.heap[g]? = some (.cells cur e (0, 0)) ∧ xs.length ≤ cap ∧ cap ≤ maxLen ∧ cap ≤ cur.size ∧ cur.toList.take xs.length = xs
theorem RowAt.of {e : TypeId} {v : Value} {n : Nat} {xs : List Value} (h : w.ownsRow 0 e 1 v n xs) : RowAt e v xs w := by
  have hl : xs.length = n := by simpa using h.1
  rcases h.2 with ⟨h1, h2⟩ | ⟨g, cap, cur, h1, _, h3, h4, h5, h6, h7⟩
  · exact .inl ⟨h1, List.eq_nil_of_length_eq_zero (by omega)⟩
  · exact .inr ⟨g, cap, cur, by rw [hl]; exact h1, h3, by omega, h5, by omega, by rw [hl]; simpa using h7⟩
theorem RowAt.other {e : TypeId} {v : Value} {xs : List Value} {w' : World} (h : RowAt e v xs w) (hk : ∀ g, v.ownBlock = some g → w'.heap[g]? = w.heap[g]?) : RowAt e v xs w' := by
  rcases h with h | ⟨g, cap, cur, rfl, h3, h4⟩
  · exact .inl h
  · exact .inr ⟨g, cap, cur, rfl, by rw [hk g rfl]; exact h3, h4⟩
/-- the bytes go to the end of the row, or all of them to a new row at the heap's end -/
theorem run_append_x (t u ty e : TypeId) (i : TypeInfo) (ht : P.underlying t = some (.slice e)) (hu : P.underlying u = some .string) (hi : P.info? e = some i) (hz : i.zero = some (.int .u8 0))
    (hsize : i.size = 1) (hby : i.bytes = 1) (v : Value) (xs : List Value) (hrow : RowAt e v xs w) (s : ByteArray) (hbytes : xs.length + s.size ≤ 140737488355328) :
    ∃ v' w', (Builtin.append_ #[t, u] ty #[v, .string s]).run P w = .ok v' w' ∧ RowAt e v' (xs ++ Lib.strCells s) w' ∧ w.grownBy w' v.ownBlock ∧
      (v' = .slice none 0 0 ↔ v = .slice none 0 0 ∧ s.size = 0) ∧ (v'.ownBlock = v.ownBlock ∨ v'.ownBlock = some w.heap.size) ∧ Shp w w' := by
  rcases hrow with ⟨rfl, rfl⟩ | ⟨g, cap, cur, rfl, hg, hnc, hcm, hcs, htake⟩
  · obtain ⟨v', w', hr, h1, h2, h3⟩ := Lib.run_append_own_string (P := P) w 0 t u ty e i ht hu hi hz hsize hby (.slice none 0 0) 0 [] (World.ownsRow_nil w 0 e 1) s (by simp only [maxLen]; simp at hbytes; omega) (by simpa using hbytes) (Nat.zero_le _)
    refine ⟨v', w', hr, RowAt.of h1, h2, h3, ?_, .grown h2⟩
    by_cases hm : s.size = 0
    · rw [h3.2 ⟨rfl, hm⟩]; exact .inl rfl
    · simp at hbytes
      have hr2 := run_append_nil_string (P := P) w t u ty e i (.int .u8 0) ht hu hi hz s (by omega) (by omega) (by rw [hby]; omega)
      rw [hr] at hr2
      cases hr2
      exact .inr rfl
  · have hl : (xs ++ Lib.strCells s).length = xs.length + s.size := by rw [List.length_append, Lib.strCells_length]
    by_cases hroom : xs.length + s.size ≤ cap
    · have hr := Lib.run_append_room_string (P := P) w t u ty e i ht hu hi hsize g xs.length cap cur hg s hroom (by omega)
      refine ⟨_, _, hr, .inr ⟨g, cap, _, by rw [hl], setRow_heap w g cur _ e _ hg, by omega, hcm, ?_, ?_⟩, ⟨rfl, rfl, rfl, by simp, fun k _ hk => setRow_other w g k _ (fun e => hk (by simp [Value.ownBlock, e]))⟩, by simp, .inl rfl, fun k c2 e2 fz hk => ?_⟩
      · simp only [List.size_toArray, List.length_append, List.length_take, List.length_drop, Array.length_toList, Lib.strCells_length]
        omega
      · rw [htake]
        exact List.take_left
      · by_cases hkg : k = g
        · subst hkg
          rw [hg] at hk; cases hk
          refine ⟨_, setRow_heap w k _ _ e _ hg, ?_⟩
          simp only [List.size_toArray, List.length_append, List.length_take, List.length_drop, Array.length_toList, Lib.strCells_length]
          omega
        · exact ⟨c2, by rw [setRow_other w g k _ hkg]; exact hk, rfl⟩
    · have holds : ∀ (j : Nat) u, xs[j]? = some u → w.cell? ((⟨g, 0, none⟩ : Addr).add j) = some u := fun j u hj => by
        have hlt : j < xs.length := (List.getElem?_eq_some_iff.1 hj).1
        rw [← htake, List.getElem?_take, if_pos hlt] at hj
        have e1 : ((⟨g, 0, none⟩ : Addr).add j) = ⟨g, j, none⟩ := by cases j <;> simp [Addr.add]
        rw [e1]
        simp only [World.cell?, hg]
        simpa using hj
      have hr := Lib.run_append_grow_string (P := P) w t u ty e i (.int .u8 0) ht hu hi hz ⟨g, 0, none⟩ xs.length cap xs (by rw [hsize]; simp) holds s (by omega) (by omega) (by rw [hby]; exact growslice_fits (by omega) (by omega))
      have hge := grownCap_ge w (xs.length + s.size) cap e
      have hm : grownCap w (xs.length + s.size) cap e ≤ maxLen := grownCap_le_maxLen w (xs.length + s.size) cap e (by simp only [maxLen]; omega)
      refine ⟨_, _, hr, .inr ⟨w.heap.size, _, _, by rw [hl], heap_alloc_new w.drew _, by omega, hm, ?_, ?_⟩, ⟨rfl, rfl, rfl, by simp, fun k hk _ => heap_alloc_old w.drew _ hk⟩, by simp, .inr rfl, fun k c2 e2 fz hk => ⟨c2, by rw [heap_alloc_old w.drew _ (lt_of_get hk)]; exact hk, rfl⟩⟩
      · have hz1 : (Value.int IntKind.u8 0).cells.size = 1 := rfl
        simp only [Array.size_append, List.size_toArray, size_zeroCells, hz1, Lib.strCells_length]
        omega
      · simp only [Array.toList_append, List.append_assoc]
        rw [← List.append_assoc]
        exact List.take_left
theorem wpList_append_x {ops : Array Oper} {rest : List Oper} {o : Oper} {a : Act} {Q : Exit → Act → World → Prop} (hgd : o.guard = none) (sl x : Operand) (t u : TypeId)
    (ho : o.op = .call { callee := .builtin .append, args := #[sl, x], argTypes := #[t, u] })
    (e : TypeId) (i : TypeInfo) (ht : P.underlying t = some (.slice e)) (hu : P.underlying u = some .string) (hi : P.info? e = some i) (hz : i.zero = some (.int .u8 0))
    (hsize : i.size = 1) (hby : i.bytes = 1) (v : Value) (xs : List Value) (hs : a.eval sl = v) (hrow : RowAt e v xs w) (s : ByteArray) (hx : a.eval x = .string s)
    (hbytes : xs.length + s.size ≤ 140737488355328)
    (h : ∀ v' w', RowAt e v' (xs ++ Lib.strCells s) w' → w.grownBy w' v.ownBlock → (v' = .slice none 0 0 ↔ v = .slice none 0 0 ∧ s.size = 0) → (v'.ownBlock = v.ownBlock ∨ v'.ownBlock = some w.heap.size) → Shp w w' → wpList P ops Q rest (a.put o.dst v') w') : wpList P ops Q (o :: rest) a w := by
  refine wpList_plain hgd fun K hK => ?_
  obtain ⟨v', w', hr, h2, h3, h4, h5, h6⟩ := run_append_x (P := P) (w := w) t u o.type e i ht hu hi hz hsize hby v xs hrow s hbytes
  unfold Oper.wp execOp
  simp only [ho, resolve, invoke, builtin, Sem.run_bind, Sem.run_pure, Result.andThen_ok, List.map_toArray, List.map_cons, List.map_nil, hs, hx, hr]
  exact hK _ _ (h v' w' h2 h3 h4 h5 h6)
/-- the builder whose block is b has the row v, that holds bs -/
structure Bld (tE : TypeId) (b : Nat) (v : Value) (bs : List Value) (w : World) : Prop where
  own : RowAt tE v bs w
  ne : v.ownBlock ≠ some b
/-- what WriteString does, with the whole frame -/
def WriteOk (P : Program) (f : Nat) (tB tE : TypeId) : Prop :=
  ∀ (b : Nat) (p v : Value) (bs : List Value) (s : ByteArray) (w : World), w.heap[b]? = some (.cells #[p, v] tB (0, 0)) → (p = .pointer none ∨ p = .pointer (some ⟨b, 0, none⟩)) → Bld tE b v bs w → bs.length + s.size ≤ 140737488355328 →
    Calls P f #[.pointer (some ⟨b, 0, none⟩), .string s] w fun e w' => e = .returned (.tuple #[.int .i64 s.size, .nilIface]) ∧
      ∃ v', w'.heap[b]? = some (.cells #[.pointer (some ⟨b, 0, none⟩), v'] tB (0, 0)) ∧ Bld tE b v' (bs ++ Lib.strCells s) w' ∧ (v' = .slice none 0 0 ↔ v = .slice none 0 0 ∧ s.size = 0) ∧ (v'.ownBlock = v.ownBlock ∨ ∃ g, v'.ownBlock = some g ∧ w.heap.size ≤ g) ∧
        w'.os = w.os ∧ w'.tape = w.tape ∧ w'.output = w.output ∧ w.heap.size ≤ w'.heap.size ∧ (∀ k, k < w.heap.size → k ≠ b → some k ≠ v.ownBlock → w'.heap[k]? = w.heap[k]?) ∧ Shp w w'
end
end Go.Eng
end
noncomputable section
namespace Go.Proofs
open Go.RowKit
/-! strings.Builder's WriteString with the whole frame: only the builder's block and its row turn. -/
theorem grown_setCell {w : World} {b i : Nat} {v : Value} : w.grownBy (w.setCell ⟨b, i, none⟩ v) (some b) := by
  refine ⟨rfl, rfl, rfl, ?_, fun k hk hne => ?_⟩
  · simp
  · have : k ≠ b := fun e => hne (by rw [e])
    exact Deep.blk_setCell_other w ⟨b, i, none⟩ v k this
theorem checkX (b : Nat) (p v : Value) (bs : List Value) (w : World) (hb : w.heap[b]? = some (.cells #[p, v] 85 (0, 0))) (hp : p = .pointer none ∨ p = .pointer (some ⟨b, 0, none⟩)) (h : Eng.Bld 5 b v bs w) :
    Calls Tryz.prog 76 #[.pointer (some ⟨b, 0, none⟩)] w fun e w' => e = .returned (.tuple #[]) ∧ w'.heap[b]? = some (.cells #[.pointer (some ⟨b, 0, none⟩), v] 85 (0, 0)) ∧ Eng.Bld 5 b v bs w' ∧ w.grownBy w' (some b) ∧ Eng.Shp w w' := by
  have hc : w.cell? ⟨b, 0, none⟩ = some p := by rw [Lib.cell_of_heap hb]; rfl
  have hs : w.shape? b = some (85, 2) := by simp [World.shape?, hb]
  have hf : w.frozen? ⟨b, 0, none⟩ = false := Lib.frozen_of_heap hb 0
  rcases hp with rfl | rfl
  · refine (Any.Builder_copyCheck_fresh { Tryz.lays166 with } Tryz.Builder_Extra_166.toX72 b w hc hs hf).mono ?_
    rintro e w' ⟨rfl, rfl⟩
    have hg : w.grownBy (w.setCell ⟨b, 0, none⟩ (.pointer (some ⟨b, 0, none⟩))) (some b) := grown_setCell
    refine ⟨rfl, ?_, ⟨h.own.other fun g hv => ?_, h.ne⟩, hg, .setCell _ _ _⟩
    · simp only [World.setCell, Array.getElem?_modify]
      rw [hb]
      simp
    · have hgb : g ≠ b := fun e => h.ne (by rw [hv, e])
      exact Deep.blk_setCell_other w ⟨b, 0, none⟩ _ g hgb
  · refine (Any.Builder_copyCheck_used { Tryz.lays166 with } Tryz.Builder_Extra_166.toX72 b w hc).mono ?_
    rintro e w' ⟨rfl, rfl⟩
    exact ⟨rfl, hb, h, ⟨rfl, rfl, rfl, Nat.le_refl _, fun _ _ _ => rfl⟩, .refl _⟩
set_option maxHeartbeats 2000000 in
set_option maxRecDepth 100000 in
theorem writeX : Eng.WriteOk Tryz.prog 31 85 5 := by
  intro b p v bs s w hb hp h hlen
  obtain ⟨i0, hi, hz0, hz1, hz2⟩ := info_parts Tryz.Builder_Extra_166.infoByte
  have u85 := run_underlying Tryz.underlying85
  have e76 : ∀ args w, (callFunc 76 args).run Tryz.prog w = .ok (.enter 76 args) w := enters_of Tryz.func76 (by kernel_rfl) rfl
  go_enter Tryz.func31, Tryz.ntmps31
  go_wp2_with (go_at_fn 76; refine (checkX b p v bs _ hb hp h).mono ?_)
  rintro e w1 ⟨rfl, hbk, hB1, hg1, hsh1⟩
  have hlt := Eng.lt_of_get hbk
  have c0 : w1.cell? ⟨b, 0, none⟩ = some (.pointer (some ⟨b, 0, none⟩)) := by rw [Lib.cell_of_heap hbk]; rfl
  have c1 : w1.cell? ⟨b, 1, none⟩ = some v := by rw [Lib.cell_of_heap hbk]; rfl
  go_wp2_with (at_builtin; refine Eng.wpList_append_x rfl _ _ 80 9 rfl 5 i0 Tryz.underlying80 Tryz.underlying9 hi hz0 hz1 hz2 _ _ rfl hB1.own s rfl ?c4 ?_)
  case c4 => omega
  intro v' w2 hown' hgrow hnil hob hsh2
  have hb2 : w2.heap[b]? = some (.cells #[.pointer (some ⟨b, 0, none⟩), v] 85 (0, 0)) := by
    rw [hgrow.block b hlt (fun e => hB1.ne e.symm)]
    exact hbk
  have d0 : w2.cell? ⟨b, 0, none⟩ = some (.pointer (some ⟨b, 0, none⟩)) := by rw [Lib.cell_of_heap hb2]; rfl
  have d1 : w2.cell? ⟨b, 1, none⟩ = some v := by rw [Lib.cell_of_heap hb2]; rfl
  have f1 : w2.frozen? ⟨b, 1, none⟩ = false := Lib.frozen_of_heap hb2 1
  obtain ⟨ao, n', cap, rfl⟩ : ∃ ao n' cap, v' = .slice ao n' cap := by
    rcases hown' with ⟨hv, _⟩ | ⟨g, cap, cur, hv, _⟩
    · exact ⟨_, _, _, hv⟩
    · exact ⟨_, _, _, hv⟩
  go_wp2
  go_ret2
  have hg3 : w2.grownBy (w2.setCell ⟨b, 1, none⟩ (.slice ao n' cap)) (some b) := grown_setCell
  have hne : (Value.slice ao n' cap).ownBlock ≠ some b := by
    rcases hown' with ⟨hv, _⟩ | ⟨g, c, cur, hv, hg, _⟩
    · cases hv; simp [Value.ownBlock]
    · cases hv
      intro e
      have : g = b := by simpa [Value.ownBlock] using e
      subst this
      rw [hb2] at hg
      simp at hg
  refine ⟨rfl, .slice ao n' cap, ?_, ⟨hown'.other fun g hv => ?_, hne⟩, ?_, hob.imp_right fun hq => ⟨_, hq, hg1.size⟩, ?_⟩
  · simp only [World.setCell, Array.getElem?_modify]
    rw [hb2]
    simp
  · have hgb : g ≠ b := fun e => hne (by rw [hv, e])
    exact Deep.blk_setCell_other w2 ⟨b, 1, none⟩ _ g hgb
  · rw [hnil]
    refine and_congr_right fun _ => ?_
    constructor
    · rintro rfl; rfl
    · intro h0; exact ByteArray.size_eq_zero_iff.1 h0
  · refine ⟨hgrow.os.trans hg1.os, hgrow.tape.trans hg1.tape, hgrow.output.trans hg1.output, Nat.le_trans hg1.size (Nat.le_trans hgrow.size hg3.size), fun k hk hkb hkv => ?_, (hsh1.trans hsh2).trans (.setCell _ _ _)⟩
    rw [hg3.block k (by have := hg1.size; have := hgrow.size; omega) (by simpa using hkb), hgrow.block k (by have := hg1.size; omega) hkv, hg1.block k hk (by simpa using hkb)]
end Go.Proofs
end
noncomputable section
namespace Go.Eng
open Go.RowKit
/-- the objects from n on, without one of them -/
def newer (h : AH) (n id : Nat) : Nat → AH
  | 0 => h.kill id
  | k + 1 => (newer h n id k).kill k
def rest (h : AH) (n id : Nat) : AH := newer h n id n
/-- what is frozen stays so where further objects stand -/
theorem Frz.ext {h h' : AH} (he : ∀ i cs, h.cellsAt i = some cs → h'.cellsAt i = some cs) {n : Bool} {a b : AV} (hf : Frz h n a b) : Frz h' n a b := by
  induction hf with
  | undef a => exact .undef a
  | bool b => exact .bool b
  | int k m => exact .int k m
  | str s => exact .str s
  | nilptr => exact .nilptr
  | nilfunc => exact .nilfunc
  | nilif => exact .nilif
  | nilmap => exact .nilmap
  | nilsl0 => exact .nilsl0
  | nilsl => exact .nilsl
  | esl0 => exact .esl0
  | esl => exact .esl
  | gptr g o => exact .gptr g o
  | agg cs ds hl hc ih => exact .agg cs ds hl fun i c d h1 h2 => ih i c d h1 h2
  | tup cs ds hl hc ih => exact .tup cs ds hl fun i c d h1 h2 => ih i c d h1 h2
  | psl0 => exact .psl0
  | psl hn xs ys hl hx hc ih => exact .psl hn xs ys hl hx fun i x y j c d h1 h2 h3 h4 => ih i x y j c d h1 h2 h3 h4
  | pptr hn cs ds hl hc ih => exact .pptr hn cs ds hl fun i c d h1 h2 => ih i c d h1 h2
  | rsl id off z cs ys ho hs hz hc ih => exact .rsl id off z cs ys (he _ _ ho) hs hz fun i y j c d h1 h2 h3 => ih i y j c d h1 h2 h3
  | ptr id off cs ds ho hs hc ih => exact .ptr id off cs ds (he _ _ ho) hs fun i c d h1 h2 => ih i c d h1 h2
  | func fn f1 c1 f2 c2 hl1 hl2 h1 h2 ih1 ih2 => exact .func fn f1 c1 f2 c2 hl1 hl2 (fun i c d q1 q2 => ih1 i c d q1 q2) (fun i c d q1 q2 => ih2 i c d q1 q2)
  | iface t a b hb ih => exact .iface t a b (ih)
theorem FrzL.ext {h h' : AH} (he : ∀ i cs, h.cellsAt i = some cs → h'.cellsAt i = some cs) {n : Bool} {a b : List AV} (hf : FrzL h n a b) : FrzL h' n a b := by
  rw [FrzL_iff] at hf ⊢
  exact ⟨hf.1, fun i c d h1 h2 => (hf.2 i c d h1 h2).ext he⟩
theorem FrzL.app {h : AH} {n : Bool} {a b c d : List AV} (h1 : FrzL h n a b) (h2 : FrzL h n c d) : FrzL h n (a ++ c) (b ++ d) := by
  rw [FrzL_iff] at h1 h2 ⊢
  refine ⟨by simp [h1.1, h2.1], fun i x y hx hy => ?_⟩
  by_cases hi : i < a.length
  · rw [List.getElem?_append_left hi] at hx
    rw [List.getElem?_append_left (by have := h1.1; omega)] at hy
    exact h1.2 i x y hx hy
  · rw [List.getElem?_append_right (by omega)] at hx
    rw [List.getElem?_append_right (by have := h1.1; omega), ← h1.1] at hy
    exact h2.2 _ x y hx hy
/-- nothing stands beyond the next number -/
def WF (h : AH) : Prop := ∀ i, h.nx ≤ i → h.H.get i = none
theorem WF.add {h : AH} (hw : WF h) (o : AObj) : WF (h.add o) := fun i hi => by
  have hi : h.nx + 1 ≤ i := hi
  rw [get_add, if_neg (by omega)]; exact hw i (by omega)
theorem WF.set {h : AH} (hw : WF h) (j : Nat) (hj : j < h.nx) (o : AObj) : WF (h.set j o) := fun i hi => by
  have hi : h.nx ≤ i := hi
  rw [get_set, if_neg (by omega)]; exact hw i (by omega)
theorem WF.kill {h : AH} (hw : WF h) (j : Nat) : WF (h.kill j) := fun i hi => by
  have hi : h.nx ≤ i := hi
  rw [get_kill]; split
  · rfl
  · exact hw i (by omega)
end Go.Eng
end
noncomputable section
namespace Go.Eng
open Go.RowKit
/-- the objects from n on -/
def newF (h : AH) : Nat → AH
  | 0 => h
  | k + 1 => (newF h k).kill k
def fresh (h : AH) (n : Nat) : AH := newF h n
end Go.Eng
end
