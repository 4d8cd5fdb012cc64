/- Runs in a world where a package-level variable is laid. The contrast of two colors by contract. -/
import Derived.Test.YtoibclpbkjbnbaaGreatDoorEngOX
import Derived.Test.YtoibclpbkjbnbaaGreatDoorEngP
import Derived.OpenShut
import Derived.ChangeArms
import Derived.Below
import Derived.Test.YtoibclpbkjbnbaaGreatDoorZcA
set_option linter.unusedSimpArgs false
set_option linter.unusedVariables false
set_option linter.unnecessarySimpa false
noncomputable section
namespace Go.Eng
open Go.RowKit
/-! ## cells off a datum -/
mutual
def flatD {H : Type} (P : Program) : Nat → TypeId → DataW H → Option (List AV)
  | 0, _, _ => none
  | n + 1, t, d => match P.underlying t with
    | some .bool => match d with
      | .lit (.bool b) => some [.bool b]
      | _ => none
    | some (.int k) => match d with
      | .lit (.int k' m) => if k' = k then some [.int k m] else none
      | _ => none
    | some (.array len e) => match d with
      | .agg ds => if ds.length = len ∧ P.cellsOf t = len * P.cellsOf e then flatA P n e (P.cellsOf e) ds else none
      | _ => none
    | some (.struct fs) => match d with
      | .agg ds => match flatS P n fs.toList 0 ds with
        | some al => if al.length = P.cellsOf t then some al else none
        | none => none
      | _ => none
    | _ => none
def flatA {H : Type} (P : Program) : Nat → TypeId → Nat → List (DataW H) → Option (List AV)
  | _, _, _, [] => some []
  | n, e, z, d :: ds => match flatD P n e d, flatA P n e z ds with
    | some a, some b => if a.length = z then some (a ++ b) else none
    | _, _ => none
def flatS {H : Type} (P : Program) : Nat → List Field → Nat → List (DataW H) → Option (List AV)
  | _, [], _, [] => some []
  | n, f :: fs, o, d :: ds => match flatD P n f.type d with
    | some a => if f.offset = o ∧ a.length = P.cellsOf f.type then (match flatS P n fs (o + a.length) ds with
      | some b => some (a ++ b)
      | none => none) else none
    | none => none
  | _, _, _, _ => none
end
section
variable {H : Type} {enc : TypeId × Value → H} {P : Program} {w : World} {base : Nat} {spare : Nat → Bool} {held : Bool} {hp : Array Obj} {L : Nat → Prop} {β : Bl}
theorem RL.take_drop {al bs : List AV} {cs : List Value} {z : Nat} (h1 : RL hp L β al (cs.take z)) (hz : al.length = z) (h2 : RL hp L β bs (cs.drop z)) : RL hp L β (al ++ bs) cs := by
  have := h1.append h2
  rwa [List.take_append_drop] at this

theorem flatA_RL {n m : Nat} {e : TypeId} (ih : ∀ (cs : List Value) (d : DataW H) (p : List MemPlace) (al : List AV), DataW.trod enc P w base spare held m e cs = some (d, p) → flatD P n e d = some al → RL hp L β al cs) :
    ∀ (xs : List (DataW H × List MemPlace)) (cs : List Value) (al : List AV), cs.length = xs.length * P.cellsOf e → (∀ i, i < xs.length → DataW.trod enc P w base spare held m e ((cs.drop (i * P.cellsOf e)).take (P.cellsOf e)) = xs[i]?) →
      flatA P n e (P.cellsOf e) (xs.map (·.1)) = some al → RL hp L β al cs
  | [], cs, al, hl, hx, hf => by
    simp [flatA] at hf
    subst hf
    have : cs = [] := List.length_eq_zero_iff.1 (by simpa using hl)
    subst this
    exact .nil
  | x :: xs, cs, al, hl, hx, hf => by
    simp only [List.map_cons, flatA] at hf
    split at hf
    · rename_i a b ha hb
      split at hf
      · rename_i hz
        cases hf
        have h0 := hx 0 (by simp)
        simp at h0
        obtain ⟨d, p⟩ := x
        have r1 := ih _ d p a h0 ha
        refine r1.take_drop hz (flatA_RL ih xs _ _ ?_ (fun i hi => ?_) hb)
        · simp only [List.length_drop, hl, List.length_cons, Nat.succ_mul]; omega
        · have := hx (i + 1) (by simp; omega)
          rw [Nat.succ_mul] at this
          rw [List.drop_drop, Nat.add_comm]
          simpa using this
      · cases hf
    · cases hf
theorem flatS_RL {n m : Nat} (ih : ∀ (t : TypeId) (cs : List Value) (d : DataW H) (p : List MemPlace) (al : List AV), DataW.trod enc P w base spare held m t cs = some (d, p) → flatD P n t d = some al → RL hp L β al cs) :
    ∀ (fs : List Field) (xs : List (DataW H × List MemPlace)) (o : Nat) (cs : List Value) (al : List AV), al.length = cs.length → (∀ (i : Nat) (f : Field), fs[i]? = some f → ∃ x, xs[i]? = some x ∧ o ≤ f.offset ∧ DataW.trod enc P w base spare held m f.type ((cs.drop (f.offset - o)).take (P.cellsOf f.type)) = some x) →
      flatS P n fs o (xs.map (·.1)) = some al → RL hp L β al cs
  | [], [], o, cs, al, hl, hx, hf => by
    simp [flatS] at hf
    subst hf
    have : cs = [] := List.length_eq_zero_iff.1 (by simpa using hl.symm)
    subst this
    exact .nil
  | [], x :: xs, o, cs, al, hl, hx, hf => by simp [flatS] at hf
  | f :: fs, [], o, cs, al, hl, hx, hf => by simp [flatS] at hf
  | f :: fs, x :: xs, o, cs, al, hl, hx, hf => by
    simp only [List.map_cons, flatS] at hf
    split at hf
    · rename_i a ha
      split at hf
      · rename_i hc
        obtain ⟨hof, hz⟩ := hc
        split at hf
        · rename_i b hb
          cases hf
          obtain ⟨x', h1, h2, h3⟩ := hx 0 f rfl
          simp at h1
          subst h1
          rw [hof, Nat.sub_self, List.drop_zero] at h3
          obtain ⟨d, p⟩ := x
          have r1 := ih _ _ d p a h3 ha
          refine r1.take_drop hz (flatS_RL ih fs xs _ _ _ ?_ (fun i g hg => ?_) hb)
          · simp at hl ⊢; omega
          · obtain ⟨y, q1, q2, q3⟩ := hx (i + 1) g (by simpa using hg)
            have hmono : o + a.length ≤ g.offset := by
              -- offsets go up: off the form of flatS
              clear q3
              have : ∀ (fs : List Field) (ds : List (DataW H)) (o : Nat) (b : List AV), flatS P n fs o ds = some b → ∀ (i : Nat) (g : Field), fs[i]? = some g → o ≤ g.offset := by
                intro fs
                induction fs with
                | nil => intro ds o b _ i g hg; simp at hg
                | cons f fs ihf =>
                  intro ds o b hb i g hg
                  cases ds with
                  | nil => simp [flatS] at hb
                  | cons d ds =>
                  simp only [flatS] at hb
                  split at hb
                  · split at hb
                    · rename_i hc
                      split at hb
                      · rename_i b' hb'
                        cases i with
                        | zero => simp at hg; subst hg; omega
                        | succ i => have := ihf _ _ _ hb' i g (by simpa using hg); omega
                      · cases hb
                    · cases hb
                  · cases hb
              exact this _ _ _ _ hb i g hg
            refine ⟨y, by simpa using q1, hmono, ?_⟩
            rw [← hz, List.drop_drop, show a.length + (g.offset - (o + a.length)) = g.offset - o by omega]
            exact q3
        · cases hf
      · cases hf
    · cases hf

theorem flatD_RL : ∀ (n m : Nat) (t : TypeId) (cs : List Value) (d : DataW H) (p : List MemPlace) (al : List AV), DataW.trod enc P w base spare held m t cs = some (d, p) → flatD P n t d = some al → RL hp L β al cs
  | 0, m, t, cs, d, p, al, ht, hf => by simp [flatD] at hf
  | n + 1, m, t, cs, d, p, al, ht, hf => by
    unfold flatD at hf
    split at hf
    · rename_i hu
      obtain ⟨b, rfl, hx⟩ := DataW.trod_bool hu ht
      cases hx
      cases hf
      exact .cons (.bool _) .nil
    · rename_i k hu
      obtain ⟨q, rfl, hx, _⟩ := DataW.trod_int hu ht
      cases hx
      simp only [if_true] at hf
      cases hf
      exact .cons (.int _ _) .nil
    · rename_i len e hu
      obtain ⟨xs, m1, rfl, hx, hcl, hxl, hel⟩ := DataW.trod_array hu ht
      cases hx
      simp only at hf
      split at hf
      · rename_i hc
        exact flatA_RL (n := n) (fun cs d p al h1 h2 => flatD_RL n m1 e cs d p al h1 h2) xs cs al (by rw [hcl, hc.2, hxl]) (fun i hi => hel i (by omega)) hf
      · cases hf
    · rename_i fs hu
      obtain ⟨xs, m1, rfl, hx, hcl, hxl, hel⟩ := DataW.trod_struct hu ht
      cases hx
      simp only at hf
      split at hf
      · rename_i al' h1
        split at hf
        · rename_i hl
          cases hf
          refine flatS_RL (n := n) (fun t cs d p al h1 h2 => flatD_RL n m1 t cs d p al h1 h2) fs.toList xs 0 cs al (by rw [hl, hcl]) (fun i f hi => ?_) h1
          have hi' : fs[i]? = some f := by simpa using hi
          have hlt : i < xs.length := by rw [hxl]; exact (Array.getElem?_eq_some_iff.1 hi').1
          have := hel i f hi'
          rw [List.getElem?_eq_getElem hlt] at this
          exact ⟨xs[i], by simp [hlt], Nat.zero_le _, by simpa using this⟩
        · cases hf
      · cases hf
    · cases hf
end
/-! ## a run where one variable is laid, and some numbers are known by bounds alone -/
def gB (g : Nat) (gs : List Nat) : Bl := fun id => if id = g then some (g, 0) else if g < id then (gs[id - (g + 1)]?).map fun n => (g, n) else none
def gH (g : Nat) (cs : List AV) (k : Nat) : AH := ⟨PM.put .leaf g (.glob g cs), g + 1 + k⟩
def plainAV : AV → Bool
  | .bool _ | .int _ _ => true
  | _ => false
theorem plain_eq {hp hp' : Array Obj} {L L' : Nat → Prop} {β β' : Bl} {a : AV} {v v' : Value} (hp1 : plainAV a = true) (h : VR hp L β a v) (h' : VR hp' L' β' a v') : v = v' := by
  cases a <;> simp [plainAV] at hp1 <;> cases h <;> cases h' <;> rfl
theorem gH_get {g : Nat} {cs : List AV} {k id : Nat} {o : AObj} (h : (gH g cs k).H.get id = some o) : id = g ∧ o = .glob g cs := by
  unfold gH at h
  simp only [PM.get_put] at h
  split at h
  · rename_i hid; cases h; exact ⟨hid, rfl⟩
  · simp [PM.get] at h
theorem gB_ghost {g : Nat} {gs : List Nat} {i n : Nat} (h : gs[i]? = some n) : gB g gs (g + 1 + i) = some (g, n) := by
  unfold gB
  rw [if_neg (by omega), if_pos (by omega), show g + 1 + i - (g + 1) = i by omega, h]; rfl
/-- 'true', and the variable reads as it did -/
def okR (g : Nat) (cs : List AV) : Option (AV × AH) → Bool
  | some (.bool true, h) => match h.globAt g with
    | some l => AV.beqL l cs
    | none => false
  | _ => false
theorem run_glob {P : Program} {cl : Handler} (hcl : FOk P cl) {f g : Nat} {pargs cs : List AV} {gs : List Nat} (hrun : okR g cs (cl f pargs (gH g cs gs.length)) = true) (hpl : cs.all plainAV = true)
    {W : World} {cargs : Array Value} {cur : Array Value} {e : TypeId} {fz : Nat × Nat} (hb : W.heap[g]? = some (.cells cur e fz)) (hcs : RL W.heap (fun _ => False) noB cs cur.toList)
    (hR : ∀ (hp : Array Obj) (L : Nat → Prop) (β : Bl), (∀ i n, gs[i]? = some n → β (g + 1 + i) = some (g, n)) → RL hp L β pargs cargs.toList) :
    Calls P f cargs W fun e W' => e = .returned (.bool true) ∧ Below W.heap.size W W' := by
  unfold okR at hrun
  split at hrun
  case h_2 => cases hrun
  rename_i h' hr
  split at hrun
  case h_2 => cases hrun
  rename_i l hl
  have hl' : l = cs := AV.beqL_eq _ _ hrun
  subst hl'
  have hg : h'.H.get g = some (.glob g l) := by
    unfold AH.globAt at hl
    split at hl
    · rename_i g' cs' hq
      split at hl
      · rename_i hgg; subst hgg; cases hl; exact hq
      · cases hl
    · cases hl
  have hlt := lt_of_get hb
  have hpv : ∀ (i : Nat) (c : AV) (hp : Array Obj) (L : Nat → Prop) (β : Bl) (v : Value), l[i]? = some c → cur[i]? = some v → VR hp L β c v := by
    intro i c hp L β v hc hv
    have h1 := hcs.2 i c v hc (by simpa using hv)
    have hpc : plainAV c = true := List.all_eq_true.1 hpl c (List.mem_of_getElem? hc)
    cases c <;> simp [plainAV] at hpc <;> cases h1
    · exact .bool _
    · exact .int _ _
  have hS : SimH (fun _ => False) (gB g gs) (gH g l gs.length).H (gH g l gs.length).nx W := by
    refine ⟨fun id hid => ?_, fun id b base hb' => ?_, fun b hb => hb.elim, fun id o ho => ?_, fun id id' o o' b x y h1 h2 _ _ => (gH_get h1).1.trans (gH_get h2).1.symm⟩
    · simp only [gH] at hid
      unfold gB
      rw [if_neg (by omega), if_pos (by omega), List.getElem?_eq_none (by omega)]; rfl
    · unfold gB at hb'
      split at hb'
      · cases hb'; exact hlt
      · split at hb'
        · rw [Option.map_eq_some_iff] at hb'
          obtain ⟨n, _, he⟩ := hb'
          cases he; exact hlt
        · cases hb'
    · obtain ⟨rfl, rfl⟩ := gH_get ho
      refine ⟨id, 0, by simp [gB], fun hf => hf.elim, rfl, rfl, cur, e, fz, hb, ?_, fun i c v hc hv => hpv i c _ _ _ v hc hv⟩
      have := hcs.1
      simp at this
      omega
  refine ((hcl f pargs _ _ _ hr).2 (fun _ => False) (gB g gs) W cargs hS (hR _ _ _ fun i n hi => gB_ghost hi)).mono ?_
  rintro ee W' ⟨cv, v, h2, β', rfl, ⟨rfl, rfl⟩, hS', hv, ht⟩
  cases hv
  refine ⟨rfl, ht.os, ht.tape, ht.output, ht.size, fun k hk => ?_⟩
  by_cases hkg : k = g
  · subst hkg
    obtain ⟨b, base, h1, _, h0, h3, cur', e', fz', h4, h5, h6⟩ := hS'.obj k _ hg
    subst h3
    obtain ⟨cur2, h7, h8⟩ := ht.shape _ _ _ _ hb
    rw [h7] at h4
    cases h4
    rw [h7, hb]
    have : cur' = cur := by
      apply Array.ext h8
      intro i hi1 hi2
      have hlen := hcs.1
      simp at hlen
      have hc : l[i]? = some l[i] := List.getElem?_eq_getElem (by omega)
      exact plain_eq (List.all_eq_true.1 hpl _ (List.mem_of_getElem? hc)) (h6 i _ _ hc (Array.getElem?_eq_getElem hi1)) (hpv i _ W.heap (fun _ => False) noB _ hc (Array.getElem?_eq_getElem hi2))
    rw [this]
  · refine ht.keep k hk ?_
    rintro ⟨id, o, base, h1, h2⟩
    obtain ⟨rfl, rfl⟩ := gH_get h1
    simp [gB] at h2
    exact hkg h2.1.symm
/-- a number by its bounds -/
theorem VR.byte {hp : Array Obj} {L : Nat → Prop} {β : Bl} {k : IntKind} {i b : Nat} {n lo hi : Int} (h : β i = some (b, n.toNat)) (h0 : 0 ≤ n) (h1 : lo ≤ n) (h2 : n ≤ hi) : VR hp L β (.sint k 0 i 0 lo hi) (.int k n) := by
  have e : ((n.toNat % 0 : Nat) : Int) + 0 = n := by rw [Nat.mod_zero]; omega
  have := VR.sint (hp := hp) (L := L) k 0 i 0 lo hi b n.toNat h (by rw [e]; exact h1) (by rw [e]; exact h2)
  rwa [e] at this
end Go.Eng
end
noncomputable section
namespace Go.Proofs.YtoibclpbkjbnbaaGreatDoor
open Go.Eng
/-- the contrast of two colors, in the program and in the reference, by contract -/
def conH : Handler := fun f args h =>
  cond (Nat.beq f 29 || Nat.beq f 11) (match args with
    | [.scol .i64 16777216 0 i j l lo hi, .scol .i64 16777216 1 i' j' l' _ _] => cond (Nat.beq i i' && Nat.beq j j' && Nat.beq l l') (some (.sint .i64 0 l 0 lo hi, h)) none
    | _ => none) none
theorem con_at {f i j l : Nat} {lo hi lo' hi' : Int} {h : AH} (hc : ∀ a b : Int, Col a → Col b → Pure Tryz.prog f [I a, I b] (I (con a b))) :
    CallD Tryz.prog f [.scol .i64 16777216 0 i j l lo hi, .scol .i64 16777216 1 i j l lo' hi'] h (.sint .i64 0 l 0 lo hi) h := by
  refine ⟨(hc 0 0 (by simp [Col]) (by simp [Col]) h).1, fun own β w cargs hs hR => ?_⟩
  obtain ⟨c1, h1, v1⟩ := hR.get (i := 0) rfl
  obtain ⟨c2, h2, v2⟩ := hR.get (i := 1) rfl
  have hl := hR.1
  have hca : cargs.toList = [c1, c2] := by
    match hq : cargs.toList, hl with
    | [a, b], _ =>
      rw [hq] at h1 h2
      simp at h1 h2
      rw [h1, h2]
  cases v1 with
  | scol _ _ _ _ _ _ _ _ b1 n1 b2 n2 b3 e1 e2 e3 q1 q2 q3 q4 =>
  cases v2 with
  | scol _ _ _ _ _ _ _ _ b1' n1' b2' n2' b3' e1' e2' e3' q1' q2' q3' q4' =>
  rw [e2] at e2'
  cases e2'
  rw [if_pos rfl] at hca
  rw [if_neg (by decide)] at hca
  have m1 : n1 % 16777216 < 16777216 := Nat.mod_lt _ (by decide)
  have m2 : n2 % 16777216 < 16777216 := Nat.mod_lt _ (by decide)
  have hcall := (hc ((n1 % 16777216 : Nat) : Int) ((n2 % 16777216 : Nat) : Int) (by simp only [Col]; omega) (by simp only [Col]; omega) h).2 own β w cargs hs (by rw [hca]; exact .cons (.int _ _) (.cons (.int _ _) .nil))
  refine hcall.mono ?_
  rintro e w' ⟨cv, v, h', β', rfl, ⟨rfl, rfl⟩, g1, g2, g3⟩
  refine ⟨cv, _, _, β', rfl, ⟨rfl, rfl⟩, g1, ?_, g3⟩
  cases g2
  rw [con_nat]
  have e : ((conN (n1 % 16777216) (n2 % 16777216) % 0 : Nat) : Int) + 0 = ((conN (n1 % 16777216) (n2 % 16777216) : Nat) : Int) := by rw [Nat.mod_zero, Int.add_zero]
  have := VR.sint (hp := w'.heap) (L := LL own β' h'.H) .i64 0 l 0 lo hi b3 _ (g3.ext _ _ e3) (by rw [e]; exact q3) (by rw [e]; exact q4)
  rwa [e] at this
theorem conH_ok : FOk Tryz.prog conH := by
  intro f args h v h' ha
  unfold conH at ha
  cases hf : (Nat.beq f 29 || Nat.beq f 11) with
  | false => rw [hf] at ha; cases ha
  | true =>
  rw [hf] at ha
  simp only [cond_true] at ha
  split at ha
  case h_2 => cases ha
  rename_i i j l lo hi i' j' l' lo' hi'
  cases hq : (Nat.beq i i' && Nat.beq j j' && Nat.beq l l') with
  | false => rw [hq] at ha; cases ha
  | true =>
  rw [hq] at ha
  cases ha
  simp only [Bool.and_eq_true] at hq
  obtain rfl := Nat.eq_of_beq_eq_true hq.1.1
  obtain rfl := Nat.eq_of_beq_eq_true hq.1.2
  obtain rfl := Nat.eq_of_beq_eq_true hq.2
  rcases Bool.or_eq_true _ _ ▸ hf with h1 | h1
  · obtain rfl := Nat.eq_of_beq_eq_true h1
    exact con_at fun a b ha hb => con_c a b ha hb
  · obtain rfl := Nat.eq_of_beq_eq_true h1
    exact con_at fun a b ha hb => rcon_c a b ha hb
end Go.Proofs.YtoibclpbkjbnbaaGreatDoor
end
