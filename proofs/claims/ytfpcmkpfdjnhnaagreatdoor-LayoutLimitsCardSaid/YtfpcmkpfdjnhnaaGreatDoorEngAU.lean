/- Two functions of the program as plain transformers of predicates. Runs in a world where a package-level variable is laid. Calls with frozen arguments where a variable is laid: found once, used later. slices.IndexFunc with the function of place answers -1 where the key is empty. Tables of calls that were found. -/
import Derived.Test.YtfpcmkpfdjnhnaaGreatDoorEngIN
import Derived.Test.YtfpcmkpfdjnhnaaGreatDoorEngDD
import Derived.Test.YtfpcmkpfdjnhnaaGreatDoorProg
import Derived.KernelRfl
import Derived.OpenShut
import Derived.ChangeArms
import Derived.Below
import Derived.Test.YtfpcmkpfdjnhnaaGreatDoorEngPH
set_option linter.unusedSimpArgs false
set_option linter.unusedVariables false
set_option linter.unnecessarySimpa false
noncomputable section
namespace Go.Proofs.YtfpcmkpfdjnhnaaGreatDoor
open Go.Eng
set_option maxRecDepth 100000
/- slices.IndexFunc[[]int,int] -/
def S104.r0 : List AOpr := [
  ⟨some 4, .mov (.const (.int .i64 0)), none⟩]
def S104.r1 : List AOpr := [
  ⟨some 6, .mov (.tmp 0), none⟩,
  ⟨some 7, .len (.tmp 6), none⟩,
  ⟨some 8, .mov (.const (.int .i64 0)), none⟩]
def S104.r2 : List AOpr := [
  ⟨some 9, .arith .lss (.tmp 8) (.tmp 7), none⟩]
def S104.r3 : List AOpr := [
  ⟨some 10, .mov (.tmp 8), none⟩,
  ⟨some 5, .mov (.tmp 10), none⟩]
def S104.r4 : List AOpr := [
  ⟨some 11, .mov (.tmp 1), none⟩,
  ⟨some 12, .mov (.tmp 0), none⟩,
  ⟨some 13, .mov (.tmp 5), none⟩,
  ⟨some 14, .idxA 1 (.tmp 12) (.tmp 13), none⟩,
  ⟨some 15, .ld1 (.tmp 14), none⟩,
  ⟨some 16, .call (.tmp 11) [.tmp 15], none⟩]
def S104.r5 : List AOpr := [
  ⟨some 17, .mov (.tmp 5), none⟩,
  ⟨some 4, .mov (.tmp 17), none⟩]
def S104.r6 : List AOpr := [
  ⟨some 18, .arith .add (.tmp 8) (.const (.int .i64 1)), none⟩,
  ⟨some 8, .mov (.tmp 18), none⟩]
def S104.r7 : List AOpr := [
  ⟨some 4, .mov (.const (.int .i64 (-1))), none⟩]
def S104 : SFn := ⟨19, [.tmp 4], .seq (.reg S104.r0) (.seq (.seq (.reg S104.r1) (.block 0 (.loop [0, 1, 7, 8] [4] (.seq (.reg S104.r2) (.seq (.cond (.tmp 9) (.skip) (.exit 0)) (.seq (.block 1 (.seq (.reg S104.r3) (.seq (.reg S104.r4) (.cond (.tmp 16) (.seq (.reg S104.r5) (.ret)) (.skip))))) (.reg S104.r6))))))) (.seq (.reg S104.r7) (.ret)))⟩
theorem S104_ok : cFn Tryz.prog Tryz.f104 = some S104.erase := by kernel_rfl
def g104_l1 (cl : CL) (v0 v1 v7 v8 : AV) (h : AH) (k : AX → List AV → List AV → AH → Prop) : Prop :=
  wk (kArith h .lss v8 v7) fun v9 h =>
  wif v9 (
  wk (kIdxA h 1 v0 v8) fun v14 h =>
  wk (kLd1 h v14) fun v15 h =>
  wcall cl v1 [v15] h fun v16 h =>
  wif v16 (
  k .ret [v0, v1, v7, v8] [v8] h) (
  wk (kArith h .add v8 (.int .i64 1)) fun v18 h =>
  k .nrm [v0, v1, v7, v18] [.undef] h)) (
  k (.exit 0) [v0, v1, v7, v8] [.undef] h)
def g104_c2 (cl : CL) (h : AH) (Q : AV → AH → Prop) : Prop :=
  Q ((.int .i64 (-1))) h
def g104_j3 (cl : CL) (x : AX) (v4 : AV) (h : AH) (Q : AV → AH → Prop) : Prop :=
  xs x (g104_c2 cl h Q) (fun j => cond (Nat.beq j 0) (g104_c2 cl h Q) (False)) (Q (v4) h)
def g104 (cl : CL) (v0 v1 : AV) (h : AH) (Q : AV → AH → Prop) : Prop :=
  wk (kLen h v0) fun v7 h =>
  wloop (fun vs h k => g104_l1 cl (nthD vs 0) (nthD vs 1) (nthD vs 2) (nthD vs 3) h k) [v0, v1, v7, (.int .i64 0)] h fun x vs h => g104_j3 cl x (nthD vs 0) h Q
theorem g104_eq (cl : CL) (v0 v1 : AV) (h : AH) (Q : AV → AH → Prop) : wrun cl S104 [v0, v1] h Q = g104 cl v0 v1 h Q := by kernel_rfl
theorem C104 {cl : CL} (hcl : CLOk Tryz.prog cl) {v0 v1 : AV} {h : AH} {Q : AV → AH → Prop} (hg : g104 cl v0 v1 h Q) : CallsA Tryz.prog 104 [v0, v1] h Q := wfn_ok hcl (f := 104) (fn := Tryz.f104) (by kernel_rfl) S104_ok (by decide) (by kernel_rfl) (its_nil (by kernel_rfl)) (by rw [g104_eq]; exact hg)

/- (*widgetry/layout.scene).place$2$1 -/
def S105.r0 : List AOpr := [
  ⟨some 4, .mov (.const (.bool false)), none⟩]
def S105.r1 : List ((AOpr × Nat) × Option Nat) := [
  ((⟨some 5, .ld1 (.tmp 1), none⟩, 0), none),
  ((⟨some 6, .arith .neq (.tmp 5) (.const (.str [])), none⟩, 1), none),
  ((⟨some 7, .mov (.tmp 6), none⟩, 3), none),
  ((⟨some 8, .ld1 (.tmp 2), some (7, true)⟩, 7), some 7),
  ((⟨some 9, .nilchk (.tmp 8), some (7, true)⟩, 15), none),
  ((⟨some 10, .fldA 4 (.tmp 9), some (7, true)⟩, 31), none),
  ((⟨some 11, .ld1 (.tmp 10), some (7, true)⟩, 63), none),
  ((⟨some 12, .mov (.tmp 0), some (7, true)⟩, 7), none),
  ((⟨some 13, .xo (.mapget (.one (.int .i64)) false (.agg [.int .i64 0, .int .i64 0, .int .i64 0, .str [], .nilsl, .nilsl, .nilsl])) [.tmp 11, .tmp 12], some (7, true)⟩, 255), none),
  ((⟨some 14, .fld 3 none (.tmp 13), some (7, true)⟩, 511), none),
  ((⟨some 15, .ld1 (.tmp 1), some (7, true)⟩, 7), none),
  ((⟨some 16, .arith .eql (.tmp 14) (.tmp 15), some (7, true)⟩, 2047), none),
  ((⟨some 17, .pick (.tmp 7) (.tmp 16) (.const (.bool false)), none⟩, 4095), none),
  ((⟨some 4, .mov (.tmp 17), none⟩, 8191), none)]
def S105 : SFn := ⟨18, [.tmp 4], .seq (.reg S105.r0) (.seq (.drawS S105.r1) (.ret))⟩
theorem S105_ok : cFn Tryz.prog Tryz.f105 = some S105.erase := by kernel_rfl
def g105_s1 (cl : CL) (v1 v4 v7 v11 v12 : AV) (h : AH) (Q : AV → AH → Prop) : Prop :=
  wgd (gdv true v7) (fun k => wdp h (kX h (.mapget (.one (.int .i64)) false (.agg [.int .i64 0, .int .i64 0, .int .i64 0, .str [], .nilsl, .nilsl, .nilsl])) [v11, v12]) (rdK (xRd (.mapget (.one (.int .i64)) false (.agg [.int .i64 0, .int .i64 0, .int .i64 0, .str [], .nilsl, .nilsl, .nilsl])) [v11, v12])) k) h fun v13 c8 h =>
  wgd (gdv true v7) (fun k => wdp h (kFld h 3 none v13) .pure k) h fun v14 c9 h =>
  wgd (gdv true v7) (fun k => wdp h (kLd1 h v1) (rdK (rdv v1)) k) h fun v15 c10 h =>
  wgd (gdv true v7) (fun k => wdp h (kArith h .eql v14 v15) .pure k) h fun v16 c11 h =>
  wdp h (kPick h v7 v16 (.bool false)) .pure fun v17 c12 h =>
  wdp h (kMov h v17) .pure fun v4 c13 h =>
  Q (v4) h
def g105 (cl : CL) (v0 v1 v2 : AV) (h : AH) (Q : AV → AH → Prop) : Prop :=
  wdr h 14 fun r h =>
  wdp h (kLd1 h v1) (rdK (rdv v1)) fun v5 c0 h =>
  wdp h (kArith h .neq v5 (.str [])) .pure fun v6 c1 h =>
  wdp h (kMov h v6) .pure fun v7 c2 h =>
  wsp v7 fun v7 =>
  wgd (gdv true v7) (fun k => wdp h (kLd1 h v2) (rdK (rdv v2)) k) h fun v8 c3 h =>
  wgd (gdv true v7) (fun k => wdp h (kNilchk h v8) .pure k) h fun v9 c4 h =>
  wgd (gdv true v7) (fun k => wdp h (kFldA h 4 v9) .pure k) h fun v10 c5 h =>
  wgd (gdv true v7) (fun k => wdp h (kLd1 h v10) (rdK (rdv v10)) k) h fun v11 c6 h =>
  wgd (gdv true v7) (fun k => wdp h (kMov h v0) .pure k) h fun v12 c7 h =>
  g105_s1 cl (v1) ((.bool false)) (v7) (v11) (v12) h Q
theorem g105_eq (cl : CL) (v0 v1 v2 : AV) (h : AH) (Q : AV → AH → Prop) : wrun cl S105 [v0, v1, v2] h Q = g105 cl v0 v1 v2 h Q := by kernel_rfl
theorem C105 {cl : CL} (hcl : CLOk Tryz.prog cl) {v0 v1 v2 : AV} {h : AH} {Q : AV → AH → Prop} (hg : g105 cl v0 v1 v2 h Q) : CallsA Tryz.prog 105 [v0, v1, v2] h Q := wfn_ok hcl (f := 105) (fn := Tryz.f105) (by kernel_rfl) S105_ok (by decide) (by kernel_rfl) (its_nil (by kernel_rfl)) (by rw [g105_eq]; exact hg)

end Go.Proofs.YtfpcmkpfdjnhnaaGreatDoor
end
noncomputable section
namespace Go.Eng
open Go.RowKit
/-! ## cells off a datum -/
mutual
def flatD {H : Type} (P : Program) : Nat → TypeId → DataW H → Option (List AV)
  | 0, _, _ => none
  | n + 1, t, d => match P.underlying t with
    | some .bool => match d with
      | .lit (.bool b) => some [.bool b]
      | _ => none
    | some (.int k) => match d with
      | .lit (.int k' m) => if k' = k then some [.int k m] else none
      | _ => none
    | some (.array len e) => match d with
      | .agg ds => if ds.length = len ∧ P.cellsOf t = len * P.cellsOf e then flatA P n e (P.cellsOf e) ds else none
      | _ => none
    | some (.struct fs) => match d with
      | .agg ds => match flatS P n fs.toList 0 ds with
        | some al => if al.length = P.cellsOf t then some al else none
        | none => none
      | _ => none
    | _ => none
def flatA {H : Type} (P : Program) : Nat → TypeId → Nat → List (DataW H) → Option (List AV)
  | _, _, _, [] => some []
  | n, e, z, d :: ds => match flatD P n e d, flatA P n e z ds with
    | some a, some b => if a.length = z then some (a ++ b) else none
    | _, _ => none
def flatS {H : Type} (P : Program) : Nat → List Field → Nat → List (DataW H) → Option (List AV)
  | _, [], _, [] => some []
  | n, f :: fs, o, d :: ds => match flatD P n f.type d with
    | some a => if f.offset = o ∧ a.length = P.cellsOf f.type then (match flatS P n fs (o + a.length) ds with
      | some b => some (a ++ b)
      | none => none) else none
    | none => none
  | _, _, _, _ => none
end
section
variable {H : Type} {enc : TypeId × Value → H} {P : Program} {w : World} {base : Nat} {spare : Nat → Bool} {held : Bool} {hp : Array Obj} {L : Nat → Prop} {β : Bl}
theorem RL.take_drop {al bs : List AV} {cs : List Value} {z : Nat} (h1 : RL hp L β al (cs.take z)) (hz : al.length = z) (h2 : RL hp L β bs (cs.drop z)) : RL hp L β (al ++ bs) cs := by
  have := h1.append h2
  rwa [List.take_append_drop] at this

theorem flatA_RL {n m : Nat} {e : TypeId} (ih : ∀ (cs : List Value) (d : DataW H) (p : List MemPlace) (al : List AV), DataW.trod enc P w base spare held m e cs = some (d, p) → flatD P n e d = some al → RL hp L β al cs) :
    ∀ (xs : List (DataW H × List MemPlace)) (cs : List Value) (al : List AV), cs.length = xs.length * P.cellsOf e → (∀ i, i < xs.length → DataW.trod enc P w base spare held m e ((cs.drop (i * P.cellsOf e)).take (P.cellsOf e)) = xs[i]?) →
      flatA P n e (P.cellsOf e) (xs.map (·.1)) = some al → RL hp L β al cs
  | [], cs, al, hl, hx, hf => by
    simp [flatA] at hf
    subst hf
    have : cs = [] := List.length_eq_zero_iff.1 (by simpa using hl)
    subst this
    exact .nil
  | x :: xs, cs, al, hl, hx, hf => by
    simp only [List.map_cons, flatA] at hf
    split at hf
    · rename_i a b ha hb
      split at hf
      · rename_i hz
        cases hf
        have h0 := hx 0 (by simp)
        simp at h0
        obtain ⟨d, p⟩ := x
        have r1 := ih _ d p a h0 ha
        refine r1.take_drop hz (flatA_RL ih xs _ _ ?_ (fun i hi => ?_) hb)
        · simp only [List.length_drop, hl, List.length_cons, Nat.succ_mul]; omega
        · have := hx (i + 1) (by simp; omega)
          rw [Nat.succ_mul] at this
          rw [List.drop_drop, Nat.add_comm]
          simpa using this
      · cases hf
    · cases hf
theorem flatS_RL {n m : Nat} (ih : ∀ (t : TypeId) (cs : List Value) (d : DataW H) (p : List MemPlace) (al : List AV), DataW.trod enc P w base spare held m t cs = some (d, p) → flatD P n t d = some al → RL hp L β al cs) :
    ∀ (fs : List Field) (xs : List (DataW H × List MemPlace)) (o : Nat) (cs : List Value) (al : List AV), al.length = cs.length → (∀ (i : Nat) (f : Field), fs[i]? = some f → ∃ x, xs[i]? = some x ∧ o ≤ f.offset ∧ DataW.trod enc P w base spare held m f.type ((cs.drop (f.offset - o)).take (P.cellsOf f.type)) = some x) →
      flatS P n fs o (xs.map (·.1)) = some al → RL hp L β al cs
  | [], [], o, cs, al, hl, hx, hf => by
    simp [flatS] at hf
    subst hf
    have : cs = [] := List.length_eq_zero_iff.1 (by simpa using hl.symm)
    subst this
    exact .nil
  | [], x :: xs, o, cs, al, hl, hx, hf => by simp [flatS] at hf
  | f :: fs, [], o, cs, al, hl, hx, hf => by simp [flatS] at hf
  | f :: fs, x :: xs, o, cs, al, hl, hx, hf => by
    simp only [List.map_cons, flatS] at hf
    split at hf
    · rename_i a ha
      split at hf
      · rename_i hc
        obtain ⟨hof, hz⟩ := hc
        split at hf
        · rename_i b hb
          cases hf
          obtain ⟨x', h1, h2, h3⟩ := hx 0 f rfl
          simp at h1
          subst h1
          rw [hof, Nat.sub_self, List.drop_zero] at h3
          obtain ⟨d, p⟩ := x
          have r1 := ih _ _ d p a h3 ha
          refine r1.take_drop hz (flatS_RL ih fs xs _ _ _ ?_ (fun i g hg => ?_) hb)
          · simp at hl ⊢; omega
          · obtain ⟨y, q1, q2, q3⟩ := hx (i + 1) g (by simpa using hg)
            have hmono : o + a.length ≤ g.offset := by
              -- offsets go up: off the form of flatS
              clear q3
              have : ∀ (fs : List Field) (ds : List (DataW H)) (o : Nat) (b : List AV), flatS P n fs o ds = some b → ∀ (i : Nat) (g : Field), fs[i]? = some g → o ≤ g.offset := by
                intro fs
                induction fs with
                | nil => intro ds o b _ i g hg; simp at hg
                | cons f fs ihf =>
                  intro ds o b hb i g hg
                  cases ds with
                  | nil => simp [flatS] at hb
                  | cons d ds =>
                  simp only [flatS] at hb
                  split at hb
                  · split at hb
                    · rename_i hc
                      split at hb
                      · rename_i b' hb'
                        cases i with
                        | zero => simp at hg; subst hg; omega
                        | succ i => have := ihf _ _ _ hb' i g (by simpa using hg); omega
                      · cases hb
                    · cases hb
                  · cases hb
              exact this _ _ _ _ hb i g hg
            refine ⟨y, by simpa using q1, hmono, ?_⟩
            rw [← hz, List.drop_drop, show a.length + (g.offset - (o + a.length)) = g.offset - o by omega]
            exact q3
        · cases hf
      · cases hf
    · cases hf

theorem flatD_RL : ∀ (n m : Nat) (t : TypeId) (cs : List Value) (d : DataW H) (p : List MemPlace) (al : List AV), DataW.trod enc P w base spare held m t cs = some (d, p) → flatD P n t d = some al → RL hp L β al cs
  | 0, m, t, cs, d, p, al, ht, hf => by simp [flatD] at hf
  | n + 1, m, t, cs, d, p, al, ht, hf => by
    unfold flatD at hf
    split at hf
    · rename_i hu
      obtain ⟨b, rfl, hx⟩ := DataW.trod_bool hu ht
      cases hx
      cases hf
      exact .cons (.bool _) .nil
    · rename_i k hu
      obtain ⟨q, rfl, hx, _⟩ := DataW.trod_int hu ht
      cases hx
      simp only [if_true] at hf
      cases hf
      exact .cons (.int _ _) .nil
    · rename_i len e hu
      obtain ⟨xs, m1, rfl, hx, hcl, hxl, hel⟩ := DataW.trod_array hu ht
      cases hx
      simp only at hf
      split at hf
      · rename_i hc
        exact flatA_RL (n := n) (fun cs d p al h1 h2 => flatD_RL n m1 e cs d p al h1 h2) xs cs al (by rw [hcl, hc.2, hxl]) (fun i hi => hel i (by omega)) hf
      · cases hf
    · rename_i fs hu
      obtain ⟨xs, m1, rfl, hx, hcl, hxl, hel⟩ := DataW.trod_struct hu ht
      cases hx
      simp only at hf
      split at hf
      · rename_i al' h1
        split at hf
        · rename_i hl
          cases hf
          refine flatS_RL (n := n) (fun t cs d p al h1 h2 => flatD_RL n m1 t cs d p al h1 h2) fs.toList xs 0 cs al (by rw [hl, hcl]) (fun i f hi => ?_) h1
          have hi' : fs[i]? = some f := by simpa using hi
          have hlt : i < xs.length := by rw [hxl]; exact (Array.getElem?_eq_some_iff.1 hi').1
          have := hel i f hi'
          rw [List.getElem?_eq_getElem hlt] at this
          exact ⟨xs[i], by simp [hlt], Nat.zero_le _, by simpa using this⟩
        · cases hf
      · cases hf
    · cases hf
end
/-! ## a run where one variable is laid, and some numbers are known by bounds alone -/
def gB (g : Nat) (gs : List Nat) : Bl := fun id => if id = g then some (g, 0) else if g < id then (gs[id - (g + 1)]?).map fun n => (g, n) else none
def gH (g : Nat) (cs : List AV) (k : Nat) : AH := ⟨PM.put .leaf g (.glob g cs), g + 1 + k⟩
def plainAV : AV → Bool
  | .bool _ | .int _ _ => true
  | _ => false
theorem plain_eq {hp hp' : Array Obj} {L L' : Nat → Prop} {β β' : Bl} {a : AV} {v v' : Value} (hp1 : plainAV a = true) (h : VR hp L β a v) (h' : VR hp' L' β' a v') : v = v' := by
  cases a <;> simp [plainAV] at hp1 <;> cases h <;> cases h' <;> rfl
theorem gH_get {g : Nat} {cs : List AV} {k id : Nat} {o : AObj} (h : (gH g cs k).H.get id = some o) : id = g ∧ o = .glob g cs := by
  unfold gH at h
  simp only [PM.get_put] at h
  split at h
  · rename_i hid; cases h; exact ⟨hid, rfl⟩
  · simp [PM.get] at h
theorem gB_ghost {g : Nat} {gs : List Nat} {i n : Nat} (h : gs[i]? = some n) : gB g gs (g + 1 + i) = some (g, n) := by
  unfold gB
  rw [if_neg (by omega), if_pos (by omega), show g + 1 + i - (g + 1) = i by omega, h]; rfl
/-- 'true', and the variable reads as it did -/
def okR (g : Nat) (cs : List AV) : Option (AV × AH) → Bool
  | some (.bool true, h) => match h.globAt g with
    | some l => AV.beqL l cs
    | none => false
  | _ => false
theorem run_glob {P : Program} {cl : Handler} (hcl : FOk P cl) {f g : Nat} {pargs cs : List AV} {gs : List Nat} (hrun : okR g cs (cl f pargs (gH g cs gs.length)) = true) (hpl : cs.all plainAV = true)
    {W : World} {cargs : Array Value} {cur : Array Value} {e : TypeId} {fz : Nat × Nat} (hb : W.heap[g]? = some (.cells cur e fz)) (hcs : RL W.heap (fun _ => False) noB cs cur.toList)
    (hR : ∀ (hp : Array Obj) (L : Nat → Prop) (β : Bl), (∀ i n, gs[i]? = some n → β (g + 1 + i) = some (g, n)) → RL hp L β pargs cargs.toList) :
    Calls P f cargs W fun e W' => e = .returned (.bool true) ∧ Below W.heap.size W W' := by
  unfold okR at hrun
  split at hrun
  case h_2 => cases hrun
  rename_i h' hr
  split at hrun
  case h_2 => cases hrun
  rename_i l hl
  have hl' : l = cs := AV.beqL_eq _ _ hrun
  subst hl'
  have hg : h'.H.get g = some (.glob g l) := by
    unfold AH.globAt at hl
    split at hl
    · rename_i g' cs' hq
      split at hl
      · rename_i hgg; subst hgg; cases hl; exact hq
      · cases hl
    · cases hl
  have hlt := lt_of_get hb
  have hpv : ∀ (i : Nat) (c : AV) (hp : Array Obj) (L : Nat → Prop) (β : Bl) (v : Value), l[i]? = some c → cur[i]? = some v → VR hp L β c v := by
    intro i c hp L β v hc hv
    have h1 := hcs.2 i c v hc (by simpa using hv)
    have hpc : plainAV c = true := List.all_eq_true.1 hpl c (List.mem_of_getElem? hc)
    cases c <;> simp [plainAV] at hpc <;> cases h1
    · exact .bool _
    · exact .int _ _
  have hS : SimH (fun _ => False) (gB g gs) (gH g l gs.length).H (gH g l gs.length).nx W := by
    refine ⟨fun id hid => ?_, fun id b base hb' => ?_, fun b hb => hb.elim, fun id o ho => ?_, fun id id' o o' b x y h1 h2 _ _ => (gH_get h1).1.trans (gH_get h2).1.symm⟩
    · simp only [gH] at hid
      unfold gB
      rw [if_neg (by omega), if_pos (by omega), List.getElem?_eq_none (by omega)]; rfl
    · unfold gB at hb'
      split at hb'
      · cases hb'; exact hlt
      · split at hb'
        · rw [Option.map_eq_some_iff] at hb'
          obtain ⟨n, _, he⟩ := hb'
          cases he; exact hlt
        · cases hb'
    · obtain ⟨rfl, rfl⟩ := gH_get ho
      refine ⟨id, 0, by simp [gB], fun hf => hf.elim, rfl, rfl, cur, e, fz, hb, ?_, fun i c v hc hv => hpv i c _ _ _ v hc hv⟩
      have := hcs.1
      simp at this
      omega
  refine ((hcl f pargs _ _ _ hr).2 (fun _ => False) (gB g gs) W cargs hS (hR _ _ _ fun i n hi => gB_ghost hi)).mono ?_
  rintro ee W' ⟨cv, v, h2, β', rfl, ⟨rfl, rfl⟩, hS', hv, ht⟩
  cases hv
  refine ⟨rfl, ht.os, ht.tape, ht.output, ht.size, fun k hk => ?_⟩
  by_cases hkg : k = g
  · subst hkg
    obtain ⟨b, base, h1, _, h0, h3, cur', e', fz', h4, h5, h6⟩ := hS'.obj k _ hg
    subst h3
    obtain ⟨cur2, h7, h8⟩ := ht.shape _ _ _ _ hb
    rw [h7] at h4
    cases h4
    rw [h7, hb]
    have : cur' = cur := by
      apply Array.ext h8
      intro i hi1 hi2
      have hlen := hcs.1
      simp at hlen
      have hc : l[i]? = some l[i] := List.getElem?_eq_getElem (by omega)
      exact plain_eq (List.all_eq_true.1 hpl _ (List.mem_of_getElem? hc)) (h6 i _ _ hc (Array.getElem?_eq_getElem hi1)) (hpv i _ W.heap (fun _ => False) noB _ hc (Array.getElem?_eq_getElem hi2))
    rw [this]
  · refine ht.keep k hk ?_
    rintro ⟨id, o, base, h1, h2⟩
    obtain ⟨rfl, rfl⟩ := gH_get h1
    simp [gB] at h2
    exact hkg h2.1.symm
end Go.Eng
end
noncomputable section
namespace Go.Eng
/-- the world of an entry: the variable alone -/
def gBase (g : Nat) (cs : List AV) : AH := gH g cs 0
/-- the variable reads as it did -/
def gOk (g : Nat) (cs : List AV) (h : AH) : Bool :=
  match h.globAt g with
  | some l => AV.beqL l cs
  | none => false
theorem gOk_get {g : Nat} {cs : List AV} {h : AH} (hg : gOk g cs h = true) : h.H.get g = some (.glob g cs) := by
  unfold gOk at hg
  split at hg
  · rename_i l hl
    have := AV.beqL_eq _ _ hg
    subst this
    unfold AH.globAt at hl
    split at hl
    · rename_i g' cs' hq
      split at hl
      · rename_i he; subst he; cases hl; exact hq
      · cases hl
    · cases hl
  · cases hg
theorem plain_any {hp hp' : Array Obj} {L L' : Nat → Prop} {β β' : Bl} {a : AV} {v : Value} (h1 : plainAV a = true) (h : VR hp L β a v) : VR hp' L' β' a v := by
  cases a <;> simp [plainAV] at h1 <;> cases h
  · exact .bool _
  · exact .int _ _

/-- a call from the variable alone, made where other objects are -/
theorem frameV {P : Program} {f g : Nat} {pargs : List AV} {cs : List AV} {v0 v : AV} {h0 : AH} {own : Nat → Prop} {β : Bl} {w : World} {cargs : Array Value} {h : AH} (hc : CallD P f pargs (gBase g cs) v0 h0) (hg0 : gOk g cs h0 = true) (hpl : cs.all plainAV = true)
    (hgh : h.H.get g = some (.glob g cs)) (hs : SimH own β h.H h.nx w) (own' : Nat → Prop) (ho1 : ∀ b, own' b → b < w.heap.size) (ho2 : ¬ own' g)
    (hR : ∀ βr : Bl, (∀ b, LL own' βr (gBase g cs).H b ↔ own' b ∨ b = g) → RL w.heap (LL own' βr (gBase g cs).H) βr pargs cargs.toList)
    (hres : ∀ (cv : Value) (w' : World) (β0 : Bl), SimH own' β0 h0.H h0.nx w' → VR w'.heap (LL own' β0 h0.H) β0 v0 cv → (∀ b, live β0 h0.H b → b = g ∨ w.heap.size ≤ b) → (∀ b, b < w.heap.size → b ≠ g → w'.heap[b]? = w.heap[b]?) → VR w'.heap (LL own β h.H) β v cv) :
    Calls P f cargs w fun e w' => ∃ cv v1 h1 β', e = .returned cv ∧ (v1 = v ∧ h1 = h) ∧ SimH own β' h1.H h1.nx w' ∧ VR w'.heap (LL own β' h1.H) β' v1 cv ∧ Trans own β h w β' h1 w' := by
  obtain ⟨b, base, hb, hnb, hb0, hbg, cur, e, fz, q1, q2, q3⟩ := hs.obj g _ hgh
  subst hb0; subst hbg
  have hlt := lt_of_get q1
  have hlive : live β h.H b := ⟨b, _, 0, hgh, hb⟩
  let βr : Bl := fun id => if id = b then some (b, 0) else none
  have hll : ∀ x, live βr (gBase b cs).H x ↔ x = b := by
    intro x
    constructor
    · rintro ⟨id, o, ba, h1, h2⟩
      obtain ⟨rfl, _⟩ := gH_get h1
      simp [βr] at h2; exact h2.1.symm
    · rintro rfl
      exact ⟨x, .glob x cs, 0, by simp [gBase, gH, PM.get_put], by simp [βr]⟩
  have hLL : ∀ x, LL own' βr (gBase b cs).H x ↔ own' x ∨ x = b := fun x => or_congr_right (hll x)
  have hS : SimH own' βr (gBase b cs).H (gBase b cs).nx w := by
    refine ⟨fun id hid => ?_, fun id b' ba hb' => ?_, ho1, fun id o ho => ?_, fun id id' o o' b' x y h1 h2 _ _ => (gH_get h1).1.trans (gH_get h2).1.symm⟩
    · have : id ≠ b := by simp [gBase, gH] at hid; omega
      simp [βr, this]
    · by_cases hid : id = b
      · simp [βr, hid] at hb'; rw [← hb'.1]; exact hlt
      · simp [βr, hid] at hb'
    · obtain ⟨rfl, rfl⟩ := gH_get ho
      exact ⟨id, 0, by simp [βr], ho2, rfl, rfl, cur, e, fz, q1, q2, fun i c u h1 h2 => plain_any (List.all_eq_true.1 hpl c (List.mem_of_getElem? h1)) (q3 i c u h1 h2)⟩
  refine (hc.2 own' βr w cargs hS (hR βr hLL)).mono ?_
  rintro e' w' ⟨cv, v1, h1, β0, rfl, ⟨rfl, rfl⟩, hs0, hv0, ht⟩
  have hkeep : ∀ x, x < w.heap.size → x ≠ b → w'.heap[x]? = w.heap[x]? := fun x hx hne => ht.keep x hx fun hl => hne ((hll x).1 hl)
  obtain ⟨b1, ba1, _, _, hz0, hbg1, cur1, e1, fz1, r1, r2, r3⟩ := hs0.obj b _ (gOk_get hg0)
  subst hbg1
  have hT : Trans own β h w β h w' := ⟨fun _ _ h => h, fun _ _ => rfl, Nat.le_refl _, ht.size, fun x hx hn => hkeep x hx fun he => hn (he ▸ hlive), fun _ h => .inl h, ht.shape, ht.os, ht.tape, ht.output⟩
  have hSS : SimH own β h.H h.nx w' := by
    refine ⟨hs.fresh, fun id b' ba hb' => Nat.lt_of_lt_of_le (hs.lt id b' ba hb') ht.size, fun b' hb' => Nat.lt_of_lt_of_le (hs.ownlt b' hb') ht.size, fun id o hg => ?_, hs.inj⟩
    by_cases hid : id = b1
    · subst hid
      rw [hgh] at hg; cases hg
      exact ⟨id, 0, hb, hnb, rfl, rfl, cur1, e1, fz1, r1, r2, fun i c u k1 k2 => plain_any (List.all_eq_true.1 hpl c (List.mem_of_getElem? k1)) (r3 i c u k1 k2)⟩
    · obtain ⟨b', ba, hb', hnb', hor⟩ := hs.obj id o hg
      refine ⟨b', ba, hb', hnb', ?_⟩
      have hl' := hs.lt id b' ba hb'
      have hne : b' ≠ b1 := fun he => hid (hs.inj id b1 o _ b' ba 0 hg hgh hb' (he ▸ hb))
      cases o with
      | cells cs' =>
        obtain ⟨cur', e', s1, s2, s3⟩ := hor
        exact ⟨cur', e', by rw [hkeep b' hl' hne]; exact s1, s2, fun i c v k1 k2 => (s3 i c v k1 k2).later hT.later⟩
      | map kvs =>
        obtain ⟨s0, es, s1, s2, s3⟩ := hor
        exact ⟨s0, es, by rw [hkeep b' hl' hne]; exact s1, s2, fun i kv e k1 k2 => ⟨(s3 i kv e k1 k2).1.later hT.later, (s3 i kv e k1 k2).2.1.later hT.later, (s3 i kv e k1 k2).2.2⟩⟩
      | siter s pos => exact ⟨hor.1, by rw [hkeep b' hl' hne]; exact hor.2⟩
      | glob g' cs' =>
        obtain ⟨s0, s00, cur', e', fz', s1, s2, s3⟩ := hor
        exact ⟨s0, s00, cur', e', fz', by rw [hkeep b' hl' hne]; exact s1, s2, fun i c v k1 k2 => (s3 i c v k1 k2).later hT.later⟩
  refine ⟨cv, v, h, β, rfl, ⟨rfl, rfl⟩, hSS, hres cv w' β0 hs0 hv0 (fun x hx => ?_) hkeep, hT⟩
  rcases ht.live x hx with h2 | h2
  · exact .inl ((hll x).1 h2)
  · exact .inr h2

/-- arguments in which nothing owned occurs -/
theorem frameGV {P : Program} {f g n : Nat} {args cs : List AV} {v0 v : AV} {h0 : AH} (hc : CallD P f args (gBase g cs) v0 h0) (hg0 : gOk g cs h0 = true) (hpl : cs.all plainAV = true) (hcl : clsL 0 args = true) (hf : fzF false 0 h0 n v0 = some v) {h : AH} (hgh : h.H.get g = some (.glob g cs)) : CallD P f args h v h := by
  refine ⟨hc.1, fun own β w cargs hs hRL => ?_⟩
  have hlg : LL own β h.H g := by
    obtain ⟨b, base, hb, _, _, hbg, _⟩ := hs.obj g _ hgh
    exact .inr ⟨g, _, base, hgh, by rw [hb, hbg]⟩
  refine frameV hc hg0 hpl hgh hs (fun b => LL own β h.H b ∧ b ≠ g) (fun b hb => hs.ll hb.1) (fun hh => hh.2 rfl) (fun βr hL => ?_) (fun cv w' β0 hs0 hv0 hlv hkeep => ?_)
  · have heq : LL (fun b => LL own β h.H b ∧ b ≠ g) βr (gBase g cs).H = LL own β h.H := by
      funext b
      apply propext
      rw [hL b]
      constructor
      · rintro (h1 | h1)
        · exact h1.1
        · rw [h1]; exact hlg
      · intro h1
        by_cases hb : b = g
        · exact .inr hb
        · exact .inl ⟨h1, hb⟩
    rw [heq]
    exact ⟨hRL.1, fun i c v h1 h2 => clsL_ok (K := 0) (fun i hi => absurd hi (Nat.not_lt_zero _)) args hcl i c h1 v (hRL.2 i c v h1 h2)⟩
  · refine VR.frzK hs0 (K := 0) (fun id cs' b base hgc hbc hl => ?_) (fun _ b hb hl => ?_) (fun i hi => absurd hi (Nat.not_lt_zero _)) n v0 v hf cv hv0
    · rcases hlv b ⟨id, _, base, hgc, hbc⟩ with rfl | h2
      · obtain ⟨b1, ba1, hb1, _, _, hbg1, _⟩ := hs0.obj b _ (gOk_get hg0)
        have := hs0.inj id b _ _ b base ba1 hgc (gOk_get hg0) hbc (by rw [hb1, hbg1])
        subst this
        rw [gOk_get hg0] at hgc; cases hgc
      · have := hs.ll hl; omega
    · by_cases hbg : b = g
      · subst hbg
        obtain ⟨b1, ba1, hb1, _, _, hbg1, _⟩ := hs0.obj b _ (gOk_get hg0)
        exact hb (.inr ⟨b, _, ba1, gOk_get hg0, by rw [hb1, hbg1]⟩)
      · exact hb (.inl ⟨hl, hbg⟩)

/-- arguments that can be taken as frozen; the result reaches nothing that was there -/
theorem frameFV {P : Program} {f g n m : Nat} {args pargs cs : List AV} {v0 v : AV} {h0 : AH} (hc : CallD P f pargs (gBase g cs) v0 h0) (hg0 : gOk g cs h0 = true) (hpl : cs.all plainAV = true) (hf : fzF true 0 h0 n v0 = some v) {h : AH} (hgh : h.H.get g = some (.glob g cs)) (ha : fzL false 0 h m args = some pargs) : CallD P f args h v h := by
  refine ⟨hc.1, fun own β w cargs hs hRL => ?_⟩
  refine frameV hc hg0 hpl hgh hs (fun _ => False) (fun b hb => hb.elim) (fun hh => hh) (fun βr hL => ?_) (fun cv w' β0 hs0 hv0 hlv hkeep => ?_)
  · have hlen := fzL_len m args pargs ha
    have hng : ∀ b, ¬ LL (fun _ => False) βr (gBase g cs).H b ∨ b = g := fun b => by
      by_cases hb : b = g
      · exact .inr hb
      · exact .inl fun h1 => by rcases (hL b).1 h1 with h2 | h2; exact h2; exact hb h2
    refine ⟨by rw [hlen]; exact hRL.1, fun i d v h1 h2 => ?_⟩
    obtain ⟨c, hc'⟩ := get_of_len hlen.symm h1
    refine VR.frzKL hs (K := 0) (fun id cs' b base hgc hbc hl => ?_) (fun _ b hb hl => ?_) (fun i hi => absurd hi (Nat.not_lt_zero _)) m args pargs ha i c d hc' h1 v (hRL.2 i c v hc' h2)
    · rcases (hL b).1 hl with h3 | rfl
      · exact h3
      · obtain ⟨b1, ba1, hb1, _, _, hbg1, _⟩ := hs.obj b _ hgh
        have := hs.inj id b _ _ b base ba1 hgc hgh hbc (by rw [hb1, hbg1])
        subst this
        rw [hgh] at hgc; cases hgc
    · rcases (hL b).1 hl with h3 | rfl
      · exact h3
      · obtain ⟨b1, ba1, hb1, _, _, hbg1, _⟩ := hs.obj b _ hgh
        exact hb (.inr ⟨b, _, ba1, hgh, by rw [hb1, hbg1]⟩)
  · refine VR.frzK hs0 (K := 0) (fun id cs' b base hgc hbc hl => ?_) (fun hn => by cases hn) (fun i hi => absurd hi (Nat.not_lt_zero _)) n v0 v hf cv hv0
    rcases hlv b ⟨id, _, base, hgc, hbc⟩ with rfl | h2
    · obtain ⟨b1, ba1, hb1, _, _, hbg1, _⟩ := hs0.obj b _ (gOk_get hg0)
      have := hs0.inj id b _ _ b base ba1 hgc (gOk_get hg0) hbc (by rw [hb1, hbg1])
      subst this
      rw [gOk_get hg0] at hgc; cases hgc
    · have := hs.ll hl; omega

def PVOk (P : Program) (g : Nat) (cs : List AV) (e : PE) : Prop := ∀ h : AH, h.H.get g = some (.glob g cs) → CallD P e.f e.args h e.v h
def GVOk (P : Program) (g : Nat) (cs : List AV) (e : PE) : Prop := ∀ (m : Nat) (args : List AV) (h : AH), h.H.get g = some (.glob g cs) → fzL false 0 h m args = some e.args → CallD P e.f args h e.v h
section
variable {P : Program} {g : Nat} {cs : List AV}
end
end Go.Eng
end
noncomputable section
namespace Go.Proofs.YtfpcmkpfdjnhnaaGreatDoor
open Go.Eng
/-! slices.IndexFunc where the function asks for a key that is empty: there is none. -/
theorem c105 {h : AH} {v0 v2 : AV} {a : Nat} (hc : h.cellsAt a = some [.str []]) : CallD Tryz.prog 105 [v0, .ptr a 0, v2] h (.bool false) ⟨h.H, h.nx + 14⟩ := by
  refine C105 (tb_ok []) ?_
  simp (disch := first | (simp; done) | omega | (simp only [nx_add, nx_set, nx_kill, nx_mk, nx_emp]; omega) | fail) [g105, hc]
  simp (disch := first | (simp; done) | omega | (simp only [nx_add, nx_set, nx_kill, nx_mk, nx_emp]; omega) | fail) [g105_s1, hc]
def qe105 : QE Tryz.prog := ⟨105, fun args h Q => ∃ v0 v2 a, args = [v0, .ptr a 0, v2] ∧ h.cellsAt a = some [.str []] ∧ Q (.bool false) ⟨h.H, h.nx + 14⟩, fun args h Q ⟨v0, v2, a, h1, h2, h3⟩ => by
  subst h1; exact ⟨_, _, c105 h2, h3⟩⟩
def ixI (id off len a : Nat) (p : AV) (h : AH) (k : Nat) (vs : List AV) (h' : AH) : Prop := ∃ i : Nat, i ≤ len ∧ k = len - i ∧ vs = [.rsl id off len 1, .func (.func 105) [] [.ptr a 0, p], .int .i64 len, .int .i64 i] ∧ h' = ⟨h.H, h.nx + 14 * i⟩
theorem c104 {h : AH} {id off len a : Nat} {p : AV} {cs : List AV} (hc : h.cellsAt a = some [.str []]) (hs : h.cellsAt id = some cs) (hl : off + len ≤ cs.length) (hb : len ≤ 1000000) : CallD Tryz.prog 104 [.rsl id off len 1, .func (.func 105) [] [.ptr a 0, p]] h (.int .i64 (-1)) ⟨h.H, h.nx + 14 * len⟩ := by
  refine C104 (tb_ok [qe105]) ?_
  simp (disch := first | (simp; done) | omega | (simp only [nx_add, nx_set, nx_kill, nx_mk, nx_emp]; omega) | fail) [g104]
  refine ⟨ixI id off len a p h, len, ⟨0, by omega, by omega, rfl, rfl⟩, ?_⟩
  rintro k vs h' ⟨i, hi, rfl, rfl, rfl⟩
  by_cases hlt : i < len
  · have hq : cs[off + i]? = some cs[off + i] := List.getElem?_eq_getElem (by omega)
    simp (disch := first | (simp; done) | omega | (simp only [nx_add, nx_set, nx_kill, nx_mk, nx_emp]; omega) | fail) [g104_l1, hlt]
    have h1 : (⟨h.H, h.nx + 14 * i⟩ : AH).cellsAt id = some cs := hs
    have h2 : (⟨h.H, h.nx + 14 * i⟩ : AH).cellsAt a = some [.str []] := hc
    rw [kIdxA_rsl (by omega) (by omega)]
    simp only [wk]
    have h3 : cs[off + (i : Int).toNat * 1]? = some cs[off + i] := by
      rw [show off + (i : Int).toNat * 1 = off + i by omega]; exact hq
    rw [kLd1_ptr h1 h3]
    simp only [wk]
    rw [tb_here qe105 [] 105 _ _ _ rfl]
    refine ⟨_, p, a, rfl, h2, ?_⟩
    simp only [wif]
    refine ⟨fun hh => Bool.noConfusion hh, fun _ => ⟨len - (i + 1), by omega, i + 1, by omega, rfl, rfl, ?_⟩⟩
    show (⟨h.H, h.nx + 14 * i + 14⟩ : AH) = _
    congr 1
  · obtain rfl : i = len := by omega
    simp (disch := first | (simp; done) | omega | (simp only [nx_add, nx_set, nx_kill, nx_mk, nx_emp]; omega) | fail) [g104_l1, g104_j3, g104_c2]
def ixH : Handler := fun f args h => cond (Nat.beq f 104) (match args with
  | [.rsl id off len z, .func (.func g) [] [.ptr a o, _]] => cond (Nat.beq z 1 && Nat.beq g 105 && Nat.beq o 0 && Nat.ble len 1000000) (match h.cellsAt a, h.cellsAt id with
    | some [.str []], some cs => cond (Nat.ble (off + len) cs.length) (some (.int .i64 (-1), ⟨h.H, h.nx + 14 * len⟩)) none
    | _, _ => none) none
  | _ => none) none
theorem ixH_ok : FOk Tryz.prog ixH := by
  intro f args h v h' ha
  unfold ixH at ha
  cases hf : Nat.beq f 104 with
  | false => rw [hf] at ha; cases ha
  | true =>
  rw [hf] at ha
  obtain rfl := Nat.eq_of_beq_eq_true hf
  simp only [cond_true] at ha
  split at ha
  case h_2 => cases ha
  rename_i id off len z g a o p
  cases hq : (Nat.beq z 1 && Nat.beq g 105 && Nat.beq o 0 && Nat.ble len 1000000) with
  | false => rw [hq] at ha; cases ha
  | true =>
  rw [hq] at ha
  simp only [cond_true] at ha
  simp only [Bool.and_eq_true] at hq
  obtain rfl := Nat.eq_of_beq_eq_true hq.1.1.1
  obtain rfl := Nat.eq_of_beq_eq_true hq.1.1.2
  obtain rfl := Nat.eq_of_beq_eq_true hq.1.2
  have hb := Nat.le_of_ble_eq_true hq.2
  split at ha
  case h_2 => cases ha
  rename_i cs h1 h2
  cases hw : Nat.ble (off + len) cs.length with
  | false => rw [hw] at ha; cases ha
  | true =>
  rw [hw] at ha
  cases ha
  exact c104 h1 h2 (Nat.le_of_ble_eq_true hw) hb
end Go.Proofs.YtfpcmkpfdjnhnaaGreatDoor
end
noncomputable section
namespace Go.Eng
variable {P : Program}
def hor (a b : Handler) : Handler := fun f args h => orb (a f args h) (b f args h)
theorem hor_ok {a b : Handler} (ha : FOk P a) (hb : FOk P b) : FOk P (hor a b) := by
  intro f args h v h' hh
  unfold hor orb at hh
  split at hh
  · rename_i r hr; cases hh; exact ha _ _ _ _ _ hr
  · exact hb _ _ _ _ _ hh
end Go.Eng
end
