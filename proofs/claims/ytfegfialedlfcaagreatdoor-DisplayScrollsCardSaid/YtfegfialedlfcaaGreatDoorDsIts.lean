/- Reading a map whose keys are numbers, written for the kernel; it is equal to the engine's operation. Closed runs over code as data: what they answer holds of every call. Short words for functions as data. An iterator of slices of small numbers: what it is. -/
import Derived.Test.YtfegfialedlfcaaGreatDoorEngDF
import Derived.Test.YtfegfialedlfcaaGreatDoorEngT
set_option linter.unusedSimpArgs false
set_option linter.unusedVariables false
set_option linter.unnecessarySimpa false
noncomputable section
namespace Go.Eng
/-- the number of a kind of number -/
def kiN (k : IntKind) : Nat := IntKind.rec (motive := fun _ => Nat) 0 1 2 3 4 5 6 7 k
theorem kiN_inj {a b : IntKind} (h : Nat.beq (kiN a) (kiN b) = true) : a = b := by
  have h1 := Nat.eq_of_beq_eq_true h
  cases a <;> cases b <;> first | rfl | (simp [kiN] at h1)
def ieq (a b : Int) : Bool := Int.rec (motive := fun _ => Int → Bool) (fun n b => Int.rec (motive := fun _ => Nat → Bool) (fun m n => Nat.beq n m) (fun _ _ => false) b n) (fun n b => Int.rec (motive := fun _ => Nat → Bool) (fun _ _ => false) (fun m n => Nat.beq n m) b n) a b
theorem ieq_eq (a b : Int) : ieq a b = decide (a = b) := by
  have hb : ∀ a b : Nat, Nat.beq a b = decide (a = b) := fun a b => by
    cases hq : Nat.beq a b
    · exact (decide_eq_false (Nat.ne_of_beq_eq_false hq)).symm
    · exact (decide_eq_true (Nat.eq_of_beq_eq_true hq)).symm
  cases a with
  | ofNat n => cases b with
    | ofNat m => show Nat.beq n m = _; rw [hb]; simp; omega
    | negSucc m => show false = _; simp
  | negSucc n => cases b with
    | ofNat m => show false = _; simp
    | negSucc m => show Nat.beq n m = _; rw [hb]; simp
/-- the value at a number; D: there is none; F: a key of another kind -/
def kfI (kn : Nat) (n : Int) (F D : XR) (K : AV → XR) (l : List (AV × AV)) : XR := List.rec (motive := fun _ => XR) D
  (fun e _ ih => Prod.rec (motive := fun _ => XR) (fun a v => vInt a (fun k m => Bool.rec (motive := fun _ => XR) F (Bool.rec (motive := fun _ => XR) ih (K v) (ieq n m)) (Nat.beq (kiN k) kn)) F) e) l
theorem kfI_eq {k : IntKind} {n : Int} {X F D : XR} {K : AV → XR} (l : List (AV × AV)) (hF : F = X) (i : Nat)
    (hX : (match kfind (.one (.int k)) (.int k n) l i with | some (some r) => K r.2 | some none => D | none => X) = X) : kfI (kiN k) n F D K l = X := by
  induction l generalizing i with
  | nil => exact hX
  | cons e l ih =>
    obtain ⟨a, v⟩ := e
    show vInt a _ _ = X
    cases a <;> try exact hF
    rename_i k' m
    show Bool.rec (motive := fun _ => XR) F (Bool.rec (motive := fun _ => XR) (kfI (kiN k) n F D K l) (K v) (ieq n m)) (Nat.beq (kiN k') (kiN k)) = X
    cases hb : Nat.beq (kiN k') (kiN k) with
    | false => exact hF
    | true =>
      obtain rfl := kiN_inj hb
      show Bool.rec (motive := fun _ => XR) (kfI (kiN k') n F D K l) (K v) (ieq n m) = X
      rw [ieq_eq]
      by_cases he : n = m
      · subst he
        simp only [decide_true]
        rw [← hX]
        simp [kfind, keyOf, keyS, keq, keqS, kd, kdS]
      · simp only [he, decide_false]
        refine ih (i + 1) ?_
        have e : kfind (.one (.int k')) (.int k' n) ((.int k' m, v) :: l) i = kfind (.one (.int k')) (.int k' n) l (i + 1) := by
          simp [kfind, keyOf, keyS, keq, keqS, kd, kdS, he]
        rw [e] at hX
        exact hX
def vMap (m : AV) (K : Nat → XR) (D : XR) : XR := AV.rec (motive_1 := fun _ => (Nat → XR) → XR → XR) (motive_2 := fun _ => Unit) (motive_3 := fun _ => Unit)
  (fun _ d => d) (fun _ => fun _ d => d) (fun _ _ => fun _ d => d) (fun _ => fun _ d => d) (fun _ _ => fun _ d => d) (fun _ _ => fun _ d => d) (fun _ _ => fun _ d => d) (fun _ d => d) (fun _ _ => fun _ d => d) (fun _ _ => fun _ d => d) (fun _ d => d) (fun _ d => d) (fun _ _ => fun _ d => d) (fun _ _ _ _ => fun _ d => d) (fun a => fun K _ => K a) (fun _ d => d) (fun _ _ _ _ _ => fun _ d => d) (fun _ d => d) (fun _ d => d) (fun _ _ _ => fun _ d => d) (fun _ _ _ _ _ _ => fun _ d => d) (fun _ _ _ _ _ _ _ _ => fun _ d => d) (fun _ _ => fun _ d => d) (fun _ _ _ _ _ => fun _ d => d) (fun _ _ _ => fun _ d => d) () (fun _ _ _ _ => ()) () (fun _ _ _ _ => ()) m K D
def obMap (o : Option AObj) (K : List (AV × AV) → XR) (D : XR) : XR := Option.rec (motive := fun _ => XR) D (fun o => AObj.rec (motive := fun _ => XR) (fun _ => D) (fun kvs => K kvs) (fun _ _ => D) (fun _ _ => D) (fun _ _ => D) o) o
def skI (k : SK) (K : IntKind → XR) (D : XR) : XR := SK.rec (motive := fun _ => XR) D (fun k => K k) D k
def mkO (k : MK) (K : SK → XR) (D : XR) : XR := MK.rec (motive := fun _ => XR) (fun k => K k) (fun _ => D) k
/-- a map read at a number, F: the long way -/
def ygetI (h : AH) (k : MK) (ok : Bool) (zero : AV) (m key : AV) (F : XR) : XR :=
  mkO k (fun sk => skI sk (fun ik => vInt key (fun k' n => Bool.rec (motive := fun _ => XR) F
    (vMap m (fun id => obMap (pmg (path id) h.H) (fun kvs => kfI (kiN ik) n F (Bool.rec (motive := fun _ => XR) (some (zero, h)) (some (.tup [zero, .bool false], h)) ok) (fun v => Bool.rec (motive := fun _ => XR) (some (v, h)) (some (.tup [v, .bool true], h)) ok) kvs) F) F) (Nat.beq (kiN k') (kiN ik))) F) F) F
theorem ygetI_eq (h : AH) (k : MK) (ok : Bool) (zero : AV) (m key : AV) (F : XR) (hF : F = kX h (.mapget k ok zero) [m, key]) : ygetI h k ok zero m key F = kX h (.mapget k ok zero) [m, key] := by
  cases k with
  | st ks => exact hF
  | one sk =>
    cases sk <;> try exact hF
    rename_i ik
    cases key <;> try exact hF
    rename_i k' n
    show Bool.rec (motive := fun _ => XR) F (vMap m _ F) (Nat.beq (kiN k') (kiN ik)) = _
    cases hb : Nat.beq (kiN k') (kiN ik) with
    | false => exact hF
    | true =>
      obtain rfl := kiN_inj hb
      cases m <;> try exact hF
      rename_i id
      show obMap (pmg (path id) h.H) _ F = _
      rw [pmg_eq]
      cases hg : h.H.get id with
      | none => exact hF
      | some o =>
        cases o <;> try exact hF
        rename_i kvs
        simp only [obMap]
        have hm : amap h (.mapv id) = some kvs := by show h.mapAt id = _; unfold AH.mapAt; rw [hg]
        have hk : keyOf (.one (.int k')) (.int k' n) = true := by simp [keyOf, keyS]
        refine kfI_eq kvs hF 0 ?_
        show _ = kX h (.mapget (.one (.int k')) ok zero) [.mapv id, .int k' n]
        simp only [kX, hk, if_true, hm]
        cases hf : kfind (.one (.int k')) (.int k' n) kvs 0 with
        | none => rfl
        | some r =>
          cases r with
          | none => cases ok <;> rfl
          | some r => cases ok <;> rfl
def two (l : List AV) (K : AV → AV → XR) (D : XR) : XR := List.rec (motive := fun _ => XR) D (fun a t _ => List.rec (motive := fun _ => XR) D (fun b u _ => List.rec (motive := fun _ => XR) (K a b) (fun _ _ _ => D) u) t) l
def yX (h : AH) (k : XK) (args : List AV) : XR := XK.rec (motive := fun _ => XR → XR) (fun F => F) (fun F => F) (fun F => F) (fun F => F) (fun _ F => F) (fun k ok zero F => two args (fun m key => ygetI h k ok zero m key F) F) (fun _ _ F => F) (fun F => F) (fun F => F) (fun F => F) (fun _ _ _ F => F) (fun _ _ F => F) (fun _ _ F => F) (fun _ F => F) (fun F => F) (fun F => F) (fun _ F => F) k (kX h k args)
theorem yX_eq (h : AH) (k : XK) (args : List AV) : yX h k args = kX h k args := by
  cases k <;> try rfl
  rename_i k ok zero
  match args with
  | [] => rfl
  | [_] => rfl
  | _ :: _ :: _ :: _ => rfl
  | [m, key] => exact ygetI_eq h k ok zero m key _ rfl
end Go.Eng
end
noncomputable section
namespace Go.Eng
/-! ## registers -/
inductive RF where
  | leaf
  | node (v : AV) (l r : RF)
def RF.get (p : PA) : RF → AV :=
  PA.rec (motive := fun _ => RF → AV) (fun R => RF.rec (motive := fun _ => AV) .undef (fun v _ _ _ _ => v) R)
    (fun _ ih R => RF.rec (motive := fun _ => AV) .undef (fun _ a _ _ _ => ih a) R)
    (fun _ ih R => RF.rec (motive := fun _ => AV) .undef (fun _ _ b _ _ => ih b) R) p
def RF.put (p : PA) : AV → RF → RF :=
  PA.rec (motive := fun _ => AV → RF → RF) (fun v R => RF.rec (motive := fun _ => RF) (.node v .leaf .leaf) (fun _ a b _ _ => .node v a b) R)
    (fun _ ih v R => RF.rec (motive := fun _ => RF) (.node .undef (ih v .leaf) .leaf) (fun u a b _ _ => .node u (ih v a) b) R)
    (fun _ ih v R => RF.rec (motive := fun _ => RF) (.node .undef .leaf (ih v .leaf)) (fun u a b _ _ => .node u a (ih v b)) R) p
theorem RF.get_leaf : ∀ p : PA, RF.get p .leaf = .undef
  | .h => rfl
  | .l _ => rfl
  | .r _ => rfl
theorem RF.get_put : ∀ (p q : PA) (v : AV) (R : RF), RF.get p (RF.put q v R) = if p = q then v else RF.get p R
  | .h, .h, v, R => by cases R <;> rfl
  | .h, .l q, v, R => by cases R <;> rfl
  | .h, .r q, v, R => by cases R <;> rfl
  | .l p, .h, v, R => by cases R <;> first | rfl | exact RF.get_leaf p
  | .r p, .h, v, R => by cases R <;> first | rfl | exact RF.get_leaf p
  | .l p, .r q, v, R => by cases R <;> first | rfl | exact RF.get_leaf p
  | .r p, .l q, v, R => by cases R <;> first | rfl | exact RF.get_leaf p
  | .l p, .l q, v, R => by
    cases R with
    | leaf =>
      show RF.get p (RF.put q v .leaf) = _
      rw [RF.get_put p q v .leaf, RF.get_leaf p]
      by_cases hh : p = q <;> simp [hh] <;> rfl
    | node u a b =>
      show RF.get p (RF.put q v a) = _
      rw [RF.get_put p q v a]
      by_cases hh : p = q <;> simp [hh] <;> rfl
  | .r p, .r q, v, R => by
    cases R with
    | leaf =>
      show RF.get p (RF.put q v .leaf) = _
      rw [RF.get_put p q v .leaf, RF.get_leaf p]
      by_cases hh : p = q <;> simp [hh] <;> rfl
    | node u a b =>
      show RF.get p (RF.put q v b) = _
      rw [RF.get_put p q v b]
      by_cases hh : p = q <;> simp [hh] <;> rfl
/-- the registers are those -/
def Rel (R : RF) (T : Tm) : Prop := ∀ t, (T.get t).getD .undef = RF.get (path t) R
theorem Rel.put {R : RF} {T : Tm} (h : Rel R T) (d : Nat) (v : AV) : Rel (RF.put (path d) v R) (T.put d v) := by
  intro t
  rw [Tm.get_put, RF.get_put]
  by_cases hh : t = d
  · subst hh; simp
  · rw [if_neg hh, if_neg fun e => hh (path_inj e)]; exact h t
theorem Rel.leaf : Rel .leaf .leaf := fun t => by rw [RF.get_leaf]; rfl

/-! ## operations -/
def xe (x : Opd) : RF → AV := Opd.rec (motive := fun _ => RF → AV) (fun t R => RF.get (path t) R) (fun v _ => v) x
def xel (l : List Opd) : RF → List AV := List.rec (motive := fun _ => RF → List AV) (fun _ => []) (fun x _ ih R => xe x R :: ih R) l
def xeP (l : List (Nat × Nat × Opd)) : RF → List (Nat × Nat × AV) := List.rec (motive := fun _ => RF → List (Nat × Nat × AV)) (fun _ => []) (fun x _ ih R => (x.1, x.2.1, xe x.2.2 R) :: ih R) l
def xeO (o : Option Opd) : RF → Option AV := Option.rec (motive := fun _ => RF → Option AV) (fun _ => none) (fun x R => some (xe x R)) o
theorem xe_eq {R : RF} {T : Tm} (h : Rel R T) (x : Opd) : xe x R = x.ev T := by
  cases x with
  | tmp t => exact (h t).symm
  | const v => rfl
theorem xel_eq {R : RF} {T : Tm} (h : Rel R T) (l : List Opd) : xel l R = l.map (·.ev T) := by
  induction l with
  | nil => rfl
  | cons x l ih => show xe x R :: xel l R = _; rw [xe_eq h, ih]; rfl
theorem xeP_eq {R : RF} {T : Tm} (h : Rel R T) (l : List (Nat × Nat × Opd)) : xeP l R = evP T l := by
  induction l with
  | nil => rfl
  | cons x l ih => show (x.1, x.2.1, xe x.2.2 R) :: xeP l R = _; rw [xe_eq h, ih]; rfl
theorem xeO_eq {R : RF} {T : Tm} (h : Rel R T) (o : Option Opd) : xeO o R = o.map (·.ev T) := by
  cases o with
  | none => rfl
  | some x => show some (xe x R) = _; rw [xe_eq h]; rfl
def xop (op : AOp) : Handler → RF → AH → Option (AV × AH) :=
  AOp.rec (motive := fun _ => Handler → RF → AH → Option (AV × AH))
    (fun x _ R h => some (xe x R, h))
    (fun c a b _ R h => yPick h (xe c R) (xe a R) (xe b R))
    (fun zero _ _ h => yNew h zero)
    (fun x _ R h => yBox h (xe x R))
    (fun zero parts _ R h => yBuild h zero (xeP parts R))
    (fun z len zero parts _ R h => yBuildSl h z len zero (xeP parts R))
    (fun a _ R h => yLd1 h (xe a R))
    (fun n a _ R h => yLdn h n (xe a R))
    (fun n a x _ R h => ySt h n (xe a R) (xe x R))
    (fun x _ R h => yNilchk h (xe x R))
    (fun op x y _ R h => yArith h op (xe x R) (xe y R))
    (fun neg x y _ R h => kEqs h neg (xe x R) (xe y R))
    (fun k neg x y _ R h => yEqn h k neg (xe x R) (xe y R))
    (fun neg ks x y _ R h => kEqf h neg ks (xe x R) (xe y R))
    (fun op x _ R h => yUn h op (xe x R))
    (fun k x _ R h => kConvI h k (xe x R))
    (fun off n x _ R h => yFld h off n (xe x R))
    (fun off x _ R h => yFldA h off (xe x R))
    (fun z x i _ R h => yIdxA h z (xe x R) (xe i R))
    (fun len z x i _ R h => kIdxArrA h len z (xe x R) (xe i R))
    (fun len z n x i _ R h => kIdx h len z n (xe x R) (xe i R))
    (fun x i _ R h => kIdxS h (xe x R) (xe i R))
    (fun z x lo hi mx _ R h => ySl h z (xe x R) (xeO lo R) (xeO hi R) (xeO mx R))
    (fun x lo hi _ R h => kSlS h (xe x R) (xeO lo R) (xeO hi R))
    (fun x _ R h => yLen h (xe x R))
    (fun x _ R h => kLenS h (xe x R))
    (fun x _ R h => kConvS h (xe x R))
    (fun n _ _ h => kLenc h n)
    (fun z bytes s x _ R h => yApp h z bytes (xe s R) (xe x R))
    (fun z d s _ R h => kCopy h z (xe d R) (xe s R))
    (fun mx x y _ R h => kMnmx h mx (xe x R) (xe y R))
    (fun x i _ R h => yExt h (xe x R) i)
    (fun fn first captured _ R h => kMkf h fn (xel first R) (xel captured R))
    (fun z bytes zero l c _ R h => kMksl h z bytes zero (xe l R) (xe c R))
    (fun f args cl R h => yCall cl h (xe f R) (xel args R))
    (fun k args _ R h => yX h k (xel args R))
    (fun _ _ _ => none) op
theorem xop_eq {R : RF} {T : Tm} (hR : Rel R T) (op : AOp) (cl : Handler) (h : AH) : xop op cl R h = aop cl T h op := by
  cases op <;> simp only [aop, ← xel_eq hR, ← xeP_eq hR, ← xeO_eq hR] <;> (try simp only [← xe_eq hR]) <;> (try simp only [← yPick_eq, ← yNew_eq, ← yBox_eq, ← yBuild_eq, ← yBuildSl_eq, ← yLd1_eq, ← yLdn_eq, ← ySt_eq, ← yNilchk_eq, ← yArith_eq, ← yEqn_eq, ← yUn_eq, ← yFld_eq, ← yFldA_eq, ← yIdxA_eq, ← ySl_eq, ← yLen_eq, ← yApp_eq, ← yExt_eq, ← yCall_eq, ← yX_eq]) <;> rfl
def xgd (g : Option (Nat × Bool)) : RF → Option Bool := Option.rec (motive := fun _ => RF → Option Bool) (fun _ => some true) (fun p R => gdv p.2 (RF.get (path p.1) R)) g
theorem xgd_eq {R : RF} {T : Tm} (hR : Rel R T) (g : Option (Nat × Bool)) : xgd g R = gd T g := by
  cases g with
  | none => rfl
  | some p =>
    obtain ⟨t, b⟩ := p
    show gdv b (RF.get (path t) R) = _
    rw [← hR t]
    cases hT : T.get t with
    | none => simp [gd, gdv, hT]
    | some v =>
      simp only [gd, gdv, hT, Option.getD_some]
      cases v <;> first | rfl | (rename_i l; cases l <;> rfl)
def xput (d : Option Nat) : AV → RF → RF := Option.rec (motive := fun _ => AV → RF → RF) (fun _ R => R) (fun t v R => RF.put (path t) v R) d
theorem Rel.xput {R : RF} {T : Tm} (h : Rel R T) (d : Option Nat) (v : AV) : Rel (xput d v R) (tput T d v) := by
  cases d with
  | none => exact h
  | some d => exact h.put d v

/-! ## code -/
def xfst (r : Option (AV × AH)) : (AV → AH → XR) → XR := Option.rec (motive := fun _ => (AV → AH → XR) → XR) (fun _ => none) (fun p => Prod.rec (motive := fun _ => (AV → AH → XR) → XR) (fun v h k => k v h) p) r
def xwg (g : Option Bool) (y n : XR) : XR := Option.rec (motive := fun _ => XR) none (fun b => cond b y n) g
def xops (cl : Handler) (l : List AOpr) : RF → AH → (RF → AH → XR) → XR :=
  List.rec (motive := fun _ => RF → AH → (RF → AH → XR) → XR) (fun R h k => k R h)
    (fun o _ ih R h k => Option.rec (motive := fun _ => XR) (xfst (xop o.op cl R h) fun v h' => ih (xput o.dst v R) h' k)
      (fun g => xwg (gdv g.2 (RF.get (path g.1) R)) (xfst (xop o.op cl R h) fun v h' => ih (xput o.dst v R) h' k) (ih (xput o.dst skipped R) h k)) o.guard) l
def RF.tm (R : RF) : Tm := fun t => some (RF.get (path t) R)
theorem Rel.tm (R : RF) : Rel R R.tm := fun _ => rfl
def xdop (cl : Handler) (op : AOp) (r : Nat) (R : RF) (h : AH) (k : AV → Rec → AH → XR) : XR :=
  cond (aA op) (match aalloc R.tm op with | some (cs, mk) => k (mk r) (.alloc r cs) (h.set r cs) | none => none)
    (cond (aE op) (xfst (xop op cl R h) fun v h' => cond (Nat.ble h.nx h'.nx) (k v (.eff h h') h') none) (xfst (xop op cl R h) fun v _ => k v (rdK (aRd R.tm op)) h))
def xdops (cl : Handler) (l : List AOpr) : Nat → RF → AH → (List Rec → RF → AH → XR) → XR :=
  List.rec (motive := fun _ => Nat → RF → AH → (List Rec → RF → AH → XR) → XR) (fun _ R h k => k [] R h)
    (fun o _ ih r R h k => Option.rec (motive := fun _ => XR) (xdop cl o.op r R h fun v c h' => ih (Nat.succ r) (xput o.dst v R) h' fun ks => k (c :: ks))
      (fun g => xwg (gdv g.2 (RF.get (path g.1) R)) (xdop cl o.op r R h fun v c h' => ih (Nat.succ r) (xput o.dst v R) h' fun ks => k (c :: ks)) (ih (Nat.succ r) (xput o.dst skipped R) h fun ks => k (.pure :: ks))) o.guard) l
def xdraw (cl : Handler) (ops : List (AOpr × Nat)) (R : RF) (h : AH) (k : RF → AH → XR) : XR :=
  cond (swp ops) none (cond (tmpPairs ops []) (xdops cl (ops.map (·.1)) h.nx R ⟨h.H, Nat.add h.nx ops.length⟩ fun ks R' h' => cond (fchk ks (dynPairs ops 0 [])) (k R' h') none) none)
def tru (v : AV) : Option Bool :=
  match v with
  | .bool b => some b
  | _ => none
def xax (x : AX) (kn : XR) (ke : Nat → XR) (kr : XR) : XR := AX.rec (motive := fun _ => XR) kn ke kr x
def xrit (it : It) (B : AV → AV → AH → (AX → AH → XR) → XR) (ck : AH → Bool) (xl : List (List AV)) (k : AX → AH → XR) (n : Nat) : Nat → AH → XR :=
  Nat.rec (motive := fun _ => Nat → AH → XR) (fun _ h => cond (ck h) (k .nrm h) none)
    (fun _ ih i h => cond (ck h) (match xl[it.pos xl.length i]? with | some x => B (.int .i64 ((it.pos xl.length i : Nat) : Int)) (elV it.en x) h (fun z h' => xax z (ih (Nat.succ i) h') (fun j => k (.exit j) h') (k .ret h')) | none => none) none) n
def xrg (its : List It) (v : AV) (B : AV → AV → AH → (AX → AH → XR) → XR) (h : AH) (k : AX → AH → XR) : XR :=
  match v with
  | .func (.func g) [] [.ptr b o] => cond (Nat.beq o 0) (match itf g its with
    | some it => match h.cellsAt b with
      | some [sl] => match elemsZ h it.z sl with
        | some xl => xrit it B (ckE it.z b sl xl) xl k xl.length 0 h
        | none => none
      | _ => none
    | none => none) none
  | _ => none
def xps (ps : List Nat) (K : Nat → Nat → XR) : XR :=
  match ps with
  | [p, q] => K p q
  | _ => none
def xloop (f : RF → AH → (AX → RF → AH → XR) → XR) (k : AX → RF → AH → XR) (n : Nat) : RF → AH → XR :=
  Nat.rec (motive := fun _ => RF → AH → XR) (fun _ _ => none) (fun _ ih R h => f R h fun x R h => xax x (ih R h) (fun j => k (.exit j) R h) (k .ret R h)) n
def xexec (cl : Handler) (its : List It) (N : Nat) (c : ACode) : RF → AH → (AX → RF → AH → XR) → XR :=
  ACode.rec (motive := fun _ => RF → AH → (AX → RF → AH → XR) → XR)
    (fun R h k => k .nrm R h)
    (fun ops R h k => xops cl ops R h fun R h => k .nrm R h)
    (fun ops R h k => xdraw cl ops R h fun R h => k .nrm R h)
    (fun _ _ iha ihb R h k => iha R h fun x R h => xax x (ihb R h k) (fun j => k (.exit j) R h) (k .ret R h))
    (fun c _ _ iht ihe R h k => xwg (tru (xe c R)) (iht R h k) (ihe R h k))
    (fun id _ ih R h k => ih R h fun x R h => xax x (k .nrm R h) (fun j => cond (Nat.beq j id) (k .nrm R h) (k (.exit j) R h)) (k .ret R h))
    (fun _ ih R h k => xloop ih k N R h)
    (fun id R h k => k (.exit id) R h)
    (fun R h k => k .ret R h)
    (fun _ _ _ => none)
    (fun g ps _ _ iha ihb R h k => xps ps fun p q => xrg its (xe g R) (fun x y h1 k1 => iha (RF.put (path q) y (RF.put (path p) x R)) h1 fun z R1 h2 => xax z (ihb R1 h2 fun z _ h3 => k1 z h3) (fun _ => none) none) h fun z h3 => k z R h3) c
def xres (res : List ARes) (x : AX) (R : RF) (h : AH) : XR :=
  xax x (match ares R.tm h res with | some vs => some (aret vs, h) | none => none) (fun _ => none) (match ares R.tm h res with | some vs => some (aret vs, h) | none => none)
def xinit (l : List AV) : Nat → RF → RF := List.rec (motive := fun _ => Nat → RF → RF) (fun _ R => R) (fun v _ ih i R => ih (Nat.succ i) (RF.put (path i) v R)) l
def xrun (cl : Handler) (its : List It) (N : Nat) (f : AFn) (args : List AV) (h : AH) : XR :=
  cond (Nat.ble args.length f.nt) (xexec cl its N f.body (xinit args 0 .leaf) h (xres f.res)) none
/-! ## the same code, as code of the transformer of predicates -/
def emb (its : List It) : ACode → SCode
  | .skip => .skip
  | .reg ops => .reg ops
  | .draw ops => .draw ops
  | .seq a b => .seq (emb its a) (emb its b)
  | .cond c t e => .cond c (emb its t) (emb its e)
  | .block id b => .block id (emb its b)
  | .loop b => .loopT (emb its b)
  | .exit id => .exit id
  | .ret => .ret
  | .stuck => .stuck
  | .rng g ps a b => .rng its g ps (emb its a) (emb its b)
theorem emb_erase (its : List It) : ∀ c : ACode, (emb its c).erase = c
  | .skip => rfl
  | .reg _ => rfl
  | .draw _ => rfl
  | .seq a b => by simp [emb, SCode.erase, emb_erase its a, emb_erase its b]
  | .cond c t e => by simp [emb, SCode.erase, emb_erase its t, emb_erase its e]
  | .block id b => by simp [emb, SCode.erase, emb_erase its b]
  | .loop b => by simp [emb, SCode.erase, emb_erase its b]
  | .exit _ => rfl
  | .ret => rfl
  | .stuck => rfl
  | .rng g ps a b => by simp [emb, SCode.erase, emb_erase its a, emb_erase its b]

/-! ## it is sound -/
section
variable {P : Program} {cl : Handler}
theorem xfst_some {r : Option (AV × AH)} {k : AV → AH → XR} {a : AV × AH} (h : xfst r k = some a) : ∃ v h', r = some (v, h') ∧ k v h' = some a := by
  cases r with
  | none => cases h
  | some p => exact ⟨p.1, p.2, rfl, h⟩
theorem xwg_some {g : Option Bool} {y n : XR} {a : AV × AH} (h : xwg g y n = some a) : ∃ b, g = some b ∧ (b = true → y = some a) ∧ (b = false → n = some a) := by
  cases g with
  | none => cases h
  | some b => cases b with
    | true => exact ⟨true, rfl, fun _ => h, fun e => (by cases e)⟩
    | false => exact ⟨false, rfl, fun e => (by cases e), fun _ => h⟩
theorem xops_ok (hcl : FOk P cl) {a : AV × AH} : ∀ (l : List AOpr) (R : RF) (T : Tm) (h : AH) (k : RF → AH → XR) (K : Tm → AH → Prop), Rel R T → (∀ R T h, Rel R T → k R h = some a → K T h) → xops cl l R h k = some a → wops (clF P) l T h K
  | [], R, T, h, k, K, hR, hK, hr => hK _ _ _ hR hr
  | ⟨d, op, none⟩ :: l, R, T, h, k, K, hR, hK, hr => by
    have hr' : xfst (xop op cl R h) (fun v h' => xops cl l (xput d v R) h' k) = some a := hr
    obtain ⟨v, h', h1, h2⟩ := xfst_some hr'
    rw [xop_eq hR] at h1
    exact fop_ok hcl h1 (xops_ok hcl l _ _ _ k K (hR.xput d v) hK h2)
  | ⟨d, op, some g⟩ :: l, R, T, h, k, K, hR, hK, hr => by
    have hr' : xwg (xgd (some g) R) (xfst (xop op cl R h) (fun v h' => xops cl l (xput d v R) h' k)) (xops cl l (xput d skipped R) h k) = some a := hr
    obtain ⟨b, hb, h1, h2⟩ := xwg_some hr'
    rw [xgd_eq hR] at hb
    simp only [wops, wg, hb]
    refine ⟨fun e => ?_, fun e => xops_ok hcl l _ _ _ k K (hR.xput d skipped) hK (h2 e)⟩
    obtain ⟨v, h', h3, h4⟩ := xfst_some (h1 e)
    rw [xop_eq hR] at h3
    exact fop_ok hcl h3 (xops_ok hcl l _ _ _ k K (hR.xput d v) hK h4)
theorem aalloc_rel {R : RF} {T : Tm} (hR : Rel R T) (op : AOp) : aalloc R.tm op = aalloc T op := by
  have he : ∀ x : Opd, x.ev R.tm = x.ev T := fun x => by rw [← xe_eq hR x, ← xe_eq (Rel.tm R) x]
  have hp : ∀ ps, evP R.tm ps = evP T ps := fun ps => by rw [← xeP_eq hR ps, ← xeP_eq (Rel.tm R) ps]
  cases op <;> simp only [aalloc, he, afillT_eq, hp]
theorem aRd_rel {R : RF} {T : Tm} (hR : Rel R T) (op : AOp) : aRd R.tm op = aRd T op := by
  have he : ∀ x : Opd, x.ev R.tm = x.ev T := fun x => by rw [← xe_eq hR x, ← xe_eq (Rel.tm R) x]
  cases op <;> simp only [aRd, he]
theorem ares_rel {R : RF} {T : Tm} (hR : Rel R T) (h : AH) : ∀ res : List ARes, ares R.tm h res = ares T h res
  | [] => rfl
  | .tmp t :: r => by
    have e : (R.tm.get t).getD .undef = (T.get t).getD .undef := (hR t).symm
    simp only [ares, ares_rel hR h r, e]
  | .cell t n :: r => by
    have e : (R.tm.get t).getD .undef = (T.get t).getD .undef := (hR t).symm
    simp only [ares, ares_rel hR h r, e]
theorem xdop_ok (hcl : FOk P cl) {a : AV × AH} {op : AOp} {r : Nat} {R : RF} {T : Tm} {h : AH} {k : AV → Rec → AH → XR} {K : AV → Rec → AH → Prop} (hR : Rel R T) (hK : ∀ v c h, k v c h = some a → K v c h) (hr : xdop cl op r R h k = some a) : wdop (clF P) op r T h K := by
  unfold xdop at hr
  unfold wdop
  cases hA : aA op with
  | true =>
    rw [hA, aalloc_rel hR] at hr
    simp only [cond_true] at hr ⊢
    unfold wal
    split at hr
    · rename_i cs mk he
      rw [he]
      exact hK _ _ _ hr
    · cases hr
  | false =>
    rw [hA] at hr
    simp only [cond_false] at hr ⊢
    cases hE : aE op with
    | true =>
      rw [hE] at hr
      simp only [cond_true] at hr
      obtain ⟨v, h', h1, h2⟩ := xfst_some hr
      rw [xop_eq hR] at h1
      cases hb : Nat.ble h.nx h'.nx with
      | false => rw [hb] at h2; cases h2
      | true =>
        rw [hb] at h2
        have hle := Nat.le_of_ble_eq_true hb
        split
        · exact fcall_ok hcl h1 ⟨hle, hK _ _ _ h2⟩
        · rename_i hne
          rw [aop_noH hne] at h1
          simp only [hE, cond_true, h1, wk]
          exact ⟨hle, hK _ _ _ h2⟩
    | false =>
      rw [hE] at hr
      simp only [cond_false] at hr
      obtain ⟨v, h', h1, h2⟩ := xfst_some hr
      rw [xop_eq hR] at h1
      rw [aRd_rel hR] at h2
      split
      · cases hE
      · rename_i hne
        rw [aop_noH hne] at h1
        simp only [hE, cond_false, h1, wk]
        exact hK _ _ _ h2
theorem xdops_ok (hcl : FOk P cl) {a : AV × AH} : ∀ (l : List AOpr) (r : Nat) (R : RF) (T : Tm) (h : AH) (k : List Rec → RF → AH → XR) (K : List Rec → Tm → AH → Prop), Rel R T → (∀ ks R T h, Rel R T → k ks R h = some a → K ks T h) → xdops cl l r R h k = some a → wdops (clF P) l r T h K
  | [], r, R, T, h, k, K, hR, hK, hr => hK _ _ _ _ hR hr
  | ⟨d, op, none⟩ :: l, r, R, T, h, k, K, hR, hK, hr => by
    have hr' : xdop cl op r R h (fun v c h' => xdops cl l (r + 1) (xput d v R) h' fun ks => k (c :: ks)) = some a := hr
    exact xdop_ok hcl hR (fun v c h1 h2 => xdops_ok hcl l (r + 1) _ _ _ _ _ (hR.xput d v) (fun ks R T h hR' h3 => hK _ _ _ _ hR' h3) h2) hr'
  | ⟨d, op, some g⟩ :: l, r, R, T, h, k, K, hR, hK, hr => by
    have hr' : xwg (xgd (some g) R) (xdop cl op r R h (fun v c h' => xdops cl l (r + 1) (xput d v R) h' fun ks => k (c :: ks))) (xdops cl l (r + 1) (xput d skipped R) h fun ks => k (.pure :: ks)) = some a := hr
    obtain ⟨b, hb, h1, h2⟩ := xwg_some hr'
    rw [xgd_eq hR] at hb
    simp only [wdops, wgd, hb]
    exact ⟨fun e => xdop_ok hcl hR (fun v c h1 h2 => xdops_ok hcl l (r + 1) _ _ _ _ _ (hR.xput d v) (fun ks R T h hR' h3 => hK _ _ _ _ hR' h3) h2) (h1 e),
      fun e => xdops_ok hcl l (r + 1) _ _ _ _ _ (hR.xput d skipped) (fun ks R T h hR' h3 => hK _ _ _ _ hR' h3) (h2 e)⟩
theorem xdraw_ok (hcl : FOk P cl) {a : AV × AH} {ops : List (AOpr × Nat)} {R : RF} {T : Tm} {h : AH} {k : RF → AH → XR} {K : Tm → AH → Prop} (hR : Rel R T) (hK : ∀ R T h, Rel R T → k R h = some a → K T h) (hr : xdraw cl ops R h k = some a) : wdraw (clF P) ops T h K := by
  unfold xdraw at hr
  unfold wdraw
  cases hsw : swp ops with
  | true => rw [hsw] at hr; cases hr
  | false =>
  rw [hsw] at hr
  simp only [cond_false] at hr ⊢
  unfold wdraw1
  cases ht : tmpPairs ops [] with
  | false => rw [ht] at hr; cases hr
  | true =>
    rw [ht] at hr
    simp only [cond_true] at hr ⊢
    refine xdops_ok hcl _ _ _ _ _ _ _ hR (fun ks R T h hR' h1 => ?_) hr
    cases hb : fchk ks (dynPairs ops 0 []) with
    | false => rw [hb] at h1; cases h1
    | true => rw [hb] at h1; exact fchk_ok (hK _ _ _ hR' h1) _ hb
theorem xax_ok {a : AV × AH} {x : AX} {kn : XR} {ke : Nat → XR} {kr : XR} {Kn : Prop} {Ke : Nat → Prop} {Kr : Prop} (h : xax x kn ke kr = some a) (hn : kn = some a → Kn) (he : ∀ j, ke j = some a → Ke j) (hr : kr = some a → Kr) : xs x Kn Ke Kr := by
  cases x with
  | nrm => exact hn h
  | exit j => exact he j h
  | ret => exact hr h
theorem xrg_ok {its : List It} {v : AV} {B : AV → AV → AH → (AX → AH → XR) → XR} {h : AH} {k : AX → AH → XR} {a : AV × AH} {BB : AV → AV → AH → (AX → AH → Prop) → Prop} {K : AX → AH → Prop}
    (hB : ∀ x y h1 k1, B x y h1 k1 = some a → ∀ K1 : AX → AH → Prop, (∀ z h2, k1 z h2 = some a → K1 z h2) → BB x y h1 K1) (hK : ∀ x h, k x h = some a → K x h) (hr : xrg its v B h k = some a) : wrg its v BB h K := by
  unfold xrg at hr
  split at hr
  case h_2 => cases hr
  rename_i g b o
  cases hg : Nat.beq o 0 with
  | false => rw [hg] at hr; cases hr
  | true =>
  rw [hg] at hr
  simp only [cond_true] at hr
  have hg2 := Nat.eq_of_beq_eq_true hg
  subst hg2
  split at hr
  case h_2 => cases hr
  rename_i it hit
  obtain ⟨hm, rfl⟩ := itf_some hit
  split at hr
  case h_2 => cases hr
  rename_i sl hsl
  split at hr
  case h_2 => cases hr
  rename_i xl hxl
  have st : ∀ n i h1, xrit it B (ckE it.z b sl xl) xl k (n + 1) i h1 = cond (ckE it.z b sl xl h1) (match xl[it.pos xl.length i]? with | some x => B (.int .i64 ((it.pos xl.length i : Nat) : Int)) (elV it.en x) h1 (fun z h' => xax z (xrit it B (ckE it.z b sl xl) xl k n (i + 1) h') (fun j => k (.exit j) h') (k .ret h')) | none => none) none := fun n i h1 => rfl
  have s0 : ∀ i h1, xrit it B (ckE it.z b sl xl) xl k 0 i h1 = cond (ckE it.z b sl xl h1) (k .nrm h1) none := fun i h1 => rfl
  have hck : ∀ n i h1, xrit it B (ckE it.z b sl xl) xl k n i h1 = some a → ckE it.z b sl xl h1 = true := by
    intro n i h1 he
    cases hb : ckE it.z b sl xl h1 with
    | true => rfl
    | false =>
      exfalso
      cases n with
      | zero => rw [s0, hb] at he; cases he
      | succ n => rw [st, hb] at he; cases he
  refine ⟨it, hm, b, sl, xl, fun i h1 => i ≤ xl.length ∧ xrit it B (ckE it.z b sl xl) xl k (xl.length - i) i h1 = some a, rfl, ⟨Nat.zero_le _, hr⟩, ?_, ?_, ?_⟩
  · rintro i h1 ⟨_, he⟩
    exact ckE_ok (hck _ _ _ he)
  · rintro i h1 x ⟨hi, he⟩ hlt hx
    have hn : xl.length - i = (xl.length - (i + 1)) + 1 := by omega
    have hc := hck _ _ _ he
    rw [hn, st, hc, hx] at he
    simp only [cond_true] at he
    refine hB _ _ _ _ he _ fun z h2 h3 => ?_
    exact xax_ok h3 (fun h4 => ⟨by omega, h4⟩) (fun j h4 => hK _ _ h4) (fun h4 => hK _ _ h4)
  · rintro h1 ⟨_, he⟩
    have hc := hck _ _ _ he
    rw [Nat.sub_self, s0, hc] at he
    exact hK _ _ he
theorem xexec_ok (hcl : FOk P cl) (its : List It) (N : Nat) {a : AV × AH} : ∀ (c : ACode) (R : RF) (T : Tm) (h : AH) (k : AX → RF → AH → XR) (K : AX → Tm → AH → Prop), Rel R T → (∀ x R T h, Rel R T → k x R h = some a → K x T h) → xexec cl its N c R h k = some a → wexec (clF P) (emb its c) T h K := by
  intro c
  induction c with
  | skip => intro R T h k K hR hK hr; exact hK _ _ _ _ hR hr
  | reg ops => intro R T h k K hR hK hr; exact xops_ok hcl _ _ _ _ _ _ hR (fun R T h hR' => hK _ R T h hR') hr
  | draw ops => intro R T h k K hR hK hr; exact xdraw_ok hcl hR (fun R T h hR' => hK _ R T h hR') hr
  | seq x y ihx ihy =>
    intro R T h k K hR hK hr
    have hr' : xexec cl its N x R h (fun x R h => xax x (xexec cl its N y R h k) (fun j => k (.exit j) R h) (k .ret R h)) = some a := hr
    simp only [emb, wexec]
    exact ihx _ _ _ _ _ hR (fun x R T h hR' h1 => xax_ok h1 (fun h2 => ihy _ _ _ _ _ hR' hK h2) (fun j h2 => hK _ _ _ _ hR' h2) (fun h2 => hK _ _ _ _ hR' h2)) hr'
  | cond c t e iht ihe =>
    intro R T h k K hR hK hr
    have hr' : xwg (tru (xe c R)) (xexec cl its N t R h k) (xexec cl its N e R h k) = some a := hr
    obtain ⟨b, hb, h1, h2⟩ := xwg_some hr'
    rw [xe_eq hR] at hb
    have hv : c.ev T = .bool b := by
      unfold tru at hb
      split at hb
      · cases hb; assumption
      · cases hb
    simp only [emb, wexec, wif, hv]
    exact ⟨fun e => iht _ _ _ _ _ hR hK (h1 e), fun e => ihe _ _ _ _ _ hR hK (h2 e)⟩
  | block id b ih =>
    intro R T h k K hR hK hr
    have hr' : xexec cl its N b R h (fun x R h => xax x (k .nrm R h) (fun j => _root_.cond (Nat.beq j id) (k .nrm R h) (k (.exit j) R h)) (k .ret R h)) = some a := hr
    simp only [emb, wexec]
    refine ih _ _ _ _ _ hR (fun x R T h hR' h1 => xax_ok h1 (fun h2 => hK _ _ _ _ hR' h2) (fun j h2 => ?_) (fun h2 => hK _ _ _ _ hR' h2)) hr'
    cases hb : Nat.beq j id with
    | true => rw [hb] at h2; exact hK _ _ _ _ hR' h2
    | false => rw [hb] at h2; exact hK _ _ _ _ hR' h2
  | loop b ih =>
    intro R T h k K hR hK hr
    have hr' : xloop (xexec cl its N b) k N R h = some a := hr
    simp only [emb, wexec, wloopT]
    refine ⟨fun m T h => ∃ R, Rel R T ∧ xloop (xexec cl its N b) k m R h = some a, N, ⟨R, hR, hr'⟩, ?_⟩
    rintro m T1 h1 ⟨R1, hR1, h2⟩
    cases m with
    | zero => cases h2
    | succ m =>
      have h2' : xexec cl its N b R1 h1 (fun x R h => xax x (xloop (xexec cl its N b) k m R h) (fun j => k (.exit j) R h) (k .ret R h)) = some a := h2
      refine ih _ _ _ _ _ hR1 (fun x R T h hR' h3 => ?_) h2'
      cases x with
      | nrm => exact ⟨m, Nat.lt_succ_self m, R, hR', h3⟩
      | exit j => exact hK _ _ _ _ hR' h3
      | ret => exact hK _ _ _ _ hR' h3
  | exit id => intro R T h k K hR hK hr; exact hK _ _ _ _ hR hr
  | ret => intro R T h k K hR hK hr; exact hK _ _ _ _ hR hr
  | stuck => intro R T h k K hR hK hr; cases hr
  | rng g ps x y ihx ihy =>
    intro R T h k K hR hK hr
    have hr' : xps ps (fun p q => xrg its (xe g R) (fun x' y' h1 k1 => xexec cl its N x (RF.put (path q) y' (RF.put (path p) x' R)) h1 fun z R1 h2 => xax z (xexec cl its N y R1 h2 fun z _ h3 => k1 z h3) (fun _ => none) none) h fun z h3 => k z R h3) = some a := hr
    simp only [emb, wexec, wps]
    unfold xps at hr'
    split at hr'
    · rename_i p q
      rw [xe_eq hR] at hr'
      refine xrg_ok (fun x' y' h1 k1 he K1 hK1 => ?_) (fun x h => hK _ _ _ _ hR) hr'
      refine ihx _ _ _ _ _ ((hR.put p x').put q y') (fun z R1 T1 h2 hR1 h3 => xax_ok h3 (fun h4 => ?_) (fun j h4 => by cases h4) (fun h4 => by cases h4)) he
      exact ihy _ _ _ _ _ hR1 (fun z R2 T2 h5 _ h6 => hK1 _ _ h6) h4
    · cases hr'
theorem xinit_rel : ∀ (l : List AV) (i : Nat) (R : RF) (T : Tm), Rel R T → Rel (xinit l i R) (initT l i T)
  | [], _, _, _, h => h
  | v :: l, i, R, T, h => xinit_rel l (i + 1) _ _ (h.put i v)
/-- an entry of a table -/
def XOk (P : Program) (its : List It) (f : Nat) (af : AFn) : Prop := ∃ fn, P.funcs[f]? = some fn ∧ cFn P fn = some af ∧ fn.name ≠ "runtime.NumGoroutine" ∧ (emb its af.body).rok = true ∧ ∀ i, i ∈ (emb its af.body).its → IterOk P i
theorem xrun_ok (hcl : FOk P cl) {its : List It} {N f : Nat} {af : AFn} (ho : XOk P its f af) {args : List AV} {h h' : AH} {v : AV} (hr : xrun cl its N af args h = some (v, h')) : CallD P f args h v h' := by
  obtain ⟨fn, h1, h2, h3, h4, h5⟩ := ho
  refine wfn_ok (sf := ⟨af.nt, af.res, emb its af.body⟩) clF_ok h1 (by rw [h2]; simp [SFn.erase, emb_erase]) h3 h4 h5 ?_
  unfold xrun at hr
  unfold wrun
  cases hb : Nat.ble args.length af.nt with
  | false => rw [hb] at hr; cases hr
  | true =>
    rw [hb] at hr
    simp only [cond_true] at hr ⊢
    refine xexec_ok hcl its N _ _ _ _ _ _ (xinit_rel args 0 _ _ Rel.leaf) (fun x R T h1 hR h2 => ?_) hr
    unfold xres at h2
    unfold wfin
    have key : (match ares R.tm h1 af.res with | some vs => some (aret vs, h1) | none => none) = some (v, h') → wres (ares T h1 af.res) h1 (fun v1 h1 => v1 = v ∧ h1 = h') := by
      intro hq
      rw [ares_rel hR] at hq
      split at hq
      · rename_i vs hvs
        rw [hvs]
        cases hq; exact ⟨rfl, rfl⟩
      · cases hq
    exact xax_ok h2 key (fun j h3 => by cases h3) key
end
/-- a table of functions -/
inductive XT where
  | leaf
  | one (k : Nat) (a : AFn)
  | node (m : Nat) (l r : XT)
def XT.get : XT → Nat → Option AFn
  | .leaf, _ => none
  | .one k a, f => cond (Nat.beq f k) (some a) none
  | .node m l r, f => cond (Nat.blt f m) (l.get f) (r.get f)
def XT.Ok (P : Program) (its : List It) : XT → Prop
  | .leaf => True
  | .one k a => XOk P its k a
  | .node _ l r => l.Ok P its ∧ r.Ok P its
theorem XT.ok {P : Program} {its : List It} : ∀ (t : XT), t.Ok P its → ∀ f a, t.get f = some a → XOk P its f a
  | .leaf, _ => fun f a h => by cases h
  | .one k b, ho => fun f a h => by
    simp only [XT.get] at h
    cases hb : Nat.beq f k with
    | true => rw [hb] at h; cases h; rw [Nat.eq_of_beq_eq_true hb]; exact ho
    | false => rw [hb] at h; cases h
  | .node m l r, ho => fun f a h => by
    simp only [XT.get] at h
    cases hb : Nat.blt f m with
    | true => rw [hb] at h; exact XT.ok l ho.1 f a h
    | false => rw [hb] at h; exact XT.ok r ho.2 f a h
def xget (r : Option AFn) (k : AFn → XR) : XR := Option.rec (motive := fun _ => XR) none k r
/-- contracts first, then runs -/
def xtab (ct : Handler) (t : XT) (its : List It) (N : Nat) : Nat → Handler
  | 0 => ct
  | d + 1 => fun f args h => orb (ct f args h) (xget (t.get f) fun a => xrun (xtab ct t its N d) its N a args h)
theorem xtab_ok {P : Program} {ct : Handler} (hct : FOk P ct) {t : XT} {its : List It} (ht : t.Ok P its) (N : Nat) : ∀ d, FOk P (xtab ct t its N d)
  | 0 => hct
  | d + 1 => fun f args h v h' ha => by
    simp only [xtab, orb] at ha
    split at ha
    · rename_i r hr
      cases ha
      exact hct _ _ _ _ _ hr
    · cases hq : t.get f with
      | none => rw [hq] at ha; cases ha
      | some a =>
        rw [hq] at ha
        exact xrun_ok (xtab_ok hct ht N d) (XT.ok t ht f a hq) ha
end Go.Eng
end
namespace Go.Eng
theorem its_in {P : Program} {l its : List It} (h : l.all (fun i => its.any fun j => Nat.beq i.f j.f && i.back == j.back && i.en == j.en) = true) (hit : ∀ i ∈ its, IterOk P i) : ∀ i, i ∈ l → IterOk P i := by
  intro i hi
  have h1 := List.all_eq_true.1 h i hi
  obtain ⟨j, hj, h2⟩ := List.any_eq_true.1 h1
  simp only [Bool.and_eq_true, beq_iff_eq] at h2
  obtain ⟨⟨h3, h4⟩, h5⟩ := h2
  have h6 := Nat.eq_of_beq_eq_true h3
  have : i = j := by cases i; cases j; simp_all
  exact this ▸ hit j hj
namespace DZ
abbrev t (x : Nat) : Opd := .tmp x
abbrev n (x : Int) : Opd := .const (.int .i64 x)
abbrev tt : Opd := .const (.bool true)
abbrev ff : Opd := .const (.bool false)
abbrev fn (x : Nat) : Opd := .const (.func (.func x) [] [])
abbrev m (d x : Nat) : AOpr := ⟨some d, .mov (.tmp x), none⟩
abbrev mv (d : Nat) (x : Opd) : AOpr := ⟨some d, .mov x, none⟩
abbrev c (d f : Nat) (l : List Opd) : AOpr := ⟨some d, .call (fn f) l, none⟩
abbrev cn (f : Nat) (l : List Opd) : AOpr := ⟨none, .call (fn f) l, none⟩
abbrev l (d x : Nat) : AOpr := ⟨some d, .ld1 (.tmp x), none⟩
abbrev ln (d z x : Nat) : AOpr := ⟨some d, .ldn z (.tmp x), none⟩
abbrev fa (d z x : Nat) : AOpr := ⟨some d, .fldA z (.tmp x), none⟩
abbrev ia (d z x : Nat) (y : Opd) : AOpr := ⟨some d, .idxA z (.tmp x) y, none⟩
abbrev s (z x y : Nat) : AOpr := ⟨none, .st z (.tmp x) (.tmp y), none⟩
abbrev sv (z x : Nat) (y : Opd) : AOpr := ⟨none, .st z (.tmp x) y, none⟩
abbrev ar (d : Nat) (o : BinOp) (x y : Opd) : AOpr := ⟨some d, .arith o x y, none⟩
abbrev le (d x : Nat) : AOpr := ⟨some d, .len (.tmp x), none⟩
abbrev ex (d x i : Nat) : AOpr := ⟨some d, .ext (.tmp x) i, none⟩
abbrev o (d : Nat) (a : AOp) : AOpr := ⟨some d, a, none⟩
abbrev on (a : AOp) : AOpr := ⟨none, a, none⟩
abbrev og (d : Nat) (a : AOp) (g : Nat) (b : Bool) : AOpr := ⟨some d, a, some (g, b)⟩
abbrev sk : ACode := .skip
abbrev r (x : List AOpr) : ACode := .reg x
abbrev d (x : List (AOpr × Nat)) : ACode := .draw x
def q : List ACode → ACode → ACode
  | [], z => z
  | a :: x, z => .seq a (q x z)
end DZ
end Go.Eng
noncomputable section
namespace Go.Proofs.YtfegfialedlfcaaGreatDoor
open Go.Eng
def ITS : List It := [⟨181, true, none⟩]
end Go.Proofs.YtfegfialedlfcaaGreatDoor
end
