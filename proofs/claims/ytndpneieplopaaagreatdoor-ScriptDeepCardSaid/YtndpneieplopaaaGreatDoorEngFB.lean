/- Equality and freezing of values with recursors; calls that were found, by them. -/
import Derived.Test.YtndpneieplopaaaGreatDoorSdH
import Derived.Test.YtndpneieplopaaaGreatDoorEngDF
set_option linter.unusedSimpArgs false
set_option linter.unusedVariables false
set_option linter.unnecessarySimpa false
noncomputable section
namespace Go.Eng
/-! ## views (printed by mkfb.py) -/
/-- is it .bool? -/
def wBool (v : AV) : (Bool → Bool) → Bool := AV.rec (motive_1 := fun _ => (Bool → Bool) → Bool) (motive_2 := fun _ => Unit) (motive_3 := fun _ => Unit)
  (fun _ => false) (fun a K => K a) (fun _ _ _ => false) (fun _ _ => false) (fun _ _ _ => false) (fun _ _ _ => false) (fun _ _ _ => false) (fun _ => false) (fun _ _ _ => false) (fun _ _ _ => false) (fun _ => false) (fun _ => false) (fun _ _ _ => false) (fun _ _ _ _ _ => false) (fun _ _ => false) (fun _ => false) (fun _ _ _ _ _ _ => false) (fun _ => false) (fun _ => false) (fun _ _ _ _ => false) (fun _ _ _ _ _ _ _ => false) (fun _ _ _ _ _ _ _ _ _ => false) (fun _ _ _ => false) () (fun _ _ _ _ => ()) () (fun _ _ _ _ => ()) v
theorem wBool_some {v : AV} {K : Bool → Bool} (h : wBool v K = true) : ∃ a, v = .bool a ∧ K a = true := by
  cases v <;> first | exact ⟨_, rfl, h⟩ | exact (Bool.noConfusion h)
/-- is it .int? -/
def wInt (v : AV) : (IntKind → Int → Bool) → Bool := AV.rec (motive_1 := fun _ => (IntKind → Int → Bool) → Bool) (motive_2 := fun _ => Unit) (motive_3 := fun _ => Unit)
  (fun _ => false) (fun _ _ => false) (fun a b K => K a b) (fun _ _ => false) (fun _ _ _ => false) (fun _ _ _ => false) (fun _ _ _ => false) (fun _ => false) (fun _ _ _ => false) (fun _ _ _ => false) (fun _ => false) (fun _ => false) (fun _ _ _ => false) (fun _ _ _ _ _ => false) (fun _ _ => false) (fun _ => false) (fun _ _ _ _ _ _ => false) (fun _ => false) (fun _ => false) (fun _ _ _ _ => false) (fun _ _ _ _ _ _ _ => false) (fun _ _ _ _ _ _ _ _ _ => false) (fun _ _ _ => false) () (fun _ _ _ _ => ()) () (fun _ _ _ _ => ()) v
theorem wInt_some {v : AV} {K : IntKind → Int → Bool} (h : wInt v K = true) : ∃ a b, v = .int a b ∧ K a b = true := by
  cases v <;> first | exact ⟨_, _, rfl, h⟩ | exact (Bool.noConfusion h)
/-- is it .str? -/
def wStr (v : AV) : ((List UInt8) → Bool) → Bool := AV.rec (motive_1 := fun _ => ((List UInt8) → Bool) → Bool) (motive_2 := fun _ => Unit) (motive_3 := fun _ => Unit)
  (fun _ => false) (fun _ _ => false) (fun _ _ _ => false) (fun a K => K a) (fun _ _ _ => false) (fun _ _ _ => false) (fun _ _ _ => false) (fun _ => false) (fun _ _ _ => false) (fun _ _ _ => false) (fun _ => false) (fun _ => false) (fun _ _ _ => false) (fun _ _ _ _ _ => false) (fun _ _ => false) (fun _ => false) (fun _ _ _ _ _ _ => false) (fun _ => false) (fun _ => false) (fun _ _ _ _ => false) (fun _ _ _ _ _ _ _ => false) (fun _ _ _ _ _ _ _ _ _ => false) (fun _ _ _ => false) () (fun _ _ _ _ => ()) () (fun _ _ _ _ => ()) v
theorem wStr_some {v : AV} {K : (List UInt8) → Bool} (h : wStr v K = true) : ∃ a, v = .str a ∧ K a = true := by
  cases v <;> first | exact ⟨_, rfl, h⟩ | exact (Bool.noConfusion h)
/-- is it .agg? -/
def wAgg (v : AV) : ((List AV) → Bool) → Bool := AV.rec (motive_1 := fun _ => ((List AV) → Bool) → Bool) (motive_2 := fun _ => Unit) (motive_3 := fun _ => Unit)
  (fun _ => false) (fun _ _ => false) (fun _ _ _ => false) (fun _ _ => false) (fun a _ K => K a) (fun _ _ _ => false) (fun _ _ _ => false) (fun _ => false) (fun _ _ _ => false) (fun _ _ _ => false) (fun _ => false) (fun _ => false) (fun _ _ _ => false) (fun _ _ _ _ _ => false) (fun _ _ => false) (fun _ => false) (fun _ _ _ _ _ _ => false) (fun _ => false) (fun _ => false) (fun _ _ _ _ => false) (fun _ _ _ _ _ _ _ => false) (fun _ _ _ _ _ _ _ _ _ => false) (fun _ _ _ => false) () (fun _ _ _ _ => ()) () (fun _ _ _ _ => ()) v
theorem wAgg_some {v : AV} {K : (List AV) → Bool} (h : wAgg v K = true) : ∃ a, v = .agg a ∧ K a = true := by
  cases v <;> first | exact ⟨_, rfl, h⟩ | exact (Bool.noConfusion h)
/-- is it .tup? -/
def wTup (v : AV) : ((List AV) → Bool) → Bool := AV.rec (motive_1 := fun _ => ((List AV) → Bool) → Bool) (motive_2 := fun _ => Unit) (motive_3 := fun _ => Unit)
  (fun _ => false) (fun _ _ => false) (fun _ _ _ => false) (fun _ _ => false) (fun _ _ _ => false) (fun a _ K => K a) (fun _ _ _ => false) (fun _ => false) (fun _ _ _ => false) (fun _ _ _ => false) (fun _ => false) (fun _ => false) (fun _ _ _ => false) (fun _ _ _ _ _ => false) (fun _ _ => false) (fun _ => false) (fun _ _ _ _ _ _ => false) (fun _ => false) (fun _ => false) (fun _ _ _ _ => false) (fun _ _ _ _ _ _ _ => false) (fun _ _ _ _ _ _ _ _ _ => false) (fun _ _ _ => false) () (fun _ _ _ _ => ()) () (fun _ _ _ _ => ()) v
theorem wTup_some {v : AV} {K : (List AV) → Bool} (h : wTup v K = true) : ∃ a, v = .tup a ∧ K a = true := by
  cases v <;> first | exact ⟨_, rfl, h⟩ | exact (Bool.noConfusion h)
/-- is it .gptr? -/
def wGptr (v : AV) : (Nat → Nat → Bool) → Bool := AV.rec (motive_1 := fun _ => (Nat → Nat → Bool) → Bool) (motive_2 := fun _ => Unit) (motive_3 := fun _ => Unit)
  (fun _ => false) (fun _ _ => false) (fun _ _ _ => false) (fun _ _ => false) (fun _ _ _ => false) (fun _ _ _ => false) (fun _ _ _ => false) (fun _ => false) (fun _ _ _ => false) (fun a b K => K a b) (fun _ => false) (fun _ => false) (fun _ _ _ => false) (fun _ _ _ _ _ => false) (fun _ _ => false) (fun _ => false) (fun _ _ _ _ _ _ => false) (fun _ => false) (fun _ => false) (fun _ _ _ _ => false) (fun _ _ _ _ _ _ _ => false) (fun _ _ _ _ _ _ _ _ _ => false) (fun _ _ _ => false) () (fun _ _ _ _ => ()) () (fun _ _ _ _ => ()) v
theorem wGptr_some {v : AV} {K : Nat → Nat → Bool} (h : wGptr v K = true) : ∃ a b, v = .gptr a b ∧ K a b = true := by
  cases v <;> first | exact ⟨_, _, rfl, h⟩ | exact (Bool.noConfusion h)
/-- is it .psl? -/
def wPsl (v : AV) : ((List (List AV)) → Bool) → Bool := AV.rec (motive_1 := fun _ => ((List (List AV)) → Bool) → Bool) (motive_2 := fun _ => Unit) (motive_3 := fun _ => Unit)
  (fun _ => false) (fun _ _ => false) (fun _ _ _ => false) (fun _ _ => false) (fun _ _ _ => false) (fun _ _ _ => false) (fun _ _ _ => false) (fun _ => false) (fun _ _ _ => false) (fun _ _ _ => false) (fun _ => false) (fun _ => false) (fun a _ K => K a) (fun _ _ _ _ _ => false) (fun _ _ => false) (fun _ => false) (fun _ _ _ _ _ _ => false) (fun _ => false) (fun _ => false) (fun _ _ _ _ => false) (fun _ _ _ _ _ _ _ => false) (fun _ _ _ _ _ _ _ _ _ => false) (fun _ _ _ => false) () (fun _ _ _ _ => ()) () (fun _ _ _ _ => ()) v
theorem wPsl_some {v : AV} {K : (List (List AV)) → Bool} (h : wPsl v K = true) : ∃ a, v = .psl a ∧ K a = true := by
  cases v <;> first | exact ⟨_, rfl, h⟩ | exact (Bool.noConfusion h)
/-- is it .func? -/
def wFunc (v : AV) : (Fn → (List AV) → (List AV) → Bool) → Bool := AV.rec (motive_1 := fun _ => (Fn → (List AV) → (List AV) → Bool) → Bool) (motive_2 := fun _ => Unit) (motive_3 := fun _ => Unit)
  (fun _ => false) (fun _ _ => false) (fun _ _ _ => false) (fun _ _ => false) (fun _ _ _ => false) (fun _ _ _ => false) (fun _ _ _ => false) (fun _ => false) (fun _ _ _ => false) (fun _ _ _ => false) (fun _ => false) (fun _ => false) (fun _ _ _ => false) (fun _ _ _ _ _ => false) (fun _ _ => false) (fun _ => false) (fun a b c _ _ K => K a b c) (fun _ => false) (fun _ => false) (fun _ _ _ _ => false) (fun _ _ _ _ _ _ _ => false) (fun _ _ _ _ _ _ _ _ _ => false) (fun _ _ _ => false) () (fun _ _ _ _ => ()) () (fun _ _ _ _ => ()) v
theorem wFunc_some {v : AV} {K : Fn → (List AV) → (List AV) → Bool} (h : wFunc v K = true) : ∃ a b c, v = .func a b c ∧ K a b c = true := by
  cases v <;> first | exact ⟨_, _, _, rfl, h⟩ | exact (Bool.noConfusion h)
/-- the number of a constructor without parts -/
def tagN (v : AV) : Nat := AV.rec (motive_1 := fun _ => Nat) (motive_2 := fun _ => Unit) (motive_3 := fun _ => Unit)
  (1) (fun _ => 0) (fun _ _ => 0) (fun _ => 0) (fun _ _ => 0) (fun _ _ => 0) (fun _ _ => 0) (2) (fun _ _ => 0) (fun _ _ => 0) (3) (4) (fun _ _ => 0) (fun _ _ _ _ => 0) (fun _ => 0) (5) (fun _ _ _ _ _ => 0) (6) (7) (fun _ _ _ => 0) (fun _ _ _ _ _ _ => 0) (fun _ _ _ _ _ _ _ _ => 0) (fun _ _ => 0) () (fun _ _ _ _ => ()) () (fun _ _ _ _ => ()) v
/-! ## equality -/
def nd (a b : Bool) : Bool := Bool.rec (motive := fun _ => Bool → Bool) (fun _ => false) (fun b => b) a b
theorem nd_true {a b : Bool} (h : nd a b = true) : a = true ∧ b = true := by cases a <;> cases b <;> simp_all [nd]
def beqB (a b : Bool) : Bool := Bool.rec (motive := fun _ => Bool → Bool) (fun b => Bool.rec (motive := fun _ => Bool) true false b) (fun b => b) a b
theorem beqB_eq {a b : Bool} (h : beqB a b = true) : a = b := by cases a <;> cases b <;> simp_all [beqB]
def knN (k : IntKind) : Nat := IntKind.rec (motive := fun _ => Nat) 0 1 2 3 4 5 6 7 k
theorem knN_inj {a b : IntKind} (h : Nat.beq (knN a) (knN b) = true) : a = b := by
  have h1 := Nat.eq_of_beq_eq_true h
  cases a <;> cases b <;> first | rfl | (simp [knN] at h1)
def beqI (a b : Int) : Bool := Int.rec (motive := fun _ => Int → Bool) (fun n b => Int.rec (motive := fun _ => Nat → Bool) (fun m n => Nat.beq n m) (fun _ _ => false) b n) (fun n b => Int.rec (motive := fun _ => Nat → Bool) (fun _ _ => false) (fun m n => Nat.beq n m) b n) a b
theorem beqI_eq {a b : Int} (h : beqI a b = true) : a = b := by
  cases a <;> cases b
  · exact congrArg _ (Nat.eq_of_beq_eq_true h)
  · cases h
  · cases h
  · exact congrArg _ (Nat.eq_of_beq_eq_true h)
def beqU (a b : UInt8) : Bool := Nat.beq a.toNat b.toNat
theorem beqU_eq {a b : UInt8} (h : beqU a b = true) : a = b := UInt8.toNat_inj.1 (Nat.eq_of_beq_eq_true h)
def beqS (a : List UInt8) : List UInt8 → Bool := List.rec (motive := fun _ => List UInt8 → Bool) (fun b => List.rec (motive := fun _ => Bool) true (fun _ _ _ => false) b)
  (fun x _ ih b => List.rec (motive := fun _ => UInt8 → (List UInt8 → Bool) → Bool) (fun _ _ => false) (fun y b _ x ih => nd (beqU x y) (ih b)) b x ih) a
theorem beqS_eq : ∀ {a b : List UInt8}, beqS a b = true → a = b
  | [], [], _ => rfl
  | [], _ :: _, h => by cases h
  | _ :: _, [], h => by cases h
  | x :: a, y :: b, h => by
    obtain ⟨h1, h2⟩ := nd_true (show nd (beqU x y) (beqS a b) = true from h)
    rw [beqU_eq h1, beqS_eq h2]
def fnN (f : Fn) : (Nat → Bool) → Bool := Fn.rec (motive := fun _ => (Nat → Bool) → Bool) (fun n K => K n) (fun _ _ => false) (fun _ _ _ => false) (fun _ _ _ _ _ => false) (fun _ _ => false) f
def beqF (f g : Fn) : Bool := fnN f fun a => fnN g fun b => Nat.beq a b
theorem beqF_eq {f g : Fn} (h : beqF f g = true) : f = g := by
  cases f <;> first | (exact Bool.noConfusion h) | skip
  cases g <;> first | (exact Bool.noConfusion h) | skip
  exact congrArg _ (Nat.eq_of_beq_eq_true h)
/-- is it the same? (values that are closed) -/
def bq (v : AV) : AV → Bool := AV.rec (motive_1 := fun _ => AV → Bool) (motive_2 := fun _ => List AV → Bool) (motive_3 := fun _ => List (List AV) → Bool)
  (fun y => Nat.beq 1 (tagN y)) (fun b y => wBool y fun c => beqB b c) (fun k n y => wInt y fun l m => nd (beqI n m) (Nat.beq (knN k) (knN l))) (fun s y => wStr y fun t => beqS s t) (fun _ ih y => wAgg y ih) (fun _ ih y => wTup y ih) (fun _ _ _ => false) (fun y => Nat.beq 2 (tagN y)) (fun _ _ _ => false) (fun g o y => wGptr y fun k p => nd (Nat.beq g k) (Nat.beq o p)) (fun y => Nat.beq 3 (tagN y)) (fun y => Nat.beq 4 (tagN y)) (fun _ ih y => wPsl y ih) (fun _ _ _ _ _ => false) (fun _ _ => false) (fun y => Nat.beq 5 (tagN y)) (fun f _ _ iha ihb y => wFunc y fun g c d => nd (beqF f g) (nd (iha c) (ihb d))) (fun y => Nat.beq 6 (tagN y)) (fun y => Nat.beq 7 (tagN y)) (fun _ _ _ _ => false) (fun _ _ _ _ _ _ _ => false) (fun _ _ _ _ _ _ _ _ _ => false) (fun _ _ _ => false) (fun m => List.rec (motive := fun _ => Bool) true (fun _ _ _ => false) m) (fun _ _ ia il m => List.rec (motive := fun _ => (AV → Bool) → (List (AV) → Bool) → Bool) (fun _ _ => false) (fun b m _ ia il => nd (ia b) (il m)) m ia il) (fun m => List.rec (motive := fun _ => Bool) true (fun _ _ _ => false) m) (fun _ _ ia il m => List.rec (motive := fun _ => (List AV → Bool) → (List (List AV) → Bool) → Bool) (fun _ _ => false) (fun b m _ ia il => nd (ia b) (il m)) m ia il) v
/-- is it the same? (values that are closed) -/
def bqL (v : List AV) : List AV → Bool := AV.rec_1 (motive_1 := fun _ => AV → Bool) (motive_2 := fun _ => List AV → Bool) (motive_3 := fun _ => List (List AV) → Bool)
  (fun y => Nat.beq 1 (tagN y)) (fun b y => wBool y fun c => beqB b c) (fun k n y => wInt y fun l m => nd (beqI n m) (Nat.beq (knN k) (knN l))) (fun s y => wStr y fun t => beqS s t) (fun _ ih y => wAgg y ih) (fun _ ih y => wTup y ih) (fun _ _ _ => false) (fun y => Nat.beq 2 (tagN y)) (fun _ _ _ => false) (fun g o y => wGptr y fun k p => nd (Nat.beq g k) (Nat.beq o p)) (fun y => Nat.beq 3 (tagN y)) (fun y => Nat.beq 4 (tagN y)) (fun _ ih y => wPsl y ih) (fun _ _ _ _ _ => false) (fun _ _ => false) (fun y => Nat.beq 5 (tagN y)) (fun f _ _ iha ihb y => wFunc y fun g c d => nd (beqF f g) (nd (iha c) (ihb d))) (fun y => Nat.beq 6 (tagN y)) (fun y => Nat.beq 7 (tagN y)) (fun _ _ _ _ => false) (fun _ _ _ _ _ _ _ => false) (fun _ _ _ _ _ _ _ _ _ => false) (fun _ _ _ => false) (fun m => List.rec (motive := fun _ => Bool) true (fun _ _ _ => false) m) (fun _ _ ia il m => List.rec (motive := fun _ => (AV → Bool) → (List (AV) → Bool) → Bool) (fun _ _ => false) (fun b m _ ia il => nd (ia b) (il m)) m ia il) (fun m => List.rec (motive := fun _ => Bool) true (fun _ _ _ => false) m) (fun _ _ ia il m => List.rec (motive := fun _ => (List AV → Bool) → (List (List AV) → Bool) → Bool) (fun _ _ => false) (fun b m _ ia il => nd (ia b) (il m)) m ia il) v
/-- is it the same? (values that are closed) -/
def bqP (v : List (List AV)) : List (List AV) → Bool := AV.rec_2 (motive_1 := fun _ => AV → Bool) (motive_2 := fun _ => List AV → Bool) (motive_3 := fun _ => List (List AV) → Bool)
  (fun y => Nat.beq 1 (tagN y)) (fun b y => wBool y fun c => beqB b c) (fun k n y => wInt y fun l m => nd (beqI n m) (Nat.beq (knN k) (knN l))) (fun s y => wStr y fun t => beqS s t) (fun _ ih y => wAgg y ih) (fun _ ih y => wTup y ih) (fun _ _ _ => false) (fun y => Nat.beq 2 (tagN y)) (fun _ _ _ => false) (fun g o y => wGptr y fun k p => nd (Nat.beq g k) (Nat.beq o p)) (fun y => Nat.beq 3 (tagN y)) (fun y => Nat.beq 4 (tagN y)) (fun _ ih y => wPsl y ih) (fun _ _ _ _ _ => false) (fun _ _ => false) (fun y => Nat.beq 5 (tagN y)) (fun f _ _ iha ihb y => wFunc y fun g c d => nd (beqF f g) (nd (iha c) (ihb d))) (fun y => Nat.beq 6 (tagN y)) (fun y => Nat.beq 7 (tagN y)) (fun _ _ _ _ => false) (fun _ _ _ _ _ _ _ => false) (fun _ _ _ _ _ _ _ _ _ => false) (fun _ _ _ => false) (fun m => List.rec (motive := fun _ => Bool) true (fun _ _ _ => false) m) (fun _ _ ia il m => List.rec (motive := fun _ => (AV → Bool) → (List (AV) → Bool) → Bool) (fun _ _ => false) (fun b m _ ia il => nd (ia b) (il m)) m ia il) (fun m => List.rec (motive := fun _ => Bool) true (fun _ _ _ => false) m) (fun _ _ ia il m => List.rec (motive := fun _ => (List AV → Bool) → (List (List AV) → Bool) → Bool) (fun _ _ => false) (fun b m _ ia il => nd (ia b) (il m)) m ia il) v
theorem tagN_eq {v : AV} {n : Nat} (h : Nat.beq n (tagN v) = true) : n = tagN v := Nat.eq_of_beq_eq_true h
mutual
theorem bq_eq : ∀ (a b : AV), bq a b = true → a = b
  | .undef, b, h => by
    have h1 := tagN_eq (show Nat.beq 1 (tagN b) = true from h)
    cases b <;> first | rfl | (exact absurd h1 (by simp [tagN]))
  | .bool a, b, h => by
    obtain ⟨c, rfl, h1⟩ := wBool_some (show wBool b (fun c => beqB a c) = true from h)
    rw [beqB_eq h1]
  | .int k n, b, h => by
    obtain ⟨l, m, rfl, h1⟩ := wInt_some (show wInt b (fun l m => nd (beqI n m) (Nat.beq (knN k) (knN l))) = true from h)
    obtain ⟨h2, h3⟩ := nd_true h1
    rw [beqI_eq h2, knN_inj h3]
  | .str s, b, h => by
    obtain ⟨c, rfl, h1⟩ := wStr_some (show wStr b (fun c => beqS s c) = true from h)
    rw [beqS_eq h1]
  | .agg s, b, h => by
    obtain ⟨c, rfl, h1⟩ := wAgg_some (show wAgg b (bqL s) = true from h)
    rw [bqL_eq s c h1]
  | .tup s, b, h => by
    obtain ⟨c, rfl, h1⟩ := wTup_some (show wTup b (bqL s) = true from h)
    rw [bqL_eq s c h1]
  | .ptr _ _, b, h => by exact Bool.noConfusion h
  | .nilptr, b, h => by
    have h1 := tagN_eq (show Nat.beq 2 (tagN b) = true from h)
    cases b <;> first | rfl | (exact absurd h1 (by simp [tagN]))
  | .pptr _, b, h => by exact Bool.noConfusion h
  | .gptr g o, b, h => by
    obtain ⟨c, d, rfl, h1⟩ := wGptr_some (show wGptr b (fun k p => nd (Nat.beq g k) (Nat.beq o p)) = true from h)
    obtain ⟨h2, h3⟩ := nd_true h1
    rw [Nat.eq_of_beq_eq_true h2, Nat.eq_of_beq_eq_true h3]
  | .nilsl, b, h => by
    have h1 := tagN_eq (show Nat.beq 3 (tagN b) = true from h)
    cases b <;> first | rfl | (exact absurd h1 (by simp [tagN]))
  | .esl, b, h => by
    have h1 := tagN_eq (show Nat.beq 4 (tagN b) = true from h)
    cases b <;> first | rfl | (exact absurd h1 (by simp [tagN]))
  | .psl s, b, h => by
    obtain ⟨c, rfl, h1⟩ := wPsl_some (show wPsl b (bqP s) = true from h)
    rw [bqP_eq s c h1]
  | .rsl _ _ _ _, b, h => by exact Bool.noConfusion h
  | .mapv _, b, h => by exact Bool.noConfusion h
  | .nilmap, b, h => by
    have h1 := tagN_eq (show Nat.beq 5 (tagN b) = true from h)
    cases b <;> first | rfl | (exact absurd h1 (by simp [tagN]))
  | .func f x y, b, h => by
    obtain ⟨g, c, d, rfl, h1⟩ := wFunc_some (show wFunc b (fun g c d => nd (beqF f g) (nd (bqL x c) (bqL y d))) = true from h)
    obtain ⟨h2, h3⟩ := nd_true h1
    obtain ⟨h4, h5⟩ := nd_true h3
    rw [beqF_eq h2, bqL_eq x c h4, bqL_eq y d h5]
  | .nilfunc, b, h => by
    have h1 := tagN_eq (show Nat.beq 6 (tagN b) = true from h)
    cases b <;> first | rfl | (exact absurd h1 (by simp [tagN]))
  | .nilif, b, h => by
    have h1 := tagN_eq (show Nat.beq 7 (tagN b) = true from h)
    cases b <;> first | rfl | (exact absurd h1 (by simp [tagN]))
  | .iface _ _, b, h => by exact Bool.noConfusion h
  | .sint _ _ _ _ _ _, b, h => by exact Bool.noConfusion h
  | .scol _ _ _ _ _ _ _ _, b, h => by exact Bool.noConfusion h
  | .oint _ _, b, h => by exact Bool.noConfusion h
theorem bqL_eq : ∀ (a b : List AV), bqL a b = true → a = b
  | [], [], _ => rfl
  | [], _ :: _, h => by exact Bool.noConfusion h
  | _ :: _, [], h => by exact Bool.noConfusion h
  | x :: a, y :: b, h => by
    obtain ⟨h1, h2⟩ := nd_true (show nd (bq x y) (bqL a b) = true from h)
    rw [bq_eq x y h1, bqL_eq a b h2]
theorem bqP_eq : ∀ (a b : List (List AV)), bqP a b = true → a = b
  | [], [], _ => rfl
  | [], _ :: _, h => by exact Bool.noConfusion h
  | _ :: _, [], h => by exact Bool.noConfusion h
  | x :: a, y :: b, h => by
    obtain ⟨h1, h2⟩ := nd_true (show nd (bqL x y) (bqP a b) = true from h)
    rw [bqL_eq x y h1, bqP_eq a b h2]
end
/-! ## freezing -/
/-- the cells of an object -/
def obC (o : Option AObj) : (List AV → Bool) → Bool := Option.rec (motive := fun _ => (List AV → Bool) → Bool) (fun _ => false) (fun o => AObj.rec (motive := fun _ => (List AV → Bool) → Bool) (fun cs K => K cs) (fun _ _ => false) (fun _ _ _ => false) (fun _ _ _ => false) (fun _ _ _ => false) o) o
def dropB (n : Nat) : List AV → (List AV → Bool) → Bool := Nat.rec (motive := fun _ => List AV → (List AV → Bool) → Bool) (fun l K => K l)
  (fun _ ih l => List.rec (motive := fun _ => (List AV → (List AV → Bool) → Bool) → (List AV → Bool) → Bool) (fun _ _ => false) (fun _ t _ ih => ih t) l ih) n
theorem dropB_true : ∀ (n : Nat) (l : List AV) (K : List AV → Bool), dropB n l K = true → n ≤ l.length ∧ K (l.drop n) = true
  | 0, l, K, h => ⟨Nat.zero_le _, h⟩
  | n + 1, [], K, h => by exact Bool.noConfusion h
  | n + 1, a :: l, K, h => by
    obtain ⟨h1, h2⟩ := dropB_true n l K h
    exact ⟨by simp; omega, by simpa using h2⟩
/-- two lists, one by one -/
def feL (E : AV → AV → Bool) (l : List AV) : List AV → Bool := List.rec (motive := fun _ => List AV → Bool) (fun m => List.rec (motive := fun _ => Bool) true (fun _ _ _ => false) m)
  (fun a _ il m => List.rec (motive := fun _ => (AV → Bool) → (List AV → Bool) → Bool) (fun _ _ => false) (fun b m _ ia il => nd (ia b) (il m)) m (E a) il) l
/-- from behind -/
def feR (E : AV → AV → Bool) (l : List AV) : List AV → Bool := List.rec (motive := fun _ => List AV → Bool) (fun m => List.rec (motive := fun _ => Bool) true (fun _ _ _ => false) m)
  (fun a _ il m => List.rec (motive := fun _ => (AV → Bool) → (List AV → Bool) → Bool) (fun _ _ => false) (fun b m _ ia il => nd (il m) (ia b)) m (E a) il) l
def feP (E : AV → AV → Bool) (l : List (List AV)) : List (List AV) → Bool := List.rec (motive := fun _ => List (List AV) → Bool) (fun m => List.rec (motive := fun _ => Bool) true (fun _ _ _ => false) m)
  (fun a _ il m => List.rec (motive := fun _ => (List AV → Bool) → (List (List AV) → Bool) → Bool) (fun _ _ => false) (fun b m _ ia il => nd (ia b) (il m)) m (feL E a) il) l
/-- a row of c cells at the head of l -/
def feW (E : AV → AV → Bool) (x : List AV) : List AV → Nat → (List AV → Bool) → Bool := List.rec (motive := fun _ => List AV → Nat → (List AV → Bool) → Bool) (fun l c K => nd (Nat.beq c 0) (K l))
  (fun y _ ih l c K => Nat.rec (motive := fun _ => Bool) false (fun c _ => List.rec (motive := fun _ => (AV → Bool) → (List AV → Nat → (List AV → Bool) → Bool) → Bool) (fun _ _ => false) (fun a t _ E1 ih => nd (E1 a) (ih t c K)) l (fun a => E a y) ih) c) x
/-- n rows of z cells -/
def feC (E : AV → AV → Bool) (z : Nat) (xs : List (List AV)) : List AV → Nat → Bool := List.rec (motive := fun _ => List AV → Nat → Bool) (fun _ n => Nat.beq n 0)
  (fun x _ ih l n => Nat.rec (motive := fun _ => Bool) false (fun n _ => feW E x l z fun t => ih t n) n) xs
def isE (l : List (List AV)) : Bool := List.rec (motive := fun _ => Bool) true (fun _ _ _ => false) l
/-- taken as frozen, is it that? n: how deep -/
def fe (nw : Bool) (H : PM AObj) (n : Nat) : AV → AV → Bool := Nat.rec (motive := fun _ => AV → AV → Bool) (fun _ _ => false)
  (fun _ E a => AV.rec (motive_1 := fun _ => (AV → AV → Bool) → AV → Bool) (motive_2 := fun _ => Unit) (motive_3 := fun _ => Unit)
   (fun _ _ => false) (fun b _ y => wBool y fun c => beqB b c) (fun k n _ y => wInt y fun l m => nd (beqI n m) (Nat.beq (knN k) (knN l))) (fun s _ y => wStr y fun t => beqS s t) (fun cs _ E y => wAgg y (feL E cs)) (fun cs _ E y => wTup y (feL E cs)) (fun _ _ _ _ => false) (fun _ y => Nat.beq 2 (tagN y)) (fun _ _ _ _ => false) (fun _ _ _ _ => false) (fun _ y => Nat.beq 3 (tagN y)) (fun _ y => Nat.beq 4 (tagN y)) (fun xs _ E y => wPsl y fun ys => nd (Bool.rec (motive := fun _ => Bool) true (isE xs) nw) (feP E xs ys)) (fun id off len z E y => wPsl y fun ys => obC (pmg (path id) H) fun cs => dropB off cs fun l => feC E z ys l len) (fun _ _ _ => false) (fun _ y => Nat.beq 5 (tagN y)) (fun _ _ _ _ _ _ _ => false) (fun _ y => Nat.beq 6 (tagN y)) (fun _ y => Nat.beq 7 (tagN y)) (fun _ _ _ _ _ => false) (fun _ _ _ _ _ _ _ _ => false) (fun _ _ _ _ _ _ _ _ _ _ => false) (fun _ _ _ _ => false) () (fun _ _ _ _ => ()) () (fun _ _ _ _ => ()) a E) n
/-! ### it is what freezing says -/
section
variable {nw : Bool} {K : Nat} {h : AH}
theorem fz_mono : ∀ n : Nat, (∀ a b, fzF nw K h n a = some b → fzF nw K h (n + 1) a = some b) ∧ (∀ l m, fzL nw K h n l = some m → fzL nw K h (n + 1) l = some m) ∧ (∀ l m, fzP nw K h n l = some m → fzP nw K h (n + 1) l = some m) ∧ (∀ z c l m, fzC nw K h n z c l = some m → fzC nw K h (n + 1) z c l = some m) := by
  intro n
  induction n with
  | zero =>
    refine ⟨fun a b h => by simp [fzF] at h, fun l m h => ?_, fun l m h => ?_, fun z c l m h => ?_⟩
    · cases l with
      | nil => simpa [fzL] using h
      | cons => simp [fzL] at h
    · cases l with
      | nil => simpa [fzP] using h
      | cons => simp [fzP] at h
    · cases c with
      | zero => simpa [fzC] using h
      | succ => simp [fzC] at h
  | succ n ih =>
    obtain ⟨i1, i2, i3, i4⟩ := ih
    refine ⟨fun a b h => ?_, fun l m h => ?_, fun l m h => ?_, fun z c l m h => ?_⟩
    · unfold fzF at h ⊢
      split at h <;> first | exact h | skip
      · rw [Option.map_eq_some_iff] at h ⊢
        obtain ⟨x, hx, hb⟩ := h
        exact ⟨x, i2 _ _ hx, hb⟩
      · rw [Option.map_eq_some_iff] at h ⊢
        obtain ⟨x, hx, hb⟩ := h
        exact ⟨x, i2 _ _ hx, hb⟩
      · rename_i id off len z
        show (match AH.cellsAt _ id with | some cs => _ | none => none) = some b
        split at h
        · rename_i cs hcs
          rw [hcs]
          cases hb : Nat.ble (off + len * z) cs.length with
          | false => rw [hb] at h; cases h
          | true =>
            rw [hb] at h
            simp only [hb, cond_true, Option.map_eq_some_iff] at h ⊢
            obtain ⟨x, hx, hb⟩ := h
            exact ⟨x, i4 _ _ _ _ hx, hb⟩
        · cases h
      · rename_i xs
        cases hb : (nw && !xs.isEmpty) with
        | true => rw [hb] at h; cases h
        | false =>
          rw [hb] at h
          simp only [cond_false, Option.map_eq_some_iff] at h ⊢
          obtain ⟨x, hx, hb⟩ := h
          exact ⟨x, i3 _ _ hx, hb⟩
    · cases l with
      | nil => simpa [fzL] using h
      | cons a l =>
        simp only [fzL] at h ⊢
        split at h
        · rename_i b m' h1 h2
          rw [i1 _ _ h1, i2 _ _ h2]; exact h
        · cases h
    · cases l with
      | nil => simpa [fzP] using h
      | cons a l =>
        simp only [fzP] at h ⊢
        split at h
        · rename_i b m' h1 h2
          rw [i2 _ _ h1, i3 _ _ h2]; exact h
        · cases h
    · cases c with
      | zero => simpa [fzC] using h
      | succ c =>
        simp only [fzC] at h ⊢
        split at h
        · rename_i b m' h1 h2
          rw [i2 _ _ h1, i4 _ _ _ _ h2]; exact h
        · cases h
theorem fzF_le {a b : AV} {n m : Nat} (hle : n ≤ m) (hh : fzF nw K h n a = some b) : fzF nw K h m a = some b := by
  induction hle with
  | refl => exact hh
  | step _ ih => exact (fz_mono _).1 _ _ ih
theorem fzL_le {a b : List AV} {n m : Nat} (hle : n ≤ m) (hh : fzL nw K h n a = some b) : fzL nw K h m a = some b := by
  induction hle with
  | refl => exact hh
  | step _ ih => exact (fz_mono _).2.1 _ _ ih
theorem fzP_le {a b : List (List AV)} {n m : Nat} (hle : n ≤ m) (hh : fzP nw K h n a = some b) : fzP nw K h m a = some b := by
  induction hle with
  | refl => exact hh
  | step _ ih => exact (fz_mono _).2.2.1 _ _ ih
theorem fzC_le {z c : Nat} {a : List AV} {b : List (List AV)} {n m : Nat} (hle : n ≤ m) (hh : fzC nw K h n z c a = some b) : fzC nw K h m z c a = some b := by
  induction hle with
  | refl => exact hh
  | step _ ih => exact (fz_mono _).2.2.2 _ _ _ _ ih
section
variable {E : AV → AV → Bool} (hE : ∀ a b, E a b = true → ∃ n, fzF nw K h n a = some b)
include hE
theorem feL_ok : ∀ l m, feL E l m = true → ∃ n, fzL nw K h n l = some m
  | [], [], _ => ⟨0, by simp [fzL]⟩
  | [], _ :: _, hh => by exact Bool.noConfusion hh
  | _ :: _, [], hh => by exact Bool.noConfusion hh
  | a :: l, b :: m, hh => by
    obtain ⟨h1, h2⟩ := nd_true (show nd (E a b) (feL E l m) = true from hh)
    obtain ⟨n1, h3⟩ := hE _ _ h1
    obtain ⟨n2, h4⟩ := feL_ok l m h2
    refine ⟨n1 + n2 + 1, ?_⟩
    simp only [fzL, fzF_le (show n1 ≤ n1 + n2 by omega) h3, fzL_le (show n2 ≤ n1 + n2 by omega) h4]
theorem feR_ok : ∀ l m, feR E l m = true → ∃ n, fzL nw K h n l = some m
  | [], [], _ => ⟨0, by simp [fzL]⟩
  | [], _ :: _, hh => by exact Bool.noConfusion hh
  | _ :: _, [], hh => by exact Bool.noConfusion hh
  | a :: l, b :: m, hh => by
    obtain ⟨h2, h1⟩ := nd_true (show nd (feR E l m) (E a b) = true from hh)
    obtain ⟨n1, h3⟩ := hE _ _ h1
    obtain ⟨n2, h4⟩ := feR_ok l m h2
    refine ⟨n1 + n2 + 1, ?_⟩
    simp only [fzL, fzF_le (show n1 ≤ n1 + n2 by omega) h3, fzL_le (show n2 ≤ n1 + n2 by omega) h4]
theorem feP_ok : ∀ l m, feP E l m = true → ∃ n, fzP nw K h n l = some m
  | [], [], _ => ⟨0, by simp [fzP]⟩
  | [], _ :: _, hh => by exact Bool.noConfusion hh
  | _ :: _, [], hh => by exact Bool.noConfusion hh
  | a :: l, b :: m, hh => by
    obtain ⟨h1, h2⟩ := nd_true (show nd (feL E a b) (feP E l m) = true from hh)
    obtain ⟨n1, h3⟩ := feL_ok hE _ _ h1
    obtain ⟨n2, h4⟩ := feP_ok l m h2
    refine ⟨n1 + n2 + 1, ?_⟩
    simp only [fzP, fzL_le (show n1 ≤ n1 + n2 by omega) h3, fzP_le (show n2 ≤ n1 + n2 by omega) h4]
theorem feW_ok : ∀ (x l : List AV) (c : Nat) (Kk : List AV → Bool), feW E x l c Kk = true → c ≤ l.length ∧ (∃ n, fzL nw K h n (l.take c) = some x) ∧ Kk (l.drop c) = true
  | [], l, c, Kk, hh => by
    obtain ⟨h1, h2⟩ := nd_true (show nd (Nat.beq c 0) (Kk l) = true from hh)
    obtain rfl := Nat.eq_of_beq_eq_true h1
    exact ⟨Nat.zero_le _, ⟨0, by simp [fzL]⟩, h2⟩
  | _ :: _, _, 0, _, hh => by exact Bool.noConfusion hh
  | _ :: _, [], _ + 1, _, hh => by exact Bool.noConfusion hh
  | y :: x, a :: l, c + 1, Kk, hh => by
    obtain ⟨h1, h2⟩ := nd_true (show nd (E a y) (feW E x l c Kk) = true from hh)
    obtain ⟨n1, h3⟩ := hE _ _ h1
    obtain ⟨h4, ⟨n2, h5⟩, h6⟩ := feW_ok x l c Kk h2
    refine ⟨by simp; omega, ⟨n1 + n2 + 1, ?_⟩, by simpa using h6⟩
    simp only [List.take_succ_cons, fzL, fzF_le (show n1 ≤ n1 + n2 by omega) h3, fzL_le (show n2 ≤ n1 + n2 by omega) h5]
theorem feC_ok (z : Nat) : ∀ (xs : List (List AV)) (l : List AV) (c : Nat), feC E z xs l c = true → c * z ≤ l.length ∧ ∃ n, fzC nw K h n z c l = some xs
  | [], l, c, hh => by
    obtain rfl := Nat.eq_of_beq_eq_true (show Nat.beq c 0 = true from hh)
    exact ⟨by simp, 0, by simp [fzC]⟩
  | _ :: _, _, 0, hh => by exact Bool.noConfusion hh
  | x :: xs, l, c + 1, hh => by
    obtain ⟨h1, ⟨n1, h2⟩, h3⟩ := feW_ok hE x l z _ (show feW E x l z (fun t => feC E z xs t c) = true from hh)
    obtain ⟨h4, n2, h5⟩ := feC_ok z xs _ _ h3
    refine ⟨by simp only [List.length_drop] at h4; rw [Nat.succ_mul]; omega, n1 + n2 + 1, ?_⟩
    simp only [fzC, fzL_le (show n1 ≤ n1 + n2 by omega) h2, fzC_le (show n2 ≤ n1 + n2 by omega) h5]
end
theorem isE_eq {l : List (List AV)} (hh : isE l = true) : l = [] := by
  cases l with
  | nil => rfl
  | cons => exact Bool.noConfusion hh
theorem fe_ok : ∀ (d : Nat) (a b : AV), fe nw h.H d a b = true → ∃ n, fzF nw K h n a = some b
  | 0, _, _, hh => by exact Bool.noConfusion hh
  | d + 1, a, b, hh => by
    have hE : ∀ a b, fe nw h.H d a b = true → ∃ n, fzF nw K h n a = some b := fe_ok d
    cases a
    case agg cs =>
      obtain ⟨ds, rfl, h1⟩ := wAgg_some (show wAgg b (feL (fe nw h.H d) cs) = true from hh)
      obtain ⟨n, h2⟩ := feL_ok hE _ _ h1
      exact ⟨n + 1, by simp [fzF, h2]⟩
    case tup cs =>
      obtain ⟨ds, rfl, h1⟩ := wTup_some (show wTup b (feL (fe nw h.H d) cs) = true from hh)
      obtain ⟨n, h2⟩ := feL_ok hE _ _ h1
      exact ⟨n + 1, by simp [fzF, h2]⟩
    case psl xs =>
      obtain ⟨ys, rfl, h1⟩ := wPsl_some (show wPsl b (fun ys => nd (Bool.rec (motive := fun _ => Bool) true (isE xs) nw) (feP (fe nw h.H d) xs ys)) = true from hh)
      obtain ⟨h2, h3⟩ := nd_true h1
      obtain ⟨n, h4⟩ := feP_ok hE _ _ h3
      refine ⟨n + 1, ?_⟩
      have h5 : (nw && !xs.isEmpty) = false := by
        cases nw with
        | false => rfl
        | true => rw [isE_eq (show isE xs = true from h2)]; rfl
      simp [fzF, h5, h4]
    case rsl id off len z =>
      obtain ⟨ys, rfl, h1⟩ := wPsl_some (show wPsl b (fun ys => obC (pmg (path id) h.H) fun cs => dropB off cs fun l => feC (fe nw h.H d) z ys l len) = true from hh)
      rw [pmg_eq] at h1
      have h2 : ∃ cs, h.cellsAt id = some cs ∧ dropB off cs (fun l => feC (fe nw h.H d) z ys l len) = true := by
        unfold AH.cellsAt
        cases hq : h.H.get id with
        | none => rw [hq] at h1; exact Bool.noConfusion h1
        | some o =>
          rw [hq] at h1
          cases o with
          | cells cs => exact ⟨cs, rfl, h1⟩
          | map _ => exact Bool.noConfusion h1
          | siter _ _ => exact Bool.noConfusion h1
          | glob _ _ => exact Bool.noConfusion h1
          | typ _ _ => exact Bool.noConfusion h1
      obtain ⟨cs, h3, h4⟩ := h2
      obtain ⟨h5, h6⟩ := dropB_true _ _ _ h4
      obtain ⟨h7, n, h8⟩ := feC_ok hE z _ _ _ h6
      refine ⟨n + 1, ?_⟩
      have h9 : Nat.ble (off + len * z) cs.length = true := by
        simp only [List.length_drop] at h7
        exact Nat.ble_eq_true_of_le (by omega)
      simp [fzF, h3, h9, h8]
    case bool c => rw [← bq_eq (.bool c) b hh]; exact ⟨1, rfl⟩
    case int k c => rw [← bq_eq (.int k c) b hh]; exact ⟨1, rfl⟩
    case str c => rw [← bq_eq (.str c) b hh]; exact ⟨1, rfl⟩
    case nilptr => rw [← bq_eq (.nilptr) b hh]; exact ⟨1, rfl⟩
    case nilsl => rw [← bq_eq (.nilsl) b hh]; exact ⟨1, rfl⟩
    case esl => rw [← bq_eq (.esl) b hh]; exact ⟨1, rfl⟩
    case nilmap => rw [← bq_eq (.nilmap) b hh]; exact ⟨1, rfl⟩
    case nilfunc => rw [← bq_eq (.nilfunc) b hh]; exact ⟨1, rfl⟩
    case nilif => rw [← bq_eq (.nilif) b hh]; exact ⟨1, rfl⟩
    all_goals exact Bool.noConfusion hh
end
/-! ## entries -/
noncomputable section
/-- the variable reads as it did -/
def gOkF (g : Nat) (cs : List AV) (H : PM AObj) : Bool := Option.rec (motive := fun _ => Bool) false (fun o => AObj.rec (motive := fun _ => Bool) (fun _ => false) (fun _ => false) (fun _ _ => false) (fun k l => nd (Nat.beq k g) (bqL l cs)) (fun _ _ => false) o) (pmg (path g) H)
theorem gOkF_get {g : Nat} {cs : List AV} {h : AH} (hh : gOkF g cs h.H = true) : h.H.get g = some (.glob g cs) := by
  unfold gOkF at hh
  rw [pmg_eq] at hh
  cases hq : h.H.get g with
  | none => rw [hq] at hh; exact Bool.noConfusion hh
  | some o =>
    rw [hq] at hh
    cases o with
    | cells cs => exact Bool.noConfusion hh
    | map _ => exact Bool.noConfusion hh
    | siter _ _ => exact Bool.noConfusion hh
    | typ _ _ => exact Bool.noConfusion hh
    | glob k l =>
      obtain ⟨h1, h2⟩ := nd_true (show nd (Nat.beq k g) (bqL l cs) = true from hh)
      rw [Nat.eq_of_beq_eq_true h1, bqL_eq _ _ h2]
theorem gOk_of {g : Nat} {cs : List AV} {h : AH} (hh : h.H.get g = some (.glob g cs)) : gOk g cs h = true := by
  unfold gOk AH.globAt
  rw [hh]
  simp [AV.beqL_refl]
/-- an entry: the answer, frozen, is v, and the variable reads as it did -/
def ansB (nw : Bool) (g : Nat) (cs : List AV) (r : XR) (v : AV) : Bool := Option.rec (motive := fun _ => Bool) false (fun p => Prod.rec (motive := fun _ => Bool) (fun v0 h0 => nd (gOkF g cs h0.H) (fe nw h0.H 100 v0 v)) p) r
theorem ansB_some {nw : Bool} {g : Nat} {cs : List AV} {r : XR} {v : AV} (hh : ansB nw g cs r v = true) : ∃ v0 h0 n, r = some (v0, h0) ∧ gOk g cs h0 = true ∧ fzF nw 0 h0 n v0 = some v := by
  cases r with
  | none => exact Bool.noConfusion hh
  | some p =>
    obtain ⟨v0, h0⟩ := p
    obtain ⟨h1, h2⟩ := nd_true (show nd (gOkF g cs h0.H) (fe nw h0.H 100 v0 v) = true from hh)
    obtain ⟨n, h3⟩ := fe_ok (K := 0) 100 _ _ h2
    exact ⟨v0, h0, n, rfl, gOk_of (gOkF_get h1), h3⟩
def pxOk (cl : Handler) (g : Nat) (cs : List AV) (e : PE) : Bool := nd (clsL 0 e.args) (ansB false g cs (cl e.f e.args (gBase g cs)) e.v)
def gxOk (cl : Handler) (g : Nat) (cs : List AV) (e : PE) : Bool := ansB true g cs (cl e.f e.args (gBase g cs)) e.v
section
variable {P : Program} {g : Nat} {cs : List AV}
theorem pxOk_ok {cl : Handler} (hcl : FOk P cl) (hpl : cs.all plainAV = true) {e : PE} (h : pxOk cl g cs e = true) : PVOk P g cs e := by
  obtain ⟨hc, h1⟩ := nd_true h
  obtain ⟨v0, h0, n, hr, hg, hf⟩ := ansB_some h1
  exact fun h' hh => frameGV (hcl _ _ _ _ _ hr) hg hpl hc hf hh
theorem gxOk_ok {cl : Handler} (hcl : FOk P cl) (hpl : cs.all plainAV = true) {e : PE} (h : gxOk cl g cs e = true) : GVOk P g cs e := by
  obtain ⟨v0, h0, n, hr, hg, hf⟩ := ansB_some h
  exact fun m args h' hh ha => frameFV (hcl _ _ _ _ _ hr) hg hpl hf hh ha
end
/-- entries of one function: the last arguments are looked at first -/
def lookX (E : List AV → List AV → Bool) (args : List AV) (l : List PE) : XR → (AV → XR) → XR := List.rec (motive := fun _ => XR → (AV → XR) → XR) (fun n _ => n)
  (fun e _ ih n K => PE.rec (motive := fun _ => XR) (fun _ a v => Bool.rec (motive := fun _ => XR) (ih n K) (K v) (E args a)) e) l
theorem lookX_some {E : List AV → List AV → Bool} {args : List AV} {K : AV → XR} {x : AV × AH} : ∀ {l : List PE}, lookX E args l none K = some x → ∃ e ∈ l, E args e.args = true ∧ K e.v = some x
  | [], h => by cases h
  | e :: l, h => by
    have h' : Bool.rec (motive := fun _ => XR) (lookX E args l none K) (K e.v) (E args e.args) = some x := h
    cases hb : E args e.args with
    | false => rw [hb] at h'; obtain ⟨e', h1, h2⟩ := lookX_some h'; exact ⟨e', by simp [h1], h2⟩
    | true => rw [hb] at h'; exact ⟨e, by simp, hb, h'⟩
/-- the entries of a function -/
def PT.of (t : PT) (f : Nat) : (List PE → XR) → XR := PT.rec (motive := fun _ => (List PE → XR) → XR) (fun _ => none) (fun k l K => Bool.rec (motive := fun _ => XR) none (K l) (Nat.beq f k)) (fun m _ _ il ir K => Bool.rec (motive := fun _ => XR) (ir K) (il K) (Nat.blt f m)) t
/-- every entry of the tree -/
def PT.All (Q : PE → Prop) : PT → Prop
  | .leaf => True
  | .one k l => ∀ e ∈ l, e.f = k ∧ Q e
  | .node _ l r => l.All Q ∧ r.All Q
theorem PT.of_some {Q : PE → Prop} {f : Nat} {K : List PE → XR} {x : AV × AH} : ∀ {t : PT}, t.All Q → t.of f K = some x → ∃ l, (∀ e ∈ l, e.f = f ∧ Q e) ∧ K l = some x
  | .leaf, _, h => by cases h
  | .one k l, ho, h => by
    have h' : Bool.rec (motive := fun _ => XR) none (K l) (Nat.beq f k) = some x := h
    cases hb : Nat.beq f k with
    | false => rw [hb] at h'; cases h'
    | true => rw [hb] at h'; rw [Nat.eq_of_beq_eq_true hb]; exact ⟨l, ho, h'⟩
  | .node m l r, ho, h => by
    have h' : Bool.rec (motive := fun _ => XR) (r.of f K) (l.of f K) (Nat.blt f m) = some x := h
    cases hb : Nat.blt f m with
    | false => rw [hb] at h'; exact PT.of_some ho.2 h'
    | true => rw [hb] at h'; exact PT.of_some ho.1 h'
/-- where the variable reads as it should -/
def gK (g : Nat) (cs : List AV) (h : AH) (v : AV) : XR := Bool.rec (motive := fun _ => XR) none (some (v, h)) (gOkF g cs h.H)
theorem gK_some {g : Nat} {cs : List AV} {h : AH} {v : AV} {x : AV × AH} (hh : gK g cs h v = some x) : x = (v, h) ∧ h.H.get g = some (.glob g cs) := by
  unfold gK at hh
  cases hb : gOkF g cs h.H with
  | false => rw [hb] at hh; cases hh
  | true => rw [hb] at hh; cases hh; exact ⟨rfl, gOkF_get hb⟩
def pX (g : Nat) (cs : List AV) (t : PT) : Handler := fun f args h => t.of f fun l => lookX (feR bq) args l none (gK g cs h)
def gX (g : Nat) (cs : List AV) (t : PT) : Handler := fun f args h => t.of f fun l => lookX (feR (fe false h.H 100)) args l none (gK g cs h)
theorem feR_bq : ∀ (l m : List AV), feR bq l m = true → l = m
  | [], [], _ => rfl
  | [], _ :: _, hh => by exact Bool.noConfusion hh
  | _ :: _, [], hh => by exact Bool.noConfusion hh
  | a :: l, b :: m, hh => by
    obtain ⟨h2, h1⟩ := nd_true (show nd (feR bq l m) (bq a b) = true from hh)
    rw [bq_eq _ _ h1, feR_bq l m h2]
theorem pX_ok {P : Program} {g : Nat} {cs : List AV} {t : PT} (ho : t.All (PVOk P g cs)) : FOk P (pX g cs t) := by
  intro f args h v h' ha
  obtain ⟨l, hl, h1⟩ := PT.of_some ho ha
  obtain ⟨e, he, h2, h3⟩ := lookX_some h1
  obtain ⟨h4, h5⟩ := gK_some h3
  cases h4
  obtain ⟨rfl, h6⟩ := hl e he
  rw [feR_bq _ _ h2]
  exact h6 h h5
theorem gX_ok {P : Program} {g : Nat} {cs : List AV} {t : PT} (ho : t.All (GVOk P g cs)) : FOk P (gX g cs t) := by
  intro f args h v h' ha
  obtain ⟨l, hl, h1⟩ := PT.of_some ho ha
  obtain ⟨e, he, h2, h3⟩ := lookX_some h1
  obtain ⟨h4, h5⟩ := gK_some h3
  cases h4
  obtain ⟨rfl, h6⟩ := hl e he
  obtain ⟨n, h7⟩ := feR_ok (K := 0) (h := h) (fun a b hh => fe_ok (K := 0) 100 a b hh) _ _ h2
  exact h6 n args h h5 h7
end
theorem noF_ok {P : Program} : FOk P noH := fun _ _ _ _ _ h => by cases h
end Go.Eng
end
