/- How the words of the printed functions are simplified. -/
import Derived.Test.YtpnekpbehcbmkaaEngZ
set_option linter.unusedSimpArgs false
set_option linter.unusedVariables false
set_option linter.unnecessarySimpa false
namespace Go.Eng

@[simp ↓] theorem wk_some (v : AV) (h : AH) (k : AV → AH → Prop) : wk (some (v, h)) k = k v h := Eq.trans rfl rfl
@[simp ↓] theorem wk_none (k : AV → AH → Prop) : wk none k = False := Eq.trans rfl rfl
@[simp ↓] theorem wif_bool (b : Bool) (x y : Prop) : wif (.bool b) x y = ((b = true → x) ∧ (b = false → y)) := Eq.trans rfl rfl
@[simp] theorem gdv_bool (b c : Bool) : gdv b (.bool c) = some (c == b) := Eq.trans rfl rfl
@[simp] theorem gdv_skip (b : Bool) : gdv b skipped = some false := Eq.trans rfl rfl
@[simp ↓] theorem wg_some (b : Bool) (A : (AV → AH → Prop) → Prop) (h : AH) (k : AV → AH → Prop) : wg (some b) A h k = ((b = true → A k) ∧ (b = false → k skipped h)) := Eq.trans rfl rfl
@[simp ↓] theorem wgd_some (b : Bool) (A : (AV → Rec → AH → Prop) → Prop) (h : AH) (k : AV → Rec → AH → Prop) : wgd (some b) A h k = ((b = true → A k) ∧ (b = false → k skipped .pure h)) := Eq.trans rfl rfl
@[simp ↓] theorem wsp_bool (b : Bool) (K : AV → Prop) : wsp (.bool b) K = ((b = true → K (.bool true)) ∧ (b = false → K (.bool false))) := Eq.trans rfl rfl
@[simp ↓] theorem wsp_skip (K : AV → Prop) : wsp skipped K = K skipped := Eq.trans rfl rfl
attribute [simp ↓] xs
@[simp ↓ high] theorem wsp_true (K : AV → Prop) : wsp (.bool true) K = K (.bool true) := by simp [wsp]
@[simp ↓ high] theorem wsp_false (K : AV → Prop) : wsp (.bool false) K = K (.bool false) := by simp [wsp]
@[simp ↓ high] theorem wg_true (A : (AV → AH → Prop) → Prop) (h : AH) (k : AV → AH → Prop) : wg (some true) A h k = A k := by simp [wg]
@[simp ↓ high] theorem wg_false (A : (AV → AH → Prop) → Prop) (h : AH) (k : AV → AH → Prop) : wg (some false) A h k = k skipped h := by simp [wg]
@[simp ↓ high] theorem wgd_true (A : (AV → Rec → AH → Prop) → Prop) (h : AH) (k : AV → Rec → AH → Prop) : wgd (some true) A h k = A k := by simp [wgd]
@[simp ↓ high] theorem wgd_false (A : (AV → Rec → AH → Prop) → Prop) (h : AH) (k : AV → Rec → AH → Prop) : wgd (some false) A h k = k skipped .pure h := by simp [wgd]
@[simp ↓ high] theorem wif_true (x y : Prop) : wif (.bool true) x y = x := by simp [wif]
@[simp ↓ high] theorem wif_false (x y : Prop) : wif (.bool false) x y = y := by simp [wif]
@[simp high] theorem gdv_tt : gdv true (.bool true) = some true := Eq.trans rfl rfl
@[simp high] theorem gdv_tf : gdv true (.bool false) = some false := Eq.trans rfl rfl
@[simp high] theorem gdv_ft : gdv false (.bool true) = some false := Eq.trans rfl rfl
@[simp high] theorem gdv_ff : gdv false (.bool false) = some true := Eq.trans rfl rfl
@[simp high] theorem kPick_true (h : AH) (x y : AV) : kPick h (.bool true) x y = some (x, h) := Eq.trans rfl rfl
@[simp high] theorem kPick_false (h : AH) (x y : AV) : kPick h (.bool false) x y = some (y, h) := Eq.trans rfl rfl
@[simp ↓] theorem wres_some (vs : List AV) (h : AH) (Q : AV → AH → Prop) : wres (some vs) h Q = Q (aret vs) h := Eq.trans rfl rfl
@[simp] theorem aret_one (v : AV) : aret [v] = v := Eq.trans rfl rfl
@[simp] theorem aret_two (u v : AV) (vs : List AV) : aret (u :: v :: vs) = .tup (u :: v :: vs) := Eq.trans rfl rfl
@[simp] theorem aret_nil : aret [] = .tup [] := Eq.trans rfl rfl
@[simp] theorem nthD_zero (a : AV) (l : List AV) : nthD (a :: l) 0 = a := Eq.trans rfl rfl
@[simp] theorem nthD_succ (a : AV) (l : List AV) (n : Nat) : nthD (a :: l) (n + 1) = nthD l n := Eq.trans rfl rfl
@[simp ↓] theorem lk_nrm (m : Nat) (I : Nat → List AV → AH → Prop) (k : AX → List AV → AH → Prop) (vi vo : List AV) (h : AH) : lk m I k .nrm vi vo h = ∃ m', m' < m ∧ I m' vi h := Eq.trans rfl rfl
@[simp ↓] theorem lk_exit (m : Nat) (I : Nat → List AV → AH → Prop) (k : AX → List AV → AH → Prop) (j : Nat) (vi vo : List AV) (h : AH) : lk m I k (.exit j) vi vo h = k (.exit j) vo h := Eq.trans rfl rfl
@[simp ↓] theorem lk_ret (m : Nat) (I : Nat → List AV → AH → Prop) (k : AX → List AV → AH → Prop) (vi vo : List AV) (h : AH) : lk m I k .ret vi vo h = k .ret vo h := Eq.trans rfl rfl
@[simp ↓] theorem wcall_func (cl : CL) (g : Nat) (first captured args : List AV) (h : AH) (k : AV → AH → Prop) : wcall cl (.func (.func g) first captured) args h k = cl g (first ++ args ++ captured) h k := Eq.trans rfl rfl
@[simp ↓] theorem wdc_func (cl : CL) (g : Nat) (first captured args : List AV) (h : AH) (k : AV → Rec → AH → Prop) : wdc cl (.func (.func g) first captured) args h k = cl g (first ++ args ++ captured) h fun v h' => h.nx ≤ h'.nx ∧ k v (.eff h h') h' := Eq.trans rfl rfl
@[simp ↓] theorem wdr_eq (h : AH) (n : Nat) (k : Nat → AH → Prop) : wdr h n k = k h.nx ⟨h.H, h.nx + n⟩ := Eq.trans rfl rfl
@[simp ↓] theorem wdp_some (h : AH) (v : AV) (h' : AH) (c : Rec) (k : AV → Rec → AH → Prop) : wdp h (some (v, h')) c k = k v c h := Eq.trans rfl rfl
@[simp ↓] theorem wde_some (h : AH) (v : AV) (h' : AH) (k : AV → Rec → AH → Prop) : wde h (some (v, h')) k = (h.nx ≤ h'.nx ∧ k v (.eff h h') h') := Eq.trans rfl rfl

/-! the continuations are left alone until they are reached -/
@[congr] theorem wk_congr {r r' : Option (AV × AH)} {k : AV → AH → Prop} (h : r = r') : wk r k = wk r' k := by rw [h]
@[congr] theorem wif_congr {c c' : AV} {x y : Prop} (h : c = c') : wif c x y = wif c' x y := by rw [h]
@[congr] theorem wsp_congr {v v' : AV} {K : AV → Prop} (h : v = v') : wsp v K = wsp v' K := by rw [h]
@[congr] theorem wg_congr {g g' : Option Bool} {A : (AV → AH → Prop) → Prop} {h : AH} {k : AV → AH → Prop} (hg : g = g') : wg g A h k = wg g' A h k := by rw [hg]
@[congr] theorem wgd_congr {g g' : Option Bool} {A : (AV → Rec → AH → Prop) → Prop} {h : AH} {k : AV → Rec → AH → Prop} (hg : g = g') : wgd g A h k = wgd g' A h k := by rw [hg]
@[congr] theorem wdp_congr {h : AH} {x x' : Option (AV × AH)} {c : Rec} {k : AV → Rec → AH → Prop} (hx : x = x') : wdp h x c k = wdp h x' c k := by rw [hx]
@[congr] theorem wde_congr {h : AH} {x x' : Option (AV × AH)} {k : AV → Rec → AH → Prop} (hx : x = x') : wde h x k = wde h x' k := by rw [hx]
@[congr] theorem wda_congr {r : Nat} {h : AH} {x x' : Option (List AV × (Nat → AV))} {k : AV → Rec → AH → Prop} (hx : x = x') : wda r h x k = wda r h x' k := by rw [hx]
@[congr] theorem wcall_congr {cl : CL} {f f' : AV} {args args' : List AV} {h : AH} {k : AV → AH → Prop} (hf : f = f') (ha : args = args') : wcall cl f args h k = wcall cl f' args' h k := by rw [hf, ha]
@[congr] theorem wdc_congr {cl : CL} {f f' : AV} {args args' : List AV} {h : AH} {k : AV → Rec → AH → Prop} (hf : f = f') (ha : args = args') : wdc cl f args h k = wdc cl f' args' h k := by rw [hf, ha]
@[congr] theorem wjoin_congr {A : (AX → List AV → AH → Prop) → Prop} {k : AX → List AV → AH → Prop} : wjoin A k = wjoin A k := Eq.trans rfl rfl
@[congr] theorem wjoinN_congr {A : (List AV → AH → Prop) → Prop} {k : List AV → AH → Prop} : wjoinN A k = wjoinN A k := Eq.trans rfl rfl
@[congr] theorem wloop_congr {B : List AV → AH → (AX → List AV → List AV → AH → Prop) → Prop} {vs : List AV} {h : AH} {k : AX → List AV → AH → Prop} : wloop B vs h k = wloop B vs h k := Eq.trans rfl rfl
@[congr] theorem wres_congr {r r' : Option (List AV)} {h : AH} {Q : AV → AH → Prop} (hr : r = r') : wres r h Q = wres r' h Q := by rw [hr]

@[simp] theorem stow_agg (cs : List AV) : stow (.agg cs) = true := by unfold stow; rfl
@[simp] theorem stow_int (k : IntKind) (n : Int) : stow (.int k n) = true := by unfold stow; rfl
@[simp] theorem stow_bool (b : Bool) : stow (.bool b) = true := by unfold stow; rfl
@[simp] theorem stow_str (b : List UInt8) : stow (.str b) = true := by unfold stow; rfl
@[simp] theorem stow_func (f : Fn) (a b : List AV) : stow (.func f a b) = true := by unfold stow; rfl
@[simp] theorem stow_psl (l : List (List AV)) : stow (.psl l) = true := by unfold stow; rfl
@[simp] theorem stow_rsl (a b c d : Nat) : stow (.rsl a b c d) = true := by unfold stow; rfl
@[simp] theorem stow_nilsl : stow .nilsl = true := by unfold stow; rfl
@[simp] theorem stow_ptr (a b : Nat) : stow (.ptr a b) = true := by unfold stow; rfl
@[simp] theorem stow_nilptr : stow .nilptr = true := by unfold stow; rfl
@[simp] theorem aresV_nil (h : AH) : aresV h [] = some [] := Eq.trans rfl rfl
@[simp] theorem aresV_val (h : AH) (v : AV) (r : List RV) : aresV h (.val v :: r) = match aresV h r with | some l => some (v :: l) | none => none := Eq.trans rfl rfl
@[simp] theorem aresV_cell1 (h : AH) (a : AV) (r : List RV) : aresV h (.cell a none :: r) = match aload1 h a, aresV h r with | some v, some l => some (v :: l) | _, _ => none := Eq.trans rfl rfl
@[simp] theorem aresV_celln (h : AH) (a : AV) (n : Nat) (r : List RV) : aresV h (.cell a (some n) :: r) = match (aloadn h n a).map .agg, aresV h r with | some v, some l => some (v :: l) | _, _ => none := Eq.trans rfl rfl
@[simp] theorem kBuild_eq (h : AH) (zero : List AV) (ps : List (Nat × Nat × AV)) : kBuild h zero ps = match afill zero ps with | some cs => some (.agg cs, h) | none => none := Eq.trans rfl rfl
@[simp] theorem afill_nil (cs : List AV) : afill cs [] = some cs := Eq.trans rfl rfl
@[simp] theorem afill_cons (cs : List AV) (off size : Nat) (x : AV) (r : List (Nat × Nat × AV)) (hs : stow x = true) : afill cs ((off, size, x) :: r) = if x.cells.length = size then (match splice cs off x.cells with | some cs' => afill cs' r | none => none) else none := by
  show (if stow x then _ else _) = _
  rw [if_pos hs]; rfl
/-! ## the heap of owned objects -/
@[simp] theorem nx_add (h : AH) (o : AObj) : (h.add o).nx = h.nx + 1 := by cases h; rfl
@[simp] theorem nx_set (h : AH) (i : Nat) (o : AObj) : (h.set i o).nx = h.nx := by cases h; rfl
@[simp] theorem nx_kill (h : AH) (i : Nat) : (h.kill i).nx = h.nx := by cases h; rfl
@[simp] theorem nx_mk (H : Hp) (n : Nat) : AH.nx ⟨H, n⟩ = n := Eq.trans rfl rfl
@[simp] theorem nx_emp : emp.nx = 0 := by decide
theorem get_add (h : AH) (o : AObj) (i : Nat) : (h.add o).H.get i = if i = h.nx then some o else h.H.get i := PM.get_put _ _ _ _
theorem get_set (h : AH) (j : Nat) (o : AObj) (i : Nat) : (h.set j o).H.get i = if i = j then some o else h.H.get i := PM.get_put _ _ _ _
theorem get_kill (h : AH) (j : Nat) (i : Nat) : (h.kill j).H.get i = if i = j then none else h.H.get i := PM.get_del _ _ _
theorem cellsAt_congr {h h' : AH} {i : Nat} (he : h'.H.get i = h.H.get i) : h'.cellsAt i = h.cellsAt i := by unfold AH.cellsAt; rw [he]
theorem cellsAt_add_self (h : AH) (cs : List AV) (i : Nat) (hi : i = h.nx) : (h.add (.cells cs)).cellsAt i = some cs := by unfold AH.cellsAt; rw [get_add, if_pos hi]
theorem cellsAt_add_ne (h : AH) (o : AObj) (i : Nat) (hi : i ≠ h.nx) : (h.add o).cellsAt i = h.cellsAt i := cellsAt_congr (by rw [get_add, if_neg hi])
theorem cellsAt_set_self (h : AH) (cs : List AV) (i j : Nat) (hi : i = j) : (h.set j (.cells cs)).cellsAt i = some cs := by unfold AH.cellsAt; rw [get_set, if_pos hi]
theorem cellsAt_set_ne (h : AH) (o : AObj) (i j : Nat) (hi : i ≠ j) : (h.set j o).cellsAt i = h.cellsAt i := cellsAt_congr (by rw [get_set, if_neg hi])
theorem cellsAt_kill_ne (h : AH) (i j : Nat) (hi : i ≠ j) : (h.kill j).cellsAt i = h.cellsAt i := cellsAt_congr (by rw [get_kill, if_neg hi])
@[simp] theorem cellsAt_add (h : AH) (cs : List AV) (i : Nat) : (h.add (.cells cs)).cellsAt i = if i = h.nx then some cs else h.cellsAt i := by
  split
  · rename_i hi; exact cellsAt_add_self h cs i hi
  · rename_i hi; exact cellsAt_add_ne h _ i hi
@[simp] theorem cellsAt_set (h : AH) (cs : List AV) (i j : Nat) : (h.set j (.cells cs)).cellsAt i = if i = j then some cs else h.cellsAt i := by
  split
  · rename_i hi; exact cellsAt_set_self h cs i j hi
  · rename_i hi; exact cellsAt_set_ne h _ i j hi
@[simp] theorem cellsAt_kill (h : AH) (i j : Nat) : (h.kill j).cellsAt i = if i = j then none else h.cellsAt i := by
  split
  · rename_i hi; unfold AH.cellsAt; rw [get_kill, if_pos hi]
  · rename_i hi; exact cellsAt_kill_ne h i j hi
@[simp] theorem cellsAt_mk (h : AH) (n i : Nat) : AH.cellsAt ⟨h.H, n⟩ i = h.cellsAt i := Eq.trans rfl rfl
theorem AH.eta (h : AH) : (⟨h.H, h.nx⟩ : AH) = h := Eq.trans rfl rfl

/-! ## operations -/
@[simp] theorem kMov_eq (h : AH) (x : AV) : kMov h x = some (x, h) := Eq.trans rfl rfl
@[simp] theorem kPick_bool (h : AH) (b : Bool) (x y : AV) : kPick h (.bool b) x y = some (if b then x else y, h) := Eq.trans rfl rfl
@[simp] theorem kNew_eq (h : AH) (zero : List AV) : kNew h zero = some (.ptr h.nx 0, h.add (.cells zero)) := Eq.trans rfl rfl
@[simp] theorem kBox_agg (h : AH) (cs : List AV) : kBox h (.agg cs) = some (.ptr h.nx 0, h.add (.cells cs)) := Eq.trans rfl rfl
@[simp] theorem kBox_int (h : AH) (k : IntKind) (n : Int) : kBox h (.int k n) = some (.ptr h.nx 0, h.add (.cells [.int k n])) := Eq.trans rfl rfl
@[simp] theorem kBox_bool (h : AH) (b : Bool) : kBox h (.bool b) = some (.ptr h.nx 0, h.add (.cells [.bool b])) := Eq.trans rfl rfl
@[simp] theorem kBox_psl (h : AH) (l : List (List AV)) : kBox h (.psl l) = some (.ptr h.nx 0, h.add (.cells [.psl l])) := Eq.trans rfl rfl
@[simp] theorem kBox_rsl (h : AH) (a b c d : Nat) : kBox h (.rsl a b c d) = some (.ptr h.nx 0, h.add (.cells [.rsl a b c d])) := Eq.trans rfl rfl
theorem kLd1_ptr {h : AH} {id off : Nat} {cs : List AV} {v : AV} (hc : h.cellsAt id = some cs) (hv : cs[off]? = some v) : kLd1 h (.ptr id off) = some (v, h) := by
  simp [kLd1, aload1, hc, hv]
theorem kLdn_ptr {h : AH} {id off n : Nat} {cs ds : List AV} (hc : h.cellsAt id = some cs) (hv : cut cs off n = some ds) : kLdn h n (.ptr id off) = some (.agg ds, h) := by
  simp [kLdn, aloadn, hc, hv]
@[simp] theorem kLd1_ptr' (h : AH) (id off : Nat) : kLd1 h (.ptr id off) = match h.cellsAt id with | some cs => (match cs[off]? with | some v => some (v, h) | none => none) | none => none := by
  simp only [kLd1, aload1]; cases h.cellsAt id <;> rfl
@[simp] theorem kLdn_ptr' (h : AH) (n id off : Nat) : kLdn h n (.ptr id off) = match h.cellsAt id with | some cs => (match cut cs off n with | some ds => some (.agg ds, h) | none => none) | none => none := by
  simp only [kLdn, aloadn]; cases h.cellsAt id <;> rfl
@[simp] theorem kLd1_pptr (h : AH) (cs : List AV) : kLd1 h (.pptr cs) = match cs[0]? with | some v => some (v, h) | none => none := Eq.trans rfl rfl
@[simp] theorem kLdn_pptr (h : AH) (n : Nat) (cs : List AV) : kLdn h n (.pptr cs) = match cut cs 0 n with | some ds => some (.agg ds, h) | none => none := Eq.trans rfl rfl
theorem cut_drop {cs : List AV} {a n : Nat} (b : Nat) (ha : a ≤ cs.length) : cut (cs.drop a) b n = cut cs (a + b) n := by
  unfold cut
  have : (b + n ≤ (cs.drop a).length) ↔ (a + b + n ≤ cs.length) := by simp; omega
  simp only [this, List.drop_drop]
@[simp] theorem aload1_ptr (h : AH) (id off : Nat) : aload1 h (.ptr id off) = match h.cellsAt id with | some cs => cs[off]? | none => none := Eq.trans rfl rfl
@[simp] theorem aload1_pptr (h : AH) (cs : List AV) : aload1 h (.pptr cs) = cs[0]? := Eq.trans rfl rfl
@[simp] theorem aloadn_ptr (h : AH) (n id off : Nat) : aloadn h n (.ptr id off) = match h.cellsAt id with | some cs => cut cs off n | none => none := Eq.trans rfl rfl
@[simp] theorem aloadn_pptr (h : AH) (n : Nat) (cs : List AV) : aloadn h n (.pptr cs) = cut cs 0 n := Eq.trans rfl rfl
@[simp] theorem cut_all {cs : List AV} {n : Nat} (hn : cs.length = n) : cut cs 0 n = some cs := by simp [cut, ← hn]
@[simp] theorem splice_all {cs new : List AV} (h : new.length = cs.length) : splice cs 0 new = some new := by simp [splice, h]
@[simp] theorem splice_zero (a b : AV) (l : List AV) : splice (a :: l) 0 [b] = some (b :: l) := by simp [splice]
@[simp] theorem splice_succ (a : AV) (l : List AV) (n : Nat) (new : List AV) : splice (a :: l) (n + 1) new = (splice l n new).map (a :: ·) := by
  unfold splice
  simp only [List.length_cons, List.take_succ_cons, List.drop_succ_cons, show n + 1 + new.length = (n + new.length) + 1 by omega, Nat.add_le_add_iff_right]
  split <;> simp
theorem kSt_ptr {h : AH} {n id off : Nat} {cs cs' new : List AV} (hn : new.length = n) (ho : ones new = true) (hc : h.cellsAt id = some cs) (hs : splice cs off new = some cs') : kSt h n (.ptr id off) (.agg new) = some (.undef, h.set id (.cells cs')) := by
  simp [kSt, stow, AV.cells, hn, ho, hc, hs]
theorem kSt1_ptr {h : AH} {id off : Nat} {v : AV} {cs cs' : List AV} (ho : v.one = true) (hc : h.cellsAt id = some cs) (hs : splice cs off [v] = some cs') : kSt h 1 (.ptr id off) v = some (.undef, h.set id (.cells cs')) := by
  have h1 : stow v = true := by cases v <;> first | rfl | simp [AV.one] at ho
  have h2 : v.cells = [v] := by cases v <;> first | rfl | simp [AV.one] at ho
  simp [kSt, h1, h2, ones, ho, hc, hs]
@[simp] theorem cells_agg (cs : List AV) : AV.cells (.agg cs) = cs := Eq.trans rfl rfl
@[simp] theorem cells_int (k : IntKind) (n : Int) : AV.cells (.int k n) = [.int k n] := Eq.trans rfl rfl
@[simp] theorem cells_bool (b : Bool) : AV.cells (.bool b) = [.bool b] := Eq.trans rfl rfl
@[simp] theorem cells_str (b : List UInt8) : AV.cells (.str b) = [.str b] := Eq.trans rfl rfl
@[simp] theorem cells_func (f : Fn) (a b : List AV) : AV.cells (.func f a b) = [.func f a b] := Eq.trans rfl rfl
@[simp] theorem cells_psl (l : List (List AV)) : AV.cells (.psl l) = [.psl l] := Eq.trans rfl rfl
@[simp] theorem cells_rsl (a b c d : Nat) : AV.cells (.rsl a b c d) = [.rsl a b c d] := Eq.trans rfl rfl
@[simp] theorem cells_nilsl : AV.cells .nilsl = [.nilsl] := Eq.trans rfl rfl
@[simp] theorem cells_ptr (a b : Nat) : AV.cells (.ptr a b) = [.ptr a b] := Eq.trans rfl rfl
@[simp] theorem cells_nilptr : AV.cells .nilptr = [.nilptr] := Eq.trans rfl rfl
@[simp] theorem ones_nil : ones [] = true := Eq.trans rfl rfl
@[simp] theorem ones_cons (a : AV) (l : List AV) : ones (a :: l) = (a.one && ones l) := Eq.trans rfl rfl
@[simp] theorem one_int (k : IntKind) (n : Int) : AV.one (.int k n) = true := Eq.trans rfl rfl
@[simp] theorem one_bool (b : Bool) : AV.one (.bool b) = true := Eq.trans rfl rfl
@[simp] theorem one_str (b : List UInt8) : AV.one (.str b) = true := Eq.trans rfl rfl
@[simp] theorem one_func (f : Fn) (a b : List AV) : AV.one (.func f a b) = true := Eq.trans rfl rfl
@[simp] theorem one_psl (l : List (List AV)) : AV.one (.psl l) = true := Eq.trans rfl rfl
@[simp] theorem one_rsl (a b c d : Nat) : AV.one (.rsl a b c d) = true := Eq.trans rfl rfl
@[simp] theorem one_nilsl : AV.one .nilsl = true := Eq.trans rfl rfl
@[simp] theorem one_ptr (a b : Nat) : AV.one (.ptr a b) = true := Eq.trans rfl rfl
@[simp] theorem one_nilptr : AV.one .nilptr = true := Eq.trans rfl rfl
@[simp] theorem kSt_ptr' (h : AH) (n id off : Nat) (x : AV) (hs : stow x = true) : kSt h n (.ptr id off) x = if x.cells.length = n && ones x.cells then (match h.cellsAt id with | some cs => (match splice cs off x.cells with | some cs' => some (.undef, h.set id (.cells cs')) | none => none) | none => none) else none := by
  show (if stow x then _ else _) = _
  rw [if_pos hs]; rfl
@[simp] theorem kNilchk_ptr (h : AH) (a b : Nat) : kNilchk h (.ptr a b) = some (.ptr a b, h) := Eq.trans rfl rfl
@[simp] theorem kNilchk_pptr (h : AH) (cs : List AV) : kNilchk h (.pptr cs) = some (.pptr cs, h) := Eq.trans rfl rfl
@[simp] theorem kArith_eql (h : AH) (k : IntKind) (a b : Int) : kArith h .eql (.int k a) (.int k b) = some (.bool (a == b), h) := by simp [kArith, aarith, isShift, iarith]
@[simp] theorem kArith_neq (h : AH) (k : IntKind) (a b : Int) : kArith h .neq (.int k a) (.int k b) = some (.bool (a != b), h) := by simp [kArith, aarith, isShift, iarith]
@[simp] theorem kArith_lss (h : AH) (k : IntKind) (a b : Int) : kArith h .lss (.int k a) (.int k b) = some (.bool (decide (a < b)), h) := by simp [kArith, aarith, isShift, iarith]
@[simp] theorem kArith_leq (h : AH) (k : IntKind) (a b : Int) : kArith h .leq (.int k a) (.int k b) = some (.bool (decide (a ≤ b)), h) := by simp [kArith, aarith, isShift, iarith]
@[simp] theorem kArith_gtr (h : AH) (k : IntKind) (a b : Int) : kArith h .gtr (.int k a) (.int k b) = some (.bool (decide (b < a)), h) := by simp [kArith, aarith, isShift, iarith]
@[simp] theorem kArith_geq (h : AH) (k : IntKind) (a b : Int) : kArith h .geq (.int k a) (.int k b) = some (.bool (decide (b ≤ a)), h) := by simp [kArith, aarith, isShift, iarith]
@[simp] theorem kArith_seql (h : AH) (a b : List UInt8) : kArith h .eql (.str a) (.str b) = some (.bool (a == b), h) := by simp [kArith, aarith, sarith]
@[simp] theorem kArith_sneq (h : AH) (a b : List UInt8) : kArith h .neq (.str a) (.str b) = some (.bool (!(a == b)), h) := by simp [kArith, aarith, sarith]

theorem wrap64 {n : Int} (h1 : -9223372036854775808 ≤ n) (h2 : n ≤ 9223372036854775807) : IntKind.i64.wrap n = n := by
  unfold IntKind.wrap
  show (if (true && decide (n % 18446744073709551616 ≥ 9223372036854775808)) = true then n % 18446744073709551616 - 18446744073709551616 else n % 18446744073709551616) = n
  simp only [Bool.true_and, decide_eq_true_eq]
  split <;> omega
@[simp] theorem kArith_add (h : AH) (a b : Int) (h1 : -9223372036854775808 ≤ a + b) (h2 : a + b ≤ 9223372036854775807) : kArith h .add (.int .i64 a) (.int .i64 b) = some (.int .i64 (a + b), h) := by simp [kArith, aarith, isShift, iarith, wrap64 h1 h2]
@[simp] theorem kArith_sub (h : AH) (a b : Int) (h1 : -9223372036854775808 ≤ a - b) (h2 : a - b ≤ 9223372036854775807) : kArith h .sub (.int .i64 a) (.int .i64 b) = some (.int .i64 (a - b), h) := by simp [kArith, aarith, isShift, iarith, wrap64 h1 h2]
@[simp] theorem kArith_mul (h : AH) (a b : Int) (h1 : -9223372036854775808 ≤ a * b) (h2 : a * b ≤ 9223372036854775807) : kArith h .mul (.int .i64 a) (.int .i64 b) = some (.int .i64 (a * b), h) := by simp [kArith, aarith, isShift, iarith, wrap64 h1 h2]
theorem kArith_quo (h : AH) (a b : Int) (hb : b ≠ 0) (h1 : -9223372036854775808 ≤ a.tdiv b) (h2 : a.tdiv b ≤ 9223372036854775807) : kArith h .quo (.int .i64 a) (.int .i64 b) = some (.int .i64 (a.tdiv b), h) := by simp [kArith, aarith, isShift, iarith, hb, wrap64 h1 h2]
theorem kArith_rem (h : AH) (k : IntKind) (a b : Int) (hb : b ≠ 0) : kArith h .rem (.int k a) (.int k b) = some (.int k (a.tmod b), h) := by simp [kArith, aarith, isShift, iarith, hb]
@[simp] theorem kUn_neg (h : AH) (a : Int) (h1 : -9223372036854775807 ≤ a) (h2 : a ≤ 9223372036854775807) : kUn h .neg (.int .i64 a) = some (.int .i64 (-a), h) := by simp [kUn, aun, wrap64 (n := -a) (by omega) (by omega)]
@[simp] theorem kUn_not (h : AH) (b : Bool) : kUn h .not (.bool b) = some (.bool !b, h) := Eq.trans rfl rfl
@[simp] theorem kEqs_bool (h : AH) (neg a b : Bool) : kEqs h neg (.bool a) (.bool b) = some (.bool (if neg then !(a == b) else a == b), h) := Eq.trans rfl rfl
@[simp] theorem kEqf_agg (h : AH) (neg : Bool) (ks : List SK) (a b : List AV) : kEqf h neg ks (.agg a) (.agg b) = match eqCells ks a b with | some r => some (.bool (if neg then !r else r), h) | none => none := Eq.trans rfl rfl
@[simp] theorem kConvI_int (h : AH) (k k' : IntKind) (n : Int) : kConvI h k (.int k' n) = some (.int k (k.wrap n), h) := Eq.trans rfl rfl
@[simp] theorem kFldA_ptr (h : AH) (off id o : Nat) : kFldA h off (.ptr id o) = some (.ptr id (o + off), h) := Eq.trans rfl rfl
@[simp] theorem kFldA_pptr {h : AH} {off : Nat} {cs : List AV} (hl : off ≤ cs.length) : kFldA h off (.pptr cs) = some (.pptr (cs.drop off), h) := by simp [kFldA, afldA, hl]
@[simp] theorem kLen_psl (h : AH) (l : List (List AV)) : kLen h (.psl l) = some (.int .i64 l.length, h) := Eq.trans rfl rfl
@[simp] theorem kLen_rsl (h : AH) (a b c d : Nat) : kLen h (.rsl a b c d) = some (.int .i64 c, h) := Eq.trans rfl rfl
@[simp] theorem kLen_nilsl (h : AH) : kLen h .nilsl = some (.int .i64 0, h) := Eq.trans rfl rfl
@[simp] theorem kLen_esl (h : AH) : kLen h .esl = some (.int .i64 0, h) := Eq.trans rfl rfl
@[simp] theorem kLenS_str (h : AH) (s : List UInt8) : kLenS h (.str s) = some (.int .i64 s.length, h) := Eq.trans rfl rfl
@[simp] theorem kLenc_eq (h : AH) (n : Nat) : kLenc h n = some (.int .i64 n, h) := Eq.trans rfl rfl
@[simp] theorem kExt_zero (h : AH) (v : AV) (vs : List AV) : kExt h (.tup (v :: vs)) 0 = some (v, h) := Eq.trans rfl rfl
@[simp] theorem kExt_one (h : AH) (u v : AV) (vs : List AV) : kExt h (.tup (u :: v :: vs)) 1 = some (v, h) := Eq.trans rfl rfl
@[simp] theorem kExt_two (h : AH) (t u v : AV) (vs : List AV) : kExt h (.tup (t :: u :: v :: vs)) 2 = some (v, h) := Eq.trans rfl rfl
@[simp] theorem kMkf_eq (h : AH) (fn : Fn) (a b : List AV) : kMkf h fn a b = some (.func fn a b, h) := Eq.trans rfl rfl
theorem aix_int {n : Nat} {i : Int} (h1 : 0 ≤ i) (h2 : i < n) (k : IntKind) : aix n (.int k i) = some i.toNat := by simp [aix, aidx, h1, h2]
theorem kIdxA_psl {h : AH} {z : Nat} {l : List (List AV)} {i : Nat} {c : List AV} (hc : l[i]? = some c) (hz : c.length = z) : kIdxA h z (.psl l) (.int .i64 i) = some (.pptr c, h) := by
  have hi : i < l.length := (List.getElem?_eq_some_iff.1 hc).1
  have : aix l.length (.int .i64 i) = some i := by simp [aix_int (Int.natCast_nonneg i) (by omega : (i : Int) < l.length)]
  simp [kIdxA, aidxA, this, hc, hz]
theorem kIdxA_rsl {h : AH} {z id off len : Nat} {i : Int} (h0 : 0 ≤ i) (h1 : i < len) : kIdxA h z (.rsl id off len z) (.int .i64 i) = some (.ptr id (off + i.toNat * z), h) := by
  simp [kIdxA, aidxA, aix_int h0 h1]

/-! ## records of regions that draw their order -/
mutual
theorem AV.beq_refl : ∀ (a : AV), AV.beq a a = true
  | .undef | .nilptr | .nilsl | .esl | .nilmap | .nilfunc | .nilif => by simp [AV.beq]
  | .bool _ | .int _ _ | .str _ | .ptr _ _ | .gptr _ _ | .rsl _ _ _ _ | .mapv _ => by simp [AV.beq]
  | .agg a => by simp [AV.beq, AV.beqL_refl a]
  | .tup a => by simp [AV.beq, AV.beqL_refl a]
  | .pptr a => by simp [AV.beq, AV.beqL_refl a]
  | .psl a => by simp [AV.beq, AV.beqLL_refl a]
  | .func _ a b => by simp [AV.beq, AV.beqL_refl a, AV.beqL_refl b]
  | .iface _ a => by simp [AV.beq, AV.beq_refl a]
theorem AV.beqL_refl : ∀ (a : List AV), AV.beqL a a = true
  | [] => by simp [AV.beqL]
  | x :: a => by simp [AV.beqL, AV.beq_refl x, AV.beqL_refl a]
theorem AV.beqLL_refl : ∀ (a : List (List AV)), AV.beqLL a a = true
  | [] => by simp [AV.beqLL]
  | x :: a => by simp [AV.beqLL, AV.beqL_refl x, AV.beqLL_refl a]
end
theorem beqKV_refl : ∀ (a : List (AV × AV)), beqKV a a = true
  | [] => by simp [beqKV]
  | (x, y) :: a => by simp [beqKV, AV.beq_refl, beqKV_refl a]
theorem obEq_refl (o : Option AObj) : obEq o o = true := by
  cases o with
  | none => rfl
  | some o => cases o <;> simp [obEq, AV.beqL_refl, beqKV_refl]
@[simp] theorem rdv_ptr (id o : Nat) : rdv (.ptr id o) = some id := Eq.trans rfl rfl
@[simp] theorem rdv_pptr (cs : List AV) : rdv (.pptr cs) = none := Eq.trans rfl rfl
@[simp] theorem rdK_some (x : Nat) : rdK (some x) = .read x := Eq.trans rfl rfl
@[simp] theorem rdK_none : rdK none = .pure := Eq.trans rfl rfl
@[simp] theorem recOk_pure (y : Rec) : recOk .pure y = true := by cases y <;> rfl
@[simp] theorem recOk_pure' (y : Rec) : recOk y .pure = true := by cases y <;> rfl
@[simp] theorem recOk_eff_read (h : AH) (x : Nat) : recOk (.eff h h) (.read x) = true := obEq_refl _
@[simp] theorem recOk_read_eff (h : AH) (x : Nat) : recOk (.read x) (.eff h h) = true := obEq_refl _
@[simp] theorem recOk_read_alloc (x r : Nat) (cs : List AV) : recOk (.read x) (.alloc r cs) = !decide (r = x) := by
  show (!Nat.beq r x) = _
  by_cases h : r = x
  · subst h; simp
  · have : Nat.beq r x = false := by cases hb : Nat.beq r x with | false => rfl | true => exact absurd (Nat.eq_of_beq_eq_true hb) h
    simp [this, h]
@[simp] theorem recOk_alloc_read (x r : Nat) (cs : List AV) : recOk (.alloc r cs) (.read x) = !decide (r = x) := recOk_read_alloc x r cs
@[simp ↓] theorem wda_some (r : Nat) (h : AH) (cs : List AV) (mk : Nat → AV) (k : AV → Rec → AH → Prop) : wda r h (some (cs, mk)) k = k (mk r) (.alloc r cs) (h.set r (.cells cs)) := Eq.trans rfl rfl
@[simp] theorem alNew_eq (zero : List AV) : alNew zero = some (zero, fun r => .ptr r 0) := Eq.trans rfl rfl
@[simp] theorem alBox_agg (cs : List AV) : alBox (.agg cs) = some (cs, fun r => .ptr r 0) := Eq.trans rfl rfl
@[simp] theorem alBuildSl_eq (z len : Nat) (zero : List AV) (ps : List (Nat × Nat × AV)) : alBuildSl z len zero ps = match afill zero ps with | some cs => some (cs, fun r => .rsl r 0 len z) | none => none := Eq.trans rfl rfl
/-! ## results -/
@[simp] theorem Frz_bool (h : AH) (n a b : Bool) : Frz h n (.bool a) (.bool b) ↔ a = b := ⟨fun h => by cases h; rfl, fun h => by subst h; exact .bool _⟩
@[simp] theorem Frz_int (h : AH) (n : Bool) (k : IntKind) (a b : Int) : Frz h n (.int k a) (.int k b) ↔ a = b := ⟨fun h => by cases h; rfl, fun h => by subst h; exact .int _ _⟩
def FrzL (h : AH) (n : Bool) : List AV → List AV → Prop
  | [], [] => True
  | c :: cs, d :: ds => Frz h n c d ∧ FrzL h n cs ds
  | _, _ => False
theorem FrzL_iff (h : AH) (n : Bool) : ∀ (cs ds : List AV), FrzL h n cs ds ↔ (cs.length = ds.length ∧ ∀ (i : Nat) (c d : AV), cs[i]? = some c → ds[i]? = some d → Frz h n c d)
  | [], [] => by simp [FrzL]
  | [], d :: ds => by simp [FrzL]
  | c :: cs, [] => by simp [FrzL]
  | c :: cs, d :: ds => by
    simp only [FrzL, FrzL_iff h n cs ds, List.length_cons]
    constructor
    · rintro ⟨h1, h2, h3⟩
      refine ⟨by omega, fun i x y hx hy => ?_⟩
      cases i with
      | zero => simp at hx hy; subst hx; subst hy; exact h1
      | succ i => simp at hx hy; exact h3 i x y hx hy
    · rintro ⟨h1, h2⟩
      exact ⟨h2 0 c d (by simp) (by simp), by omega, fun i x y hx hy => h2 (i + 1) x y (by simpa using hx) (by simpa using hy)⟩
@[simp] theorem FrzL_nil (h : AH) (n : Bool) : FrzL h n [] [] = True := Eq.trans rfl rfl
@[simp] theorem FrzL_cons (h : AH) (n : Bool) (c d : AV) (cs ds : List AV) : FrzL h n (c :: cs) (d :: ds) = (Frz h n c d ∧ FrzL h n cs ds) := Eq.trans rfl rfl
@[simp] theorem Frz_agg (h : AH) (n : Bool) (cs ds : List AV) : Frz h n (.agg cs) (.agg ds) ↔ FrzL h n cs ds := by
  rw [FrzL_iff]
  exact ⟨fun hf => by cases hf with | agg _ _ hl hc => exact ⟨hl, hc⟩, fun ⟨h1, h2⟩ => .agg _ _ h1 h2⟩
@[simp] theorem Frz_tup (h : AH) (n : Bool) (cs ds : List AV) : Frz h n (.tup cs) (.tup ds) ↔ FrzL h n cs ds := by
  rw [FrzL_iff]
  exact ⟨fun hf => by cases hf with | tup _ _ hl hc => exact ⟨hl, hc⟩, fun ⟨h1, h2⟩ => .tup _ _ h1 h2⟩
@[simp] theorem Frz_str (h : AH) (n : Bool) (a b : List UInt8) : Frz h n (.str a) (.str b) ↔ a = b := ⟨fun h => by cases h; rfl, fun h => by subst h; exact .str _⟩
/-! ## tables of contracts -/
structure QE (P : Program) where
  f : Nat
  q : List AV → AH → (AV → AH → Prop) → Prop
  ok : ∀ args h Q, q args h Q → ∃ v h', CallD P f args h v h' ∧ Q v h'
def tb {P : Program} : List (QE P) → CL
  | [], _, _, _, _ => False
  | e :: l, f, args, h, Q => cond (Nat.beq e.f f) (e.q args h Q) (tb l f args h Q)
theorem tb_ok {P : Program} : ∀ l : List (QE P), CLOk P (tb l)
  | [], _, _, _, _, h => h.elim
  | e :: l, f, args, h, Q, hq => by
    unfold tb at hq
    cases hb : Nat.beq e.f f with
    | true =>
      rw [hb] at hq
      obtain rfl := Nat.eq_of_beq_eq_true hb
      exact e.ok args h Q hq
    | false => rw [hb] at hq; exact tb_ok l f args h Q hq
theorem tb_here {P : Program} (e : QE P) (l : List (QE P)) (f : Nat) (args : List AV) (h : AH) (Q : AV → AH → Prop) (hf : e.f = f) : tb (e :: l) f args h Q = e.q args h Q := by
  subst hf; simp [tb]
theorem tb_there {P : Program} (e : QE P) (l : List (QE P)) (f : Nat) (args : List AV) (h : AH) (Q : AV → AH → Prop) (hf : e.f ≠ f) : tb (e :: l) f args h Q = tb l f args h Q := by
  have : Nat.beq e.f f = false := by cases hb : Nat.beq e.f f with | false => rfl | true => exact absurd (Nat.eq_of_beq_eq_true hb) hf
  simp [tb, this]
/-- a pure function: its arguments, a condition, its result -/
def QE.pure {P : Program} (f : Nat) {α : Type} (e : α → List AV) (pre : α → Prop) (res : α → AV) (ok : ∀ x, pre x → Pure P f (e x) (res x)) : QE P :=
  ⟨f, fun args h Q => ∃ x, args = e x ∧ pre x ∧ Q (res x) h, fun args h Q ⟨x, h1, h2, h3⟩ => ⟨res x, h, h1 ▸ ok x h2 h, h3⟩⟩
@[simp] theorem QE.pure_f {P : Program} (f : Nat) {α : Type} (e : α → List AV) (pre : α → Prop) (res : α → AV) (ok : ∀ x, pre x → Pure P f (e x) (res x)) : (QE.pure f e pre res ok).f = f := Eq.trans rfl rfl
theorem QE.pure_q {P : Program} {f : Nat} {α : Type} {e : α → List AV} {pre : α → Prop} {res : α → AV} {ok : ∀ x, pre x → Pure P f (e x) (res x)} {x : α} (hinj : ∀ y, e x = e y → x = y) (h : AH) (Q : AV → AH → Prop) :
    (QE.pure f e pre res ok).q (e x) h Q = (pre x ∧ Q (res x) h) := by
  apply propext
  constructor
  · rintro ⟨y, h1, h2, h3⟩
    obtain rfl := hinj y h1
    exact ⟨h2, h3⟩
  · rintro ⟨h2, h3⟩
    exact ⟨x, rfl, h2, h3⟩
/-- a value in which nothing owned occurs, frozen -/
def Plain (a : AV) : Prop := ∀ (h : AH), Frz h false a a
theorem Plain.bool (b : Bool) : Plain (.bool b) := fun _ => .bool b
theorem Plain.int (k : IntKind) (n : Int) : Plain (.int k n) := fun _ => .int k n
theorem Plain.str (s : List UInt8) : Plain (.str s) := fun _ => .str s
theorem Plain.nilfunc : Plain .nilfunc := fun _ => .nilfunc
theorem Plain.nilptr : Plain .nilptr := fun _ => .nilptr
theorem Plain.agg {cs : List AV} (hc : ∀ c ∈ cs, Plain c) : Plain (.agg cs) := fun h => .agg cs cs rfl fun i c d h1 h2 => by
  rw [h1] at h2; cases h2; exact hc c (List.mem_of_getElem? h1) h
theorem Plain.psl {xs : List (List AV)} (hc : ∀ x ∈ xs, ∀ c ∈ x, Plain c) : Plain (.psl xs) := fun h => .psl rfl xs xs rfl (fun i x y h1 h2 => by rw [h1] at h2; cases h2; rfl) fun i x y j c d h1 h2 h3 h4 => by
  rw [h1] at h2; cases h2; rw [h3] at h4; cases h4; exact hc x (List.mem_of_getElem? h1) c (List.mem_of_getElem? h3) h
theorem Plain.pptr {cs : List AV} (hc : ∀ c ∈ cs, Plain c) : Plain (.pptr cs) := fun h => .pptr rfl cs cs rfl fun i c d h1 h2 => by
  rw [h1] at h2; cases h2; exact hc c (List.mem_of_getElem? h1) h
theorem Plain.func {fn : Fn} {f1 c1 : List AV} (h1 : ∀ c ∈ f1, Plain c) (h2 : ∀ c ∈ c1, Plain c) : Plain (.func fn f1 c1) := fun h => .func fn f1 c1 f1 c1 rfl rfl (fun i c d q1 q2 => by rw [q1] at q2; cases q2; exact h1 c (List.mem_of_getElem? q1) h) (fun i c d q1 q2 => by rw [q1] at q2; cases q2; exact h2 c (List.mem_of_getElem? q1) h)
/-- arguments that are frozen one by one -/
theorem frz_args2 {h : AH} {a b c d : AV} (h1 : Frz h false a c) (h2 : Frz h false b d) : ∀ (i : Nat) (x y : AV), [a, b][i]? = some x → [c, d][i]? = some y → Frz h false x y := by
  intro i x y hx hy
  match i with
  | 0 => simp at hx hy; subst hx; subst hy; exact h1
  | 1 => simp at hx hy; subst hx; subst hy; exact h2
  | i + 2 => simp at hx
theorem Pure.call {P : Program} {f : Nat} {args : List AV} {v : AV} {h : AH} {Q : AV → AH → Prop} (hp : Pure P f args v) (hq : Q v h) : CallsA P f args h Q := (hp h).calls hq
end Go.Eng
