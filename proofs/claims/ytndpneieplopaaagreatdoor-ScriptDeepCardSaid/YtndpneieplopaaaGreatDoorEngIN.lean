/- Closed runs: an executor whose answers the transformer of predicates has too. The words of the printed functions. Words of the functions that are printed for closed runs; tables of them. Pure contracts: a function that is run where no object is owned may be called wherever its arguments are frozen. How the words of the printed functions are simplified. A call whose arguments are frozen for the call, and whose result is one new object that the caller owns. Numbers for ghosts: what a run with numbers that are known by bounds says of each choice of them; freezing what it leaves. -/
import Derived.Test.YtndpneieplopaaaGreatDoorEngW
set_option linter.unusedSimpArgs false
set_option linter.unusedVariables false
set_option linter.unnecessarySimpa false
noncomputable section
namespace Go.Eng
/-- what calls do -/
def clF (P : Program) : CL := fun f args h Q => ∃ v h', CallD P f args h v h' ∧ Q v h'
theorem clF_ok {P : Program} : CLOk P (clF P) := fun _ _ _ _ hq => hq
def FOk (P : Program) (cl : Handler) : Prop := ∀ f args h v h', cl f args h = some (v, h') → CallD P f args h v h'

abbrev Ans := Option (AX × List AV × List AV × AH)
def fst (r : Option (AV × AH)) (k : AV → AH → Ans) : Ans :=
  match r with
  | some (v, h) => k v h
  | none => none
def fgd (g : Option Bool) (r : Option (AV × AH)) (h : AH) (k : AV → AH → Ans) : Ans :=
  match g with
  | some b => cond b (fst r k) (k skipped h)
  | none => none
def fop (cl : Handler) (op : AOp) (T : Tm) (h : AH) (k : AV → AH → Ans) : Ans :=
  match op with
  | .mov x => k (x.ev T) h
  | op => fst (aop cl T h op) k
def fops (cl : Handler) : List AOpr → Tm → AH → (Tm → AH → Ans) → Ans
  | [], T, h, k => k T h
  | ⟨d, op, none⟩ :: r, T, h, k => fop cl op T h fun v h' => fops cl r (tput T d v) h' k
  | ⟨d, op, some g⟩ :: r, T, h, k => fgd (gd T (some g)) (aop cl T h op) h fun v h' => fops cl r (tput T d v) h' k

def fal (r : Option (AObj × (Nat → AV))) (k : AObj → (Nat → AV) → Ans) : Ans :=
  match r with
  | some (cs, mk) => k cs mk
  | none => none
def fdop (cl : Handler) (op : AOp) (r : Nat) (T : Tm) (h : AH) (k : AV → Rec → AH → Ans) : Ans :=
  cond (aA op) (fal (aalloc T op) fun cs mk => k (mk r) (.alloc r cs) (h.set r cs))
    (cond (aE op) (fst (aop cl T h op) fun v h' => cond (Nat.ble h.nx h'.nx) (k v (.eff h h') h') none) (fst (aop cl T h op) fun v _ => k v (rdK (aRd T op)) h))
def fgq (g : Option Bool) (A : (AV → Rec → AH → Ans) → Ans) (h : AH) (k : AV → Rec → AH → Ans) : Ans :=
  match g with
  | some b => cond b (A k) (k skipped .pure h)
  | none => none
def fdops (cl : Handler) : List AOpr → Nat → Tm → AH → (List Rec → Tm → AH → Ans) → Ans
  | [], _, T, h, k => k [] T h
  | ⟨d, op, none⟩ :: l, r, T, h, k => fdop cl op r T h fun v c h' => fdops cl l (r + 1) (tput T d v) h' fun ks => k (c :: ks)
  | ⟨d, op, some g⟩ :: l, r, T, h, k => fgq (gd T (some g)) (fdop cl op r T h) h fun v c h' => fdops cl l (r + 1) (tput T d v) h' fun ks => k (c :: ks)
def fchk (ks : List Rec) : List (Nat × Nat) → Bool
  | [] => true
  | (i, j) :: r => cond (recOk (ks.getD i .pure) (ks.getD j .pure)) (fchk ks r) false
def fdraw (cl : Handler) (ops : List (AOpr × Nat)) (T : Tm) (h : AH) (k : Tm → AH → Ans) : Ans :=
  cond (tmpPairs ops []) (fdops cl (ops.map (·.1)) h.nx T ⟨h.H, h.nx + ops.length⟩ fun ks T' h' => cond (fchk ks (dynPairs ops 0 [])) (k T' h') none) none

def fif (c : AV) (x y : Ans) : Ans :=
  match c with
  | .bool b => cond b x y
  | _ => none
def fxs (x : AX) (kn : Ans) (ke : Nat → Ans) (kr : Ans) : Ans :=
  match x with
  | .nrm => kn
  | .exit j => ke j
  | .ret => kr
def fjn (r : Ans) (k : AX → List AV → AH → Ans) : Ans :=
  match r with
  | some (x, _, vo, h) => k x vo h
  | none => none
/-- rounds of a loop: its answer has the live registers of the next round, then those behind the loop -/
def fiter (f : List AV → AH → Ans) : Nat → List AV → AH → Ans
  | 0, _, _ => none
  | n + 1, vals, h =>
    match f vals h with
    | some (.nrm, vi, _, h') => fiter f n vi h'
    | some (.exit j, vi, vo, h') => some (.exit j, vi, vo, h')
    | some (.ret, vi, vo, h') => some (.ret, vi, vo, h')
    | none => none
def frit (it : It) (B : AV → AV → AH → Ans) (ck : AH → Bool) (xl : List (List AV)) : Nat → Nat → AH → Ans
  | 0, _, h => cond (ck h) (some (.nrm, [], [], h)) none
  | n + 1, i, h => cond (ck h) (match xl[it.pos xl.length i]? with
    | some x => match B (.int .i64 ((it.pos xl.length i : Nat) : Int)) (elV it.en x) h with
      | some (.nrm, _, _, h') => frit it B ck xl n (i + 1) h'
      | some (.exit j, _, _, h') => some (.exit j, [], [], h')
      | some (.ret, _, _, h') => some (.ret, [], [], h')
      | none => none
    | none => none) none
def ckE (z b : Nat) (sl : AV) (xl : List (List AV)) (h : AH) : Bool :=
  match h.cellsAt b with
  | some cs => AV.beqL cs [sl] && (match elemsZ h z sl with
    | some l => AV.beqLL l xl
    | none => false)
  | none => false
def itf (g : Nat) : List It → Option It
  | [] => none
  | it :: r => cond (Nat.beq g it.f) (some it) (itf g r)
theorem itf_some {g : Nat} {it : It} : ∀ {l : List It}, itf g l = some it → it ∈ l ∧ g = it.f
  | [], h => by cases h
  | i :: r, h => by
    simp only [itf] at h
    cases hb : Nat.beq g i.f with
    | true => rw [hb] at h; cases h; exact ⟨by simp, Nat.eq_of_beq_eq_true hb⟩
    | false => rw [hb] at h; obtain ⟨h1, h2⟩ := itf_some h; exact ⟨by simp [h1], h2⟩
def frg (its : List It) (v : AV) (B : AV → AV → AH → Ans) (h : AH) (k : AX → AH → Ans) : Ans :=
  match v with
  | .func (.func g) [] [.ptr b o] => cond (Nat.beq o 0) (match itf g its with
    | some it => match h.cellsAt b with
      | some [sl] => match elemsZ h it.z sl with
        | some xl => match frit it B (ckE it.z b sl xl) xl xl.length 0 h with
          | some (x, _, _, h') => k x h'
          | none => none
        | none => none
      | _ => none
    | none => none) none
  | _ => none
def fps (ps : List Nat) (K : Nat → Nat → Ans) : Ans :=
  match ps with
  | [p, q] => K p q
  | _ => none

def fexec (cl : Handler) (N : Nat) : SCode → Tm → AH → (AX → Tm → AH → Ans) → Ans
  | .skip, T, h, k => k .nrm T h
  | .reg ops, T, h, k => fops cl ops T h fun T h => k .nrm T h
  | .draw ops, T, h, k => fdraw cl ops T h fun T h => k .nrm T h
  | .seq a b, T, h, k => fexec cl N a T h fun x T h => fxs x (fexec cl N b T h k) (fun j => k (.exit j) T h) (k .ret T h)
  | .cond c t e, T, h, k => fif (c.ev T) (fexec cl N t T h k) (fexec cl N e T h k)
  | .block id b, T, h, k => fexec cl N b T h fun x T h => fxs x (k .nrm T h) (fun j => cond (Nat.beq j id) (k .nrm T h) (k (.exit j) T h)) (k .ret T h)
  | .loop li lo b, T, h, k => fjn (fiter (fun vals h => fexec cl N b (mkT li vals) h fun x T h => some (x, getL li T, getL lo T, h)) N (getL li T) h) fun x vals h => k x (mkT lo vals) h
  | .join lo a, T, h, k => fjn (fexec cl N a T h fun x T h => some (x, [], getL lo T, h)) fun x vals h => k x (mkT lo vals) h
  | .joinN lo a, T, h, k => fjn (fexec cl N a T h fun x T h => fxs x (some (.nrm, [], getL lo T, h)) (fun _ => none) none) fun _ vals h => k .nrm (mkT lo vals) h
  | .exit id, T, h, k => k (.exit id) T h
  | .ret, T, h, k => k .ret T h
  | .regS _, _, _, _ => none
  | .drawS _, _, _, _ => none
  | .stuck, _, _, _ => none
  | .frz _ _, _, _, _ => none
  | .loopT _, _, _, _ => none
  | .rng it g ps a b, T, h, k => fps ps fun p q => frg it (g.ev T) (fun x y h1 => fexec cl N a ((T.put p x).put q y) h1 fun z T1 h2 => fxs z (fexec cl N b T1 h2 fun z _ h3 => some (z, [], [], h3)) (fun _ => none) none) h fun z h3 => k z T h3

def fres (r : Option (List AV)) (h : AH) : Ans :=
  match r with
  | some vs => some (.nrm, [], [aret vs], h)
  | none => none
def ffin (res : List ARes) (x : AX) (T : Tm) (h : AH) : Ans := fxs x (fres (ares T h res) h) (fun _ => none) (fres (ares T h res) h)
def fans (r : Ans) : Option (AV × AH) :=
  match r with
  | some (_, _, [v], h) => some (v, h)
  | _ => none
def frun (cl : Handler) (N : Nat) (f : SFn) (args : List AV) (h : AH) : Option (AV × AH) :=
  cond (Nat.ble args.length f.nt) (fans (fexec cl N f.body (initT args 0 .leaf) h (ffin f.res))) none

/-! ## it is sound -/
section
variable {P : Program} {cl : Handler}
theorem fst_some {r : Option (AV × AH)} {k : AV → AH → Ans} {x : AX × List AV × List AV × AH} (h : fst r k = some x) : ∃ v h', r = some (v, h') ∧ k v h' = some x := by
  unfold fst at h
  split at h
  · rename_i v h'; exact ⟨v, h', rfl, h⟩
  · cases h
theorem fop_some {op : AOp} {T : Tm} {h : AH} {k : AV → AH → Ans} {x : AX × List AV × List AV × AH} (hr : fop cl op T h k = some x) : ∃ v h', aop cl T h op = some (v, h') ∧ k v h' = some x := by
  unfold fop at hr
  split at hr
  · exact ⟨_, _, rfl, hr⟩
  · exact fst_some hr
theorem aop_noH {T : Tm} {h : AH} {op : AOp} (hn : ∀ f args, op ≠ .call f args) : aop cl T h op = aop noH T h op := by
  cases op <;> first | rfl | exact absurd rfl (hn _ _)
theorem fcall_ok (hcl : FOk P cl) {T : Tm} {h : AH} {f : Opd} {args : List Opd} {v : AV} {h' : AH} (ha : aop cl T h (.call f args) = some (v, h')) {K : AV → AH → Prop} (hk : K v h') : wcall (clF P) (f.ev T) (args.map (·.ev T)) h K := by
  simp only [aop, kCall] at ha
  unfold wcall
  split at ha
  · rename_i g first captured hf
    rw [hf]
    exact ⟨v, h', hcl _ _ _ _ _ ha, hk⟩
  · cases ha
theorem fop_ok (hcl : FOk P cl) {T : Tm} {h : AH} {op : AOp} {v : AV} {h' : AH} (ha : aop cl T h op = some (v, h')) {K : AV → AH → Prop} (hk : K v h') : wop (clF P) op T h K := by
  by_cases hc : ∃ f args, op = .call f args
  · obtain ⟨f, args, rfl⟩ := hc
    exact fcall_ok hcl ha hk
  · have ha' := ha
    rw [aop_noH fun f args he => hc ⟨f, args, he⟩] at ha'
    unfold wop
    split
    · exact (hc ⟨_, _, rfl⟩).elim
    · simp only [aop, kMov] at ha'
      cases ha'
      exact hk
    · rw [ha']; exact hk
theorem fops_ok (hcl : FOk P cl) {r : AX × List AV × List AV × AH} : ∀ (l : List AOpr) (T : Tm) (h : AH) (k : Tm → AH → Ans) (K : Tm → AH → Prop), (∀ T h, k T h = some r → K T h) → fops cl l T h k = some r → wops (clF P) l T h K
  | [], T, h, k, K, hK, hr => hK _ _ hr
  | ⟨d, op, none⟩ :: l, T, h, k, K, hK, hr => by
    simp only [fops] at hr
    obtain ⟨v, h', h1, h2⟩ := fop_some hr
    exact fop_ok hcl h1 (fops_ok hcl l _ _ k K hK h2)
  | ⟨d, op, some g⟩ :: l, T, h, k, K, hK, hr => by
    simp only [fops, fgd] at hr
    simp only [wops, wg]
    split at hr
    · rename_i b hb
      rw [hb]
      cases b with
      | true =>
        obtain ⟨v, h', h1, h2⟩ := fst_some hr
        exact ⟨fun _ => fop_ok hcl h1 (fops_ok hcl l _ _ k K hK h2), fun he => by cases he⟩
      | false => exact ⟨fun he => (by cases he), fun _ => fops_ok hcl l _ _ k K hK hr⟩
    · cases hr
theorem fdop_ok (hcl : FOk P cl) {x : AX × List AV × List AV × AH} {op : AOp} {r : Nat} {T : Tm} {h : AH} {k : AV → Rec → AH → Ans} {K : AV → Rec → AH → Prop} (hK : ∀ v c h, k v c h = some x → K v c h) (hr : fdop cl op r T h k = some x) : wdop (clF P) op r T h K := by
  unfold fdop at hr
  unfold wdop
  cases hA : aA op with
  | true =>
    rw [hA] at hr
    simp only [cond_true, fal] at hr ⊢
    split at hr
    · rename_i cs mk he
      rw [he]
      exact hK _ _ _ hr
    · cases hr
  | false =>
    rw [hA] at hr
    simp only [cond_false] at hr ⊢
    cases hE : aE op with
    | true =>
      rw [hE] at hr
      simp only [cond_true] at hr
      obtain ⟨v, h', h1, h2⟩ := fst_some hr
      cases hb : Nat.ble h.nx h'.nx with
      | false => rw [hb] at h2; cases h2
      | true =>
        rw [hb] at h2
        have hle := Nat.le_of_ble_eq_true hb
        split
        · exact fcall_ok hcl h1 ⟨hle, hK _ _ _ h2⟩
        · rename_i hne
          rw [aop_noH hne] at h1
          simp only [hE, cond_true, h1, wk]
          exact ⟨hle, hK _ _ _ h2⟩
    | false =>
      rw [hE] at hr
      simp only [cond_false] at hr
      obtain ⟨v, h', h1, h2⟩ := fst_some hr
      split
      · cases hE
      · rename_i hne
        rw [aop_noH hne] at h1
        simp only [hE, cond_false, h1, wk]
        exact hK _ _ _ h2
theorem fdops_ok (hcl : FOk P cl) {x : AX × List AV × List AV × AH} : ∀ (l : List AOpr) (r : Nat) (T : Tm) (h : AH) (k : List Rec → Tm → AH → Ans) (K : List Rec → Tm → AH → Prop), (∀ ks T h, k ks T h = some x → K ks T h) → fdops cl l r T h k = some x → wdops (clF P) l r T h K
  | [], r, T, h, k, K, hK, hr => hK _ _ _ hr
  | ⟨d, op, none⟩ :: l, r, T, h, k, K, hK, hr => by
    simp only [fdops] at hr
    exact fdop_ok hcl (fun v c h1 h2 => fdops_ok hcl l (r + 1) _ _ _ _ (fun ks T h h3 => hK _ _ _ h3) h2) hr
  | ⟨d, op, some g⟩ :: l, r, T, h, k, K, hK, hr => by
    simp only [fdops, fgq] at hr
    simp only [wdops, wgd]
    split at hr
    · rename_i b hb
      rw [hb]
      cases b with
      | true => exact ⟨fun _ => fdop_ok hcl (fun v c h1 h2 => fdops_ok hcl l (r + 1) _ _ _ _ (fun ks T h h3 => hK _ _ _ h3) h2) hr, fun he => by cases he⟩
      | false => exact ⟨fun he => (by cases he), fun _ => fdops_ok hcl l (r + 1) _ _ _ _ (fun ks T h h3 => hK _ _ _ h3) hr⟩
    · cases hr
theorem fchk_ok {ks : List Rec} {p : Prop} (hp : p) : ∀ (l : List (Nat × Nat)), fchk ks l = true → chk ks l p
  | [], _ => hp
  | (i, j) :: r, h => by
    simp only [fchk] at h
    cases hb : recOk (ks.getD i .pure) (ks.getD j .pure) with
    | false => rw [hb] at h; cases h
    | true => rw [hb] at h; exact ⟨hb, fchk_ok hp r h⟩
theorem fdraw_ok (hcl : FOk P cl) {x : AX × List AV × List AV × AH} {ops : List (AOpr × Nat)} {T : Tm} {h : AH} {k : Tm → AH → Ans} {K : Tm → AH → Prop} (hK : ∀ T h, k T h = some x → K T h) (hr : fdraw cl ops T h k = some x) : wdraw (clF P) ops T h K := by
  unfold fdraw at hr
  unfold wdraw
  cases ht : tmpPairs ops [] with
  | false => rw [ht] at hr; cases hr
  | true =>
    rw [ht] at hr
    simp only [cond_true] at hr ⊢
    refine fdops_ok hcl _ _ _ _ _ _ (fun ks T h h1 => ?_) hr
    cases hb : fchk ks (dynPairs ops 0 []) with
    | false => rw [hb] at h1; cases h1
    | true => rw [hb] at h1; exact fchk_ok (hK _ _ h1) _ hb
theorem fjn_some {r : Ans} {k : AX → List AV → AH → Ans} {x : AX × List AV × List AV × AH} (h : fjn r k = some x) : ∃ y vi vo h', r = some (y, vi, vo, h') ∧ k y vo h' = some x := by
  unfold fjn at h
  split at h
  · rename_i y vi vo h'; exact ⟨y, vi, vo, h', rfl, h⟩
  · cases h
theorem fxs_ok {r : AX × List AV × List AV × AH} {x : AX} {kn : Ans} {ke : Nat → Ans} {kr : Ans} {Kn : Prop} {Ke : Nat → Prop} {Kr : Prop} (h : fxs x kn ke kr = some r) (hn : kn = some r → Kn) (he : ∀ j, ke j = some r → Ke j) (hr : kr = some r → Kr) : xs x Kn Ke Kr := by
  cases x with
  | nrm => exact hn h
  | exit j => exact he j h
  | ret => exact hr h

theorem ckE_ok {z b : Nat} {sl : AV} {xl : List (List AV)} {h : AH} (hc : ckE z b sl xl h = true) : h.cellsAt b = some [sl] ∧ elemsZ h z sl = some xl := by
  unfold ckE at hc
  split at hc
  · rename_i cs h1
    simp only [Bool.and_eq_true] at hc
    have h2 := AV.beqL_eq _ _ hc.1
    have hc2 := hc.2
    split at hc2
    · rename_i l h3
      have h4 := AV.beqLL_eq _ _ hc2
      exact ⟨by rw [h1, h2], by rw [h3, h4]⟩
    · cases hc2
  · cases hc

theorem frg_ok {its : List It} {v : AV} {B : AV → AV → AH → Ans} {h : AH} {k : AX → AH → Ans} {r : AX × List AV × List AV × AH} {BB : AV → AV → AH → (AX → AH → Prop) → Prop} {K : AX → AH → Prop} (hB : ∀ x y h1 z vi vo h2, B x y h1 = some (z, vi, vo, h2) → ∀ K1 : AX → AH → Prop, K1 z h2 → BB x y h1 K1)
    (hK : ∀ x h, k x h = some r → K x h) (hr : frg its v B h k = some r) : wrg its v BB h K := by
  unfold frg at hr
  split at hr
  case h_2 => cases hr
  rename_i g b o
  cases hg : Nat.beq o 0 with
  | false => rw [hg] at hr; cases hr
  | true =>
  rw [hg] at hr
  simp only [cond_true] at hr
  have hg2 := Nat.eq_of_beq_eq_true hg
  subst hg2
  split at hr
  case h_2 => cases hr
  rename_i it hit
  obtain ⟨hm, rfl⟩ := itf_some hit
  split at hr
  case h_2 => cases hr
  rename_i sl hsl
  split at hr
  case h_2 => cases hr
  rename_i xl hxl
  split at hr
  case h_2 => cases hr
  rename_i y vi vo hf hfr
  have hck : ∀ n i h1 a, frit it B (ckE it.z b sl xl) xl n i h1 = some a → ckE it.z b sl xl h1 = true := by
    intro n i h1 a he
    cases hb : ckE it.z b sl xl h1 with
    | true => rfl
    | false =>
      exfalso
      cases n with
      | zero => simp [frit, hb] at he
      | succ n => simp [frit, hb] at he
  refine ⟨it, hm, b, sl, xl, fun i h1 => i ≤ xl.length ∧ ∃ vi vo, frit it B (ckE it.z b sl xl) xl (xl.length - i) i h1 = some (y, vi, vo, hf), rfl, ⟨Nat.zero_le _, vi, vo, hfr⟩, ?_, ?_, ?_⟩
  · rintro i h1 ⟨_, vi, vo, he⟩
    exact ckE_ok (hck _ _ _ _ he)
  · rintro i h1 x ⟨hi, vi, vo, he⟩ hlt hx
    have hn : xl.length - i = (xl.length - (i + 1)) + 1 := by omega
    have hc := hck _ _ _ _ he
    rw [hn] at he
    simp only [frit, hx, hc, cond_true] at he
    split at he
    · rename_i q1 q2 h' hBx
      exact hB _ _ _ _ _ _ _ hBx _ ⟨by omega, vi, vo, he⟩
    · rename_i j q1 q2 h' hBx
      cases he
      exact hB _ _ _ _ _ _ _ hBx _ (hK _ _ hr)
    · rename_i q1 q2 h' hBx
      cases he
      exact hB _ _ _ _ _ _ _ hBx _ (hK _ _ hr)
    · cases he
  · rintro h1 ⟨_, vi, vo, he⟩
    have hc := hck _ _ _ _ he
    rw [Nat.sub_self] at he
    simp only [frit, hc, cond_true] at he
    cases he
    exact hK _ _ hr

theorem fexec_ok (hcl : FOk P cl) (N : Nat) : ∀ (sc : SCode) (T : Tm) (h : AH) (k : AX → Tm → AH → Ans) (r : AX × List AV × List AV × AH) (K : AX → Tm → AH → Prop), (∀ x T h, k x T h = some r → K x T h) → fexec cl N sc T h k = some r → wexec (clF P) sc T h K := by
  intro sc
  induction sc with
  | skip => intro T h k r K hK hr; exact hK _ _ _ hr
  | reg ops => intro T h k r K hK hr; exact fops_ok hcl _ _ _ _ _ (fun T h => hK _ T h) hr
  | draw ops => intro T h k r K hK hr; exact fdraw_ok hcl (fun T h => hK _ T h) hr
  | regS ops => intro T h k r K hK hr; cases hr
  | drawS ops => intro T h k r K hK hr; cases hr
  | stuck => intro T h k r K hK hr; cases hr
  | frz lo a ih => intro T h k r K hK hr; cases hr
  | loopT a ih => intro T h k r K hK hr; cases hr
  | exit id => intro T h k r K hK hr; exact hK _ _ _ hr
  | ret => intro T h k r K hK hr; exact hK _ _ _ hr
  | seq a b iha ihb =>
    intro T h k r K hK hr
    simp only [fexec] at hr
    exact iha _ _ _ r _ (fun x T h h1 => fxs_ok h1 (fun h2 => ihb _ _ _ r _ hK h2) (fun j h2 => hK _ _ _ h2) (fun h2 => hK _ _ _ h2)) hr
  | cond c t e iht ihe =>
    intro T h k r K hK hr
    simp only [fexec, fif] at hr
    simp only [wexec, wif]
    split at hr
    · rename_i b hb
      rw [hb]
      cases b with
      | true => exact ⟨fun _ => iht _ _ _ r _ hK hr, fun he => by cases he⟩
      | false => exact ⟨fun he => (by cases he), fun _ => ihe _ _ _ r _ hK hr⟩
    · cases hr
  | block id b ih =>
    intro T h k r K hK hr
    simp only [fexec] at hr
    refine ih _ _ _ r _ (fun x T h h1 => fxs_ok h1 (fun h2 => hK _ _ _ h2) (fun j h2 => ?_) (fun h2 => hK _ _ _ h2)) hr
    cases hb : Nat.beq j id with
    | true => rw [hb] at h2; exact hK _ _ _ h2
    | false => rw [hb] at h2; exact hK _ _ _ h2
  | loop li lo b ih =>
    intro T h k r K hK hr
    simp only [fexec] at hr
    obtain ⟨y, vi, vo, hf, h1, h2⟩ := fjn_some hr
    simp only [wexec, wloop]
    generalize hF : (fun vals h => fexec cl N b (mkT li vals) h fun x T h => some (x, getL li T, getL lo T, h)) = F at h1
    refine ⟨fun m vs h => ∃ vi, fiter F m vs h = some (y, vi, vo, hf), N, ⟨vi, h1⟩, ?_⟩
    rintro m vs h3 ⟨vi3, h4⟩
    cases m with
    | zero => cases h4
    | succ m =>
    simp only [fiter] at h4
    have hb : ∀ z vi' vo' h', F vs h3 = some (z, vi', vo', h') → ∀ K1 : AX → List AV → List AV → AH → Prop, K1 z vi' vo' h' → wexec (clF P) b (mkT li vs) h3 fun x T h => K1 x (getL li T) (getL lo T) h := by
      intro z vi' vo' h' he K1 hK1
      rw [← hF] at he
      refine ih _ _ _ _ _ (fun x T h h5 => ?_) he
      cases h5
      exact hK1
    split at h4
    · rename_i vi' vo' h' he
      exact hb _ _ _ _ he _ ⟨m, Nat.lt_succ_self m, vi3, h4⟩
    · rename_i j vi' vo' h' he
      cases h4
      exact hb _ _ _ _ he _ (hK _ _ _ h2)
    · rename_i vi' vo' h' he
      cases h4
      exact hb _ _ _ _ he _ (hK _ _ _ h2)
    · cases h4
  | join lo a ih =>
    intro T h k r K hK hr
    simp only [fexec] at hr
    obtain ⟨y, vi, vo, hf, h1, h2⟩ := fjn_some hr
    simp only [wexec, wjoin]
    refine ⟨fun x vs h => x = y ∧ vs = vo ∧ h = hf, ih _ _ _ _ _ (fun x T h h3 => ?_) h1, ?_⟩
    · cases h3; exact ⟨rfl, rfl, rfl⟩
    · rintro x vs h ⟨rfl, rfl, rfl⟩; exact hK _ _ _ h2
  | joinN lo a ih =>
    intro T h k r K hK hr
    simp only [fexec] at hr
    obtain ⟨y, vi, vo, hf, h1, h2⟩ := fjn_some hr
    simp only [wexec, wjoinN]
    refine ⟨fun vs h => vs = vo ∧ h = hf, ih _ _ _ _ _ (fun x T h h3 => ?_) h1, ?_⟩
    · refine fxs_ok h3 (fun h4 => ?_) (fun j h4 => by cases h4) (fun h4 => by cases h4)
      cases h4; exact ⟨rfl, rfl⟩
    · rintro vs h ⟨rfl, rfl⟩; exact hK _ _ _ h2
  | rng it g ps a b iha ihb =>
    intro T h k r K hK hr
    simp only [fexec, fps] at hr
    simp only [wexec, wps]
    split at hr
    · rename_i p q
      refine frg_ok (fun x y h1 z vi vo h2 he K1 hK1 => ?_) (fun x h => hK _ _ _) hr
      refine iha _ _ _ _ _ (fun x T h h3 => fxs_ok h3 (fun h4 => ?_) (fun j h4 => by cases h4) (fun h4 => by cases h4)) he
      refine ihb _ _ _ _ _ (fun x T h h5 => ?_) h4
      cases h5
      exact hK1
    · cases hr

theorem frun_ok (hcl : FOk P cl) {N : Nat} {sf : SFn} {args : List AV} {h h' : AH} {v : AV} (hr : frun cl N sf args h = some (v, h')) : wrun (clF P) sf args h fun v1 h1 => v1 = v ∧ h1 = h' := by
  unfold frun at hr
  unfold wrun
  cases hb : Nat.ble args.length sf.nt with
  | false => rw [hb] at hr; cases hr
  | true =>
    rw [hb] at hr
    simp only [cond_true, fans] at hr ⊢
    split at hr
    · rename_i y vi v' hf he
      obtain ⟨rfl, rfl⟩ : v' = v ∧ hf = h' := by cases hr; exact ⟨rfl, rfl⟩
      refine fexec_ok hcl N _ _ _ _ _ _ (fun x T h1 h2 => ?_) he
      unfold ffin at h2
      unfold wfin
      have key : fres (ares T h1 sf.res) h1 = some (y, vi, [v'], hf) → wres (ares T h1 sf.res) h1 (fun v1 h1 => v1 = v' ∧ h1 = hf) := by
        intro hq
        unfold fres at hq
        split at hq
        · rename_i vs hvs
          rw [hvs]
          cases hq; exact ⟨rfl, rfl⟩
        · cases hq
      exact fxs_ok h2 key (fun j h3 => by cases h3) key
    · cases hr

/-- A table of functions. -/
def TbOk (P : Program) (st : Nat → Option SFn) : Prop := ∀ f sf, st f = some sf → ∃ fn, P.funcs[f]? = some fn ∧ cFn P fn = some sf.erase ∧ fn.name ≠ "runtime.NumGoroutine" ∧ sf.body.rok = true ∧ ∀ i, i ∈ sf.body.its → IterOk P i
theorem frun_call (hcl : FOk P cl) {N f : Nat} {fn : Func} {sf : SFn} (hf : P.funcs[f]? = some fn) (hc : cFn P fn = some sf.erase) (hn : fn.name ≠ "runtime.NumGoroutine") (hr : sf.body.rok = true) (hi : ∀ i, i ∈ sf.body.its → IterOk P i) {args : List AV} {h h' : AH} {v : AV}
    (ha : frun cl N sf args h = some (v, h')) : CallD P f args h v h' :=
  wfn_ok clF_ok hf hc hn hr hi (frun_ok hcl ha)
/-- an entry of a table -/
def EOk (P : Program) (f : Nat) (sf : SFn) : Prop := ∃ fn, P.funcs[f]? = some fn ∧ cFn P fn = some sf.erase ∧ fn.name ≠ "runtime.NumGoroutine" ∧ sf.body.rok = true ∧ ∀ i, i ∈ sf.body.its → IterOk P i
inductive FT where
  | leaf
  | one (k : Nat) (f : SFn)
  | node (m : Nat) (l r : FT)
def FT.get : FT → Nat → Option SFn
  | .leaf, _ => none
  | .one k f, j => cond (Nat.beq j k) (some f) none
  | .node m l r, j => cond (Nat.blt j m) (l.get j) (r.get j)
def FT.Ok (P : Program) : FT → Prop
  | .leaf => True
  | .one k f => EOk P k f
  | .node _ l r => l.Ok P ∧ r.Ok P
theorem FT.ok : ∀ (t : FT), t.Ok P → TbOk P t.get
  | .leaf, _ => fun f sf h => by cases h
  | .one k f, ho => fun j sf h => by
    simp only [FT.get] at h
    cases hb : Nat.beq j k with
    | true => rw [hb] at h; cases h; rw [Nat.eq_of_beq_eq_true hb]; exact ho
    | false => rw [hb] at h; cases h
  | .node m l r, ho => fun j sf h => by
    simp only [FT.get] at h
    cases hb : Nat.blt j m with
    | true => rw [hb] at h; exact FT.ok l ho.1 j sf h
    | false => rw [hb] at h; exact FT.ok r ho.2 j sf h
end
end Go.Eng
end
noncomputable section
namespace Go.Eng
def gdv (b : Bool) (v : AV) : Option Bool :=
  match some v with
  | some (.bool c) => some (c == b)
  | some (.tup []) => some false
  | _ => none
end Go.Eng
end
noncomputable section
namespace Go.Eng
/-- short words of the printed code -/
def q (d : Nat) (o : AOp) : AOpr := ⟨some d, o, none⟩
def x (t : Nat) : Opd := .tmp t
abbrev OF := Handler → List AV → AH → Option (AV × AH)
def OkF (P : Program) (k : Nat) (F : OF) : Prop := ∀ cl, FOk P cl → ∀ args h v h', F cl args h = some (v, h') → CallD P k args h v h'
theorem OkF.of {P : Program} {k : Nat} {sf : SFn} (he : EOk P k sf) {N : Nat} {F : OF} (hF : ∀ cl args h r, F cl args h = some r → frun cl N sf args h = some r) : OkF P k F := by
  intro cl hcl args h v h' ha
  obtain ⟨fn, h1, h2, h3, h4, h5⟩ := he
  exact frun_call hcl h1 h2 h3 h4 h5 (hF _ _ _ _ ha)
inductive OT where
  | leaf
  | one (k : Nat) (F : OF)
  | node (m : Nat) (l r : OT)
def OT.run : OT → Handler → Handler
  | .leaf, _, _, _, _ => none
  | .one k F, cl, f, args, h => cond (Nat.beq f k) (F cl args h) none
  | .node m l r, cl, f, args, h => cond (Nat.blt f m) (l.run cl f args h) (r.run cl f args h)
def OT.Ok (P : Program) : OT → Prop
  | .leaf => True
  | .one k F => OkF P k F
  | .node _ l r => l.Ok P ∧ r.Ok P
theorem OT.ok {P : Program} : ∀ (t : OT), t.Ok P → ∀ cl, FOk P cl → FOk P (t.run cl)
  | .leaf, _ => fun cl hcl f args h v h' ha => by cases ha
  | .one k F, ho => fun cl hcl f args h v h' ha => by
    simp only [OT.run] at ha
    cases hb : Nat.beq f k with
    | true => rw [hb] at ha; rw [Nat.eq_of_beq_eq_true hb]; exact ho cl hcl _ _ _ _ ha
    | false => rw [hb] at ha; cases ha
  | .node m l r, ho => fun cl hcl f args h v h' ha => by
    simp only [OT.run] at ha
    cases hb : Nat.blt f m with
    | true => rw [hb] at ha; exact OT.ok l ho.1 cl hcl _ _ _ _ _ ha
    | false => rw [hb] at ha; exact OT.ok r ho.2 cl hcl _ _ _ _ _ ha
def orb (a b : Option (AV × AH)) : Option (AV × AH) :=
  match a with
  | some r => some r
  | none => b
end Go.Eng
end
noncomputable section
namespace Go.Eng
def emp : AH := ⟨.leaf, 0⟩
def noB : Bl := fun _ => none

/-- a value in which nothing owned occurs -/
def Closed (a : AV) : Prop := ∀ (hp : Array Obj) (L : Nat → Prop) (β : Bl) (v : Value), VR hp L β a v → VR hp L noB a v

theorem Closed.bool (b : Bool) : Closed (.bool b) := fun _ _ _ _ h => by cases h; exact .bool b
theorem Closed.int (k : IntKind) (n : Int) : Closed (.int k n) := fun _ _ _ _ h => by cases h; exact .int k n
theorem Closed.str (s : List UInt8) : Closed (.str s) := fun _ _ _ _ h => by cases h; exact .str s
theorem Closed.nilptr : Closed .nilptr := fun _ _ _ _ h => by cases h; exact .nilptr
theorem Closed.nilsl : Closed .nilsl := fun _ _ _ _ h => by cases h; exact .nilsl
theorem Closed.esl : Closed .esl := fun _ _ _ _ h => by cases h; exact .esl _
theorem Closed.nilfunc : Closed .nilfunc := fun _ _ _ _ h => by cases h; exact .nilfunc
theorem Closed.nilif : Closed .nilif := fun _ _ _ _ h => by cases h; exact .nilif
theorem Closed.nilmap : Closed .nilmap := fun _ _ _ _ h => by cases h; exact .nilmap
theorem Closed.gptr (g o : Nat) : Closed (.gptr g o) := fun _ _ _ _ h => by cases h; exact .gptr g o
theorem Closed.agg {cs : List AV} (hc : ∀ c ∈ cs, Closed c) : Closed (.agg cs) := fun _ _ _ _ h => by
  cases h with
  | agg _ vs hl h => exact .agg cs vs hl fun i c v h1 h2 => hc c (List.mem_of_getElem? h1) _ _ _ _ (h i c v h1 h2)
theorem Closed.psl {xs : List (List AV)} (hc : ∀ x ∈ xs, ∀ c ∈ x, Closed c) : Closed (.psl xs) := fun _ _ _ _ h => by
  cases h with
  | psl0 a cap => exact .psl0 a cap
  | psl _ z b o cap cur e fz hb hL hs hz hcap h => exact .psl xs z b o cap cur e fz hb hL hs hz hcap fun i x j c v h1 h2 h3 => hc x (List.mem_of_getElem? h1) c (List.mem_of_getElem? h2) _ _ _ _ (h i x j c v h1 h2 h3)
theorem Closed.pptr {cs : List AV} (hc : ∀ c ∈ cs, Closed c) : Closed (.pptr cs) := fun _ _ _ _ h => by
  cases h with
  | pptr _ b o cur e fz hb hL hs h => exact .pptr cs b o cur e fz hb hL hs fun i c v h1 h2 => hc c (List.mem_of_getElem? h1) _ _ _ _ (h i c v h1 h2)
theorem Closed.func {fn : Fn} {f1 c1 : List AV} (h1 : ∀ c ∈ f1, Closed c) (h2 : ∀ c ∈ c1, Closed c) : Closed (.func fn f1 c1) := fun _ _ _ _ h => by
  cases h with
  | func _ _ _ f2 c2 hl1 hl2 g1 g2 => exact .func fn f1 c1 f2 c2 hl1 hl2 (fun i c v q1 q2 => h1 c (List.mem_of_getElem? q1) _ _ _ _ (g1 i c v q1 q2)) (fun i c v q1 q2 => h2 c (List.mem_of_getElem? q1) _ _ _ _ (g2 i c v q1 q2))

/-- A value and what it is when all objects that it reaches are frozen; n: nothing is reached that was frozen before. -/
inductive Frz (h : AH) (n : Bool) : AV → AV → Prop where
  | undef (a : AV) : Frz h n a .undef
  | bool (b : Bool) : Frz h n (.bool b) (.bool b)
  | int (k : IntKind) (m : Int) : Frz h n (.int k m) (.int k m)
  | str (s : List UInt8) : Frz h n (.str s) (.str s)
  | nilptr : Frz h n .nilptr .nilptr
  | nilfunc : Frz h n .nilfunc .nilfunc
  | nilif : Frz h n .nilif .nilif
  | nilmap : Frz h n .nilmap .nilmap
  | nilsl0 : Frz h n .nilsl .nilsl
  | nilsl : Frz h n .nilsl (.psl [])
  | esl0 : Frz h n .esl .esl
  | esl : Frz h n .esl (.psl [])
  | gptr (g o : Nat) : Frz h n (.gptr g o) (.gptr g o)
  | agg (cs ds : List AV) (hl : cs.length = ds.length) (hc : ∀ (i : Nat) (c d : AV), cs[i]? = some c → ds[i]? = some d → Frz h n c d) : Frz h n (.agg cs) (.agg ds)
  | tup (cs ds : List AV) (hl : cs.length = ds.length) (hc : ∀ (i : Nat) (c d : AV), cs[i]? = some c → ds[i]? = some d → Frz h n c d) : Frz h n (.tup cs) (.tup ds)
  | psl0 : Frz h n (.psl []) (.psl [])
  | psl (hn : n = false) (xs ys : List (List AV)) (hl : xs.length = ys.length) (hx : ∀ (i : Nat) (x y : List AV), xs[i]? = some x → ys[i]? = some y → x.length = y.length)
      (hc : ∀ (i : Nat) (x y : List AV) (j : Nat) (c d : AV), xs[i]? = some x → ys[i]? = some y → x[j]? = some c → y[j]? = some d → Frz h n c d) : Frz h n (.psl xs) (.psl ys)
  | pptr (hn : n = false) (cs ds : List AV) (hl : cs.length = ds.length) (hc : ∀ (i : Nat) (c d : AV), cs[i]? = some c → ds[i]? = some d → Frz h n c d) : Frz h n (.pptr cs) (.pptr ds)
  | rsl (id off z : Nat) (cs : List AV) (ys : List (List AV)) (ho : h.cellsAt id = some cs) (hs : off + ys.length * z ≤ cs.length) (hz : ∀ (i : Nat) (y : List AV), ys[i]? = some y → y.length = z)
      (hc : ∀ (i : Nat) (y : List AV) (j : Nat) (c d : AV), ys[i]? = some y → y[j]? = some d → cs[off + i * z + j]? = some c → Frz h n c d) : Frz h n (.rsl id off ys.length z) (.psl ys)
  | ptr (id off : Nat) (cs ds : List AV) (ho : h.cellsAt id = some cs) (hs : off + ds.length ≤ cs.length) (hc : ∀ (i : Nat) (c d : AV), cs[off + i]? = some c → ds[i]? = some d → Frz h n c d) : Frz h n (.ptr id off) (.pptr ds)
  | func (fn : Fn) (f1 c1 f2 c2 : List AV) (hl1 : f1.length = f2.length) (hl2 : c1.length = c2.length) (h1 : ∀ (i : Nat) (c d : AV), f1[i]? = some c → f2[i]? = some d → Frz h n c d) (h2 : ∀ (i : Nat) (c d : AV), c1[i]? = some c → c2[i]? = some d → Frz h n c d) : Frz h n (.func fn f1 c1) (.func fn f2 c2)
  | iface (t : TypeId) (a b : AV) (hb : Frz h n a b) : Frz h n (.iface t a) (.iface t b)

theorem get_of_len {α β : Type} {l : List α} {m : List β} (h : l.length = m.length) {i : Nat} {x : β} (hx : m[i]? = some x) : ∃ y, l[i]? = some y := by
  have : i < m.length := (List.getElem?_eq_some_iff.1 hx).1
  exact ⟨l[i], by simp [h ▸ this]⟩

theorem cellsAt_get {h : AH} {id : Nat} {cs : List AV} (hc : h.cellsAt id = some cs) : h.H.get id = some (.cells cs) := by
  unfold AH.cellsAt at hc
  split at hc
  · rename_i o ho; cases hc; exact ho
  · cases hc

/-- What is frozen is related wherever the blocks of the objects, and what was frozen before, are not to be written. -/
theorem VR.frz {own : Nat → Prop} {β : Bl} {h : AH} {nx : Nat} {w : World} (hs : SimH own β h.H nx w) {L2 : Nat → Prop} {β2 : Bl} {n : Bool} (h1 : ∀ b, live β h.H b → ¬ L2 b) (h2 : n = false → ∀ b, ¬ LL own β h.H b → ¬ L2 b)
    {a a' : AV} (hf : Frz h n a a') : ∀ {v : Value}, VR w.heap (LL own β h.H) β a v → VR w.heap L2 β2 a' v := by
  induction hf with
  | undef a => intro v hv; exact .undef v
  | bool b => intro v hv; cases hv; exact .bool b
  | int k m => intro v hv; cases hv; exact .int k m
  | str s => intro v hv; cases hv; exact .str s
  | nilptr => intro v hv; cases hv; exact .nilptr
  | nilfunc => intro v hv; cases hv; exact .nilfunc
  | nilif => intro v hv; cases hv; exact .nilif
  | nilmap => intro v hv; cases hv; exact .nilmap
  | nilsl0 => intro v hv; cases hv; exact .nilsl
  | nilsl => intro v hv; cases hv; exact .psl0 _ _
  | esl0 => intro v hv; cases hv; exact .esl _
  | esl => intro v hv; cases hv; exact .psl0 _ _
  | gptr g o => intro v hv; cases hv; exact .gptr g o
  | agg cs ds hl hc ih =>
    intro v hv
    cases hv with
    | agg _ vs hl2 hv =>
      refine .agg ds vs (hl ▸ hl2) fun i d v hd hv' => ?_
      obtain ⟨c, hc'⟩ := get_of_len hl hd
      exact ih i c d hc' hd (hv i c v hc' hv')
  | tup cs ds hl hc ih =>
    intro v hv
    cases hv with
    | tup _ vs hl2 hv =>
      refine .tup ds vs (hl ▸ hl2) fun i d v hd hv' => ?_
      obtain ⟨c, hc'⟩ := get_of_len hl hd
      exact ih i c d hc' hd (hv i c v hc' hv')
  | psl0 => intro v hv; cases hv <;> exact .psl0 _ _
  | psl hn xs ys hl hx hc ih =>
    intro v hv
    cases hv with
    | psl0 a cap => cases ys with
      | nil => exact .psl0 a cap
      | cons y ys => simp at hl
    | psl _ z b o cap cur e fz hb hL hs' hz hcap hv =>
      rw [hl]
      refine .psl ys z b o cap cur e fz hb (h2 hn b hL) (hl ▸ hs') (fun i y hy => ?_) (hl ▸ hcap) fun i y j d v hy hd hv' => ?_
      · obtain ⟨x, hx'⟩ := get_of_len hl hy
        rw [← hx i x y hx' hy]; exact hz i x hx'
      · obtain ⟨x, hx'⟩ := get_of_len hl hy
        obtain ⟨c, hc'⟩ := get_of_len (hx i x y hx' hy) hd
        exact ih i x y j c d hx' hy hc' hd (hv i x j c v hx' hc' hv')
  | pptr hn cs ds hl hc ih =>
    intro v hv
    cases hv with
    | pptr _ b o cur e fz hb hL hs' hv =>
      refine .pptr ds b o cur e fz hb (h2 hn b hL) (hl ▸ hs') fun i d v hd hv' => ?_
      obtain ⟨c, hc'⟩ := get_of_len hl hd
      exact ih i c d hc' hd (hv i c v hc' hv')
  | rsl id off z cs ys ho hs' hz hc ih =>
    intro v hv
    obtain ⟨b, base, hb, hnb, cur, e, hcur, hcs, hcell⟩ := hs.obj id _ (cellsAt_get ho)
    have hlive : live β h.H b := ⟨id, _, base, cellsAt_get ho, hb⟩
    generalize hlen : ys.length = len at hv
    cases hv with
    | rsl _ _ _ _ b' base' cap cur' e' fz' hb' hcur' hcap hm hs2 =>
      rw [hb] at hb'; cases hb'
      rw [hcur] at hcur'; cases hcur'
      subst hlen
      refine .psl ys z b (base + off) cap cur e (0, 0) hcur (h1 b hlive) (by omega) hz hcap fun i y j d v hy hd hv' => ?_
      have hi : i < ys.length := (List.getElem?_eq_some_iff.1 hy).1
      have hj : j < z := by rw [← hz i y hy]; exact (List.getElem?_eq_some_iff.1 hd).1
      have hb1 : i * z + z ≤ ys.length * z := by
        have := Nat.mul_le_mul_right z (show i + 1 ≤ ys.length by omega)
        rw [Nat.succ_mul] at this; exact this
      have hlt : off + i * z + j < cs.length := by omega
      exact ih i y j cs[off + i * z + j] d hy hd (by simp [hlt]) (hcell (off + i * z + j) _ v (by simp [hlt]) (by rw [← hv']; congr 1; omega))
    | rsl0 _ _ _ b' base' o hb' =>
      cases ys with
      | nil => exact .psl0 _ _
      | cons y ys => simp at hlen
  | ptr id off cs ds ho hs' hc ih =>
    intro v hv
    obtain ⟨b, base, hb, hnb, cur, e, hcur, hcs, hcell⟩ := hs.obj id _ (cellsAt_get ho)
    have hlive : live β h.H b := ⟨id, _, base, cellsAt_get ho, hb⟩
    cases hv with
    | ptr _ _ b' base' hb' =>
      rw [hb] at hb'; cases hb'
      refine .pptr ds b (base + off) cur e (0, 0) hcur (h1 b hlive) (by omega) fun i d v hd hv' => ?_
      have hi : i < ds.length := (List.getElem?_eq_some_iff.1 hd).1
      have hlt : off + i < cs.length := by omega
      exact ih i cs[off + i] d (by simp [hlt]) hd (hcell (off + i) _ v (by simp [hlt]) (by rw [← hv']; congr 1; omega))
  | func fn f1 c1 f2 c2 hl1 hl2 g1 g2 ih1 ih2 =>
    intro v hv
    cases hv with
    | func _ _ _ u1 u2 k1 k2 q1 q2 =>
      refine .func fn f2 c2 u1 u2 (hl1 ▸ k1) (hl2 ▸ k2) (fun i d v hd hv' => ?_) (fun i d v hd hv' => ?_)
      · obtain ⟨c, hc'⟩ := get_of_len hl1 hd
        exact ih1 i c d hc' hd (q1 i c v hc' hv')
      · obtain ⟨c, hc'⟩ := get_of_len hl2 hd
        exact ih2 i c d hc' hd (q2 i c v hc' hv')
  | iface t a b hb ih =>
    intro v hv
    cases hv with
    | iface _ _ v hv => exact .iface t b v (ih hv)

theorem live_emp (β : Bl) (b : Nat) : ¬ live β emp.H b := by
  rintro ⟨id, o, base, h, _⟩; simp [emp, PM.get] at h
theorem simH_emp {own : Nat → Prop} {w : World} (h : ∀ b, own b → b < w.heap.size) : SimH own noB emp.H emp.nx w :=
  ⟨fun _ _ => rfl, fun id b base h => by simp [noB] at h, h, fun id o h => by simp [emp, PM.get] at h, fun id id' o o' b x y h => by simp [emp, PM.get] at h⟩

theorem SimH.ll {own : Nat → Prop} {β : Bl} {H : Hp} {nx : Nat} {w : World} (hs : SimH own β H nx w) {b : Nat} (hb : LL own β H b) : b < w.heap.size := by
  rcases hb with h | ⟨id, o, base, _, h2⟩
  · exact hs.ownlt b h
  · exact hs.lt id b base h2

/-- A function that is run where nothing is owned, on arguments that are frozen here. -/
theorem frame {P : Program} {f : Nat} {args pargs : List AV} {h : AH} {n : Bool} {R : AV → AH → Prop} {v : AV} (hc : CallsA P f pargs emp R) (hR : ∀ v' h', R v' h' → Frz h' n v' v)
    (ha : (n = false ∧ pargs = args ∧ ∀ a ∈ args, Closed a) ∨ (n = true ∧ args.length = pargs.length ∧ ∀ (i : Nat) (a b : AV), args[i]? = some a → pargs[i]? = some b → Frz h false a b)) : CallD P f args h v h := by
  refine ⟨hc.1, fun own β w cargs hs hRL => ?_⟩
  have main : ∀ own' : Nat → Prop, (∀ b, own' b → b < w.heap.size) → RL w.heap (LL own' noB emp.H) noB pargs cargs.toList → (n = false → own' = LL own β h.H) →
      Calls P f cargs w fun e w' => ∃ cv v1 h1 β', e = .returned cv ∧ (v1 = v ∧ h1 = h) ∧ SimH own β' h1.H h1.nx w' ∧ VR w'.heap (LL own β' h1.H) β' v1 cv ∧ Trans own β h w β' h1 w' := by
    intro own' ho hp hn
    refine (hc.2 own' noB w cargs (simH_emp ho) hp).mono ?_
    rintro e w' ⟨cv, v0, h0, β0, rfl, hq, hs0, hv0, ht⟩
    have hkeep : ∀ b, b < w.heap.size → w'.heap[b]? = w.heap[b]? := fun b hb => ht.keep b hb (live_emp _ b)
    have hT : Trans own β h w β h w' := ⟨fun _ _ h => h, fun _ _ => rfl, Nat.le_refl _, ht.size, fun b hb _ => hkeep b hb, fun _ h => .inl h, fun b cur e fz hb => ⟨cur, fz, by rw [hkeep b (lt_of_get hb)]; exact hb, rfl, fun _ => rfl⟩, ht.os, ht.tape, ht.output⟩
    have hS : SimH own β h.H h.nx w' := by
      refine ⟨hs.fresh, fun id b base hb => Nat.lt_of_lt_of_le (hs.lt id b base hb) ht.size, fun b hb => Nat.lt_of_lt_of_le (hs.ownlt b hb) ht.size, fun id o hg => ?_, hs.inj⟩
      obtain ⟨b, base, hb, hnb, hor⟩ := hs.obj id o hg
      refine ⟨b, base, hb, hnb, ?_⟩
      have hlt := hs.lt id b base hb
      cases o with
      | cells cs =>
        obtain ⟨cur, e, q1, q2, q3⟩ := hor
        exact ⟨cur, e, by rw [hkeep b hlt]; exact q1, q2, fun i c v k1 k2 => (q3 i c v k1 k2).later hT.later⟩
      | map kvs =>
        obtain ⟨q0, es, q1, q2, q3⟩ := hor
        exact ⟨q0, es, by rw [hkeep b hlt]; exact q1, q2, fun i kv e k1 k2 => ⟨(q3 i kv e k1 k2).1.later hT.later, (q3 i kv e k1 k2).2.1.later hT.later, (q3 i kv e k1 k2).2.2⟩⟩
      | siter s pos => exact ⟨hor.1, by rw [hkeep b hlt]; exact hor.2⟩
      | typ t cs =>
        obtain ⟨q0, cur, q1, q2, q3⟩ := hor
        exact ⟨q0, cur, by rw [hkeep b hlt]; exact q1, q2, fun i c v k1 k2 => (q3 i c v k1 k2).later hT.later⟩
      | glob g cs =>
        obtain ⟨q0, q00, cur, e, fz, q1, q2, q3⟩ := hor
        exact ⟨q0, q00, cur, e, fz, by rw [hkeep b hlt]; exact q1, q2, fun i c v k1 k2 => (q3 i c v k1 k2).later hT.later⟩
    refine ⟨cv, v, h, β, rfl, ⟨rfl, rfl⟩, hS, ?_, hT⟩
    refine VR.frz hs0 (fun b hb hl => ?_) (fun hn' b hb hl => ?_) (hR v0 h0 hq) hv0
    · rcases ht.live b hb with h1 | h1
      · exact live_emp _ b h1
      · have := hs.ll hl; omega
    · have := hn hn'
      subst this
      exact hb (.inl hl)
  rcases ha with ⟨hn, rfl, hcl⟩ | ⟨hn, hlen, hfz⟩
  · refine main (LL own β h.H) (fun b hb => hs.ll hb) ⟨hRL.1, fun i c v h1 h2 => ?_⟩ (fun _ => rfl)
    have := hcl c (List.mem_of_getElem? h1) _ _ _ _ (hRL.2 i c v h1 h2)
    have heq : LL (LL own β h.H) noB emp.H = LL own β h.H := by
      funext b
      apply propext
      exact ⟨fun hx => hx.elim id (fun hl => absurd hl (live_emp _ b)), .inl⟩
    rw [heq]; exact this
  · refine main (fun _ => False) (fun b hb => hb.elim) ⟨hlen ▸ hRL.1, fun i d v h1 h2 => ?_⟩ (fun h => by rw [hn] at h; cases h)
    obtain ⟨a, ha⟩ := get_of_len hlen h1
    exact VR.frz hs (fun b _ hl => hl.elim (fun h => h) (live_emp _ b)) (fun _ b _ hl => hl.elim (fun h => h) (live_emp _ b)) (hfz i a d ha h1) (hRL.2 i a v ha h2)

/-- wherever it is called with these arguments, it returns this value and leaves all objects as they are -/
def Pure (P : Program) (f : Nat) (args : List AV) (v : AV) : Prop := ∀ h, CallD P f args h v h
theorem Pure.of {P : Program} {f : Nat} {args : List AV} {v : AV} (hcl : ∀ a ∈ args, Closed a) (hc : CallsA P f args emp fun v' h' => Frz h' false v' v) : Pure P f args v :=
  fun _ => frame hc (fun _ _ h => h) (.inl ⟨rfl, rfl, hcl⟩)
/-- what it returns reaches nothing that was there before -/
def Fresh (P : Program) (f : Nat) (args : List AV) (v : AV) : Prop := CallsA P f args emp fun v' h' => Frz h' true v' v
theorem Fresh.call {P : Program} {f : Nat} {args pargs : List AV} {v : AV} {h : AH} (hf : Fresh P f pargs v) (hlen : args.length = pargs.length) (ha : ∀ (i : Nat) (a b : AV), args[i]? = some a → pargs[i]? = some b → Frz h false a b) : CallD P f args h v h :=
  frame hf (fun _ _ h => h) (.inr ⟨rfl, hlen, ha⟩)
end Go.Eng
end
noncomputable section
namespace Go.Eng
attribute [simp ↓] xs
@[simp] theorem nx_mk (H : Hp) (n : Nat) : AH.nx ⟨H, n⟩ = n := Eq.trans rfl rfl
theorem get_add (h : AH) (o : AObj) (i : Nat) : (h.add o).H.get i = if i = h.nx then some o else h.H.get i := PM.get_put _ _ _ _
theorem get_set (h : AH) (j : Nat) (o : AObj) (i : Nat) : (h.set j o).H.get i = if i = j then some o else h.H.get i := PM.get_put _ _ _ _
theorem get_kill (h : AH) (j : Nat) (i : Nat) : (h.kill j).H.get i = if i = j then none else h.H.get i := PM.get_del _ _ _
/-! ## records of regions that draw their order -/
mutual
theorem AV.beq_refl : ∀ (a : AV), AV.beq a a = true
  | .undef | .nilptr | .nilsl | .esl | .nilmap | .nilfunc | .nilif => by simp [AV.beq]
  | .bool _ | .int _ _ | .str _ | .ptr _ _ | .gptr _ _ | .rsl _ _ _ _ | .mapv _ | .sint _ _ _ _ _ _ | .scol _ _ _ _ _ _ _ _ | .oint _ _ => by simp [AV.beq]
  | .agg a => by simp [AV.beq, AV.beqL_refl a]
  | .tup a => by simp [AV.beq, AV.beqL_refl a]
  | .pptr a => by simp [AV.beq, AV.beqL_refl a]
  | .psl a => by simp [AV.beq, AV.beqLL_refl a]
  | .func _ a b => by simp [AV.beq, AV.beqL_refl a, AV.beqL_refl b]
  | .iface _ a => by simp [AV.beq, AV.beq_refl a]
theorem AV.beqL_refl : ∀ (a : List AV), AV.beqL a a = true
  | [] => by simp [AV.beqL]
  | x :: a => by simp [AV.beqL, AV.beq_refl x, AV.beqL_refl a]
theorem AV.beqLL_refl : ∀ (a : List (List AV)), AV.beqLL a a = true
  | [] => by simp [AV.beqLL]
  | x :: a => by simp [AV.beqLL, AV.beqL_refl x, AV.beqLL_refl a]
end
def FrzL (h : AH) (n : Bool) : List AV → List AV → Prop
  | [], [] => True
  | c :: cs, d :: ds => Frz h n c d ∧ FrzL h n cs ds
  | _, _ => False
theorem FrzL_iff (h : AH) (n : Bool) : ∀ (cs ds : List AV), FrzL h n cs ds ↔ (cs.length = ds.length ∧ ∀ (i : Nat) (c d : AV), cs[i]? = some c → ds[i]? = some d → Frz h n c d)
  | [], [] => by simp [FrzL]
  | [], d :: ds => by simp [FrzL]
  | c :: cs, [] => by simp [FrzL]
  | c :: cs, d :: ds => by
    simp only [FrzL, FrzL_iff h n cs ds, List.length_cons]
    constructor
    · rintro ⟨h1, h2, h3⟩
      refine ⟨by omega, fun i x y hx hy => ?_⟩
      cases i with
      | zero => simp at hx hy; subst hx; subst hy; exact h1
      | succ i => simp at hx hy; exact h3 i x y hx hy
    · rintro ⟨h1, h2⟩
      exact ⟨h2 0 c d (by simp) (by simp), by omega, fun i x y hx hy => h2 (i + 1) x y (by simpa using hx) (by simpa using hy)⟩
/-! ## tables of contracts -/
structure QE (P : Program) where
  f : Nat
  q : List AV → AH → (AV → AH → Prop) → Prop
  ok : ∀ args h Q, q args h Q → ∃ v h', CallD P f args h v h' ∧ Q v h'
def tb {P : Program} : List (QE P) → CL
  | [], _, _, _, _ => False
  | e :: l, f, args, h, Q => cond (Nat.beq e.f f) (e.q args h Q) (tb l f args h Q)
/-- a pure function: its arguments, a condition, its result -/
def QE.pure {P : Program} (f : Nat) {α : Type} (e : α → List AV) (pre : α → Prop) (res : α → AV) (ok : ∀ x, pre x → Pure P f (e x) (res x)) : QE P :=
  ⟨f, fun args h Q => ∃ x, args = e x ∧ pre x ∧ Q (res x) h, fun args h Q ⟨x, h1, h2, h3⟩ => ⟨res x, h, h1 ▸ ok x h2 h, h3⟩⟩
/-- a value in which nothing owned occurs, frozen -/
def Plain (a : AV) : Prop := ∀ (h : AH), Frz h false a a
theorem Plain.bool (b : Bool) : Plain (.bool b) := fun _ => .bool b
theorem Plain.int (k : IntKind) (n : Int) : Plain (.int k n) := fun _ => .int k n
theorem Plain.str (s : List UInt8) : Plain (.str s) := fun _ => .str s
theorem Plain.nilfunc : Plain .nilfunc := fun _ => .nilfunc
theorem Plain.nilptr : Plain .nilptr := fun _ => .nilptr
theorem Plain.agg {cs : List AV} (hc : ∀ c ∈ cs, Plain c) : Plain (.agg cs) := fun h => .agg cs cs rfl fun i c d h1 h2 => by
  rw [h1] at h2; cases h2; exact hc c (List.mem_of_getElem? h1) h
theorem Plain.psl {xs : List (List AV)} (hc : ∀ x ∈ xs, ∀ c ∈ x, Plain c) : Plain (.psl xs) := fun h => .psl rfl xs xs rfl (fun i x y h1 h2 => by rw [h1] at h2; cases h2; rfl) fun i x y j c d h1 h2 h3 h4 => by
  rw [h1] at h2; cases h2; rw [h3] at h4; cases h4; exact hc x (List.mem_of_getElem? h1) c (List.mem_of_getElem? h3) h
theorem Plain.pptr {cs : List AV} (hc : ∀ c ∈ cs, Plain c) : Plain (.pptr cs) := fun h => .pptr rfl cs cs rfl fun i c d h1 h2 => by
  rw [h1] at h2; cases h2; exact hc c (List.mem_of_getElem? h1) h
theorem Plain.func {fn : Fn} {f1 c1 : List AV} (h1 : ∀ c ∈ f1, Plain c) (h2 : ∀ c ∈ c1, Plain c) : Plain (.func fn f1 c1) := fun h => .func fn f1 c1 f1 c1 rfl rfl (fun i c d q1 q2 => by rw [q1] at q2; cases q2; exact h1 c (List.mem_of_getElem? q1) h) (fun i c d q1 q2 => by rw [q1] at q2; cases q2; exact h2 c (List.mem_of_getElem? q1) h)
theorem Pure.call {P : Program} {f : Nat} {args : List AV} {v : AV} {h : AH} {Q : AV → AH → Prop} (hp : Pure P f args v) (hq : Q v h) : CallsA P f args h Q := (hp h).calls hq
end Go.Eng
end
noncomputable section
namespace Go.Eng
open Go.RowKit
theorem Frz.mono {h : AH} {a b : AV} (hf : Frz h true a b) : Frz h false a b := by
  generalize hn : true = n at hf
  induction hf with
  | undef a => exact .undef a
  | bool b => exact .bool b
  | int k m => exact .int k m
  | str s => exact .str s
  | nilptr => exact .nilptr
  | nilfunc => exact .nilfunc
  | nilif => exact .nilif
  | nilmap => exact .nilmap
  | nilsl0 => exact .nilsl0
  | nilsl => exact .nilsl
  | esl0 => exact .esl0
  | esl => exact .esl
  | gptr g o => exact .gptr g o
  | agg cs ds hl hc ih => exact .agg cs ds hl fun i c d h1 h2 => ih i c d h1 h2
  | tup cs ds hl hc ih => exact .tup cs ds hl fun i c d h1 h2 => ih i c d h1 h2
  | psl0 => exact .psl0
  | psl hn' => subst hn; cases hn'
  | pptr hn' => subst hn; cases hn'
  | rsl id off z cs ys ho hs hz hc ih => exact .rsl id off z cs ys ho hs hz fun i y j c d h1 h2 h3 => ih i y j c d h1 h2 h3
  | ptr id off cs ds ho hs hc ih => exact .ptr id off cs ds ho hs fun i c d h1 h2 => ih i c d h1 h2
  | func fn f1 c1 f2 c2 hl1 hl2 h1 h2 ih1 ih2 => exact .func fn f1 c1 f2 c2 hl1 hl2 (fun i c d q1 q2 => ih1 i c d q1 q2) (fun i c d q1 q2 => ih2 i c d q1 q2)
  | iface t a b hb ih => exact .iface t a b (ih)
theorem Fresh.pure {P : Program} {f : Nat} {args : List AV} {v : AV} (hf : Fresh P f args v) (hcl : ∀ a ∈ args, Closed a) : Pure P f args v :=
  Pure.of hcl (hf.mono fun _ _ h => h.mono)

theorem VR.sub {hp : Array Obj} {L L' : Nat → Prop} {β : Bl} (h : ∀ b, L' b → L b) {a : AV} {v : Value} (hv : VR hp L β a v) : VR hp L' β a v :=
  hv.later ⟨fun _ _ h => h, fun b _ hn => ⟨fun hl => hn (h b hl), rfl⟩, fun _ cur _ fz h => ⟨cur, fz, h, rfl⟩⟩

theorem SimH.kill {own : Nat → Prop} {β : Bl} {h : AH} {w : World} (hs : SimH own β h.H h.nx w) (id : Nat) : SimH own β (h.kill id).H h.nx w := by
  have hsub : ∀ b, live β (h.kill id).H b → live β h.H b := by
    rintro b ⟨i, o, base, h1, h2⟩
    rw [get_kill] at h1
    split at h1
    · cases h1
    · exact ⟨i, o, base, h1, h2⟩
  refine ⟨hs.fresh, hs.lt, hs.ownlt, fun i o hi => ?_, fun i j o o' b x y h1 h2 h3 h4 => ?_⟩
  · rw [get_kill] at hi
    split at hi
    · cases hi
    · obtain ⟨b, base, q1, q2, q3⟩ := hs.obj i o hi
      have hw : ∀ b, (own b ∨ live β (h.kill id).H b) → (own b ∨ live β h.H b) := fun b hb => hb.imp_right (hsub b)
      refine ⟨b, base, q1, q2, ?_⟩
      cases o with
      | cells cs => obtain ⟨cur, e, r1, r2, r3⟩ := q3; exact ⟨cur, e, r1, r2, fun i c v k1 k2 => (r3 i c v k1 k2).sub hw⟩
      | map kvs => obtain ⟨r0, es, r1, r2, r3⟩ := q3; exact ⟨r0, es, r1, r2, fun i kv e k1 k2 => ⟨(r3 i kv e k1 k2).1.sub hw, (r3 i kv e k1 k2).2.1.sub hw, (r3 i kv e k1 k2).2.2⟩⟩
      | siter s pos => exact q3
      | typ t cs => obtain ⟨r0, cur, r1, r2, r3⟩ := q3; exact ⟨r0, cur, r1, r2, fun i c v k1 k2 => (r3 i c v k1 k2).sub hw⟩
      | glob g cs => obtain ⟨r0, r00, cur, e, fz, r1, r2, r3⟩ := q3; exact ⟨r0, r00, cur, e, fz, r1, r2, fun i c v k1 k2 => (r3 i c v k1 k2).sub hw⟩
  · rw [get_kill] at h1 h2
    split at h1
    · cases h1
    split at h2
    · cases h2
    exact hs.inj i j o o' b x y h1 h2 h3 h4

end Go.Eng
end
noncomputable section
namespace Go.Eng
section
variable {ns : List Nat}
end
def PM.map {α β : Type} (f : α → β) : PM α → PM β
  | .leaf => .leaf
  | .node l v r => .node (l.map f) (v.map f) (r.map f)
section
variable {ns : List Nat} {hp : Array Obj} {L : Nat → Prop} {β β' : Bl}
end
section
variable {ns : List Nat} {h : AH}
end
end Go.Eng
end
