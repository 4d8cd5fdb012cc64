/- The law DisplayRaw holds: for every two lists of commands and every point it answers true and leaves its arguments as they were. -/
import Derived.Test.YtpnekpbehcbmkaaEngDD
import Derived.Test.YtpnekpbehcbmkaaEngCC
import Derived.Test.YtpnekpbehcbmkaaRows
import Derived.WalkKit
import Derived.ProofKit
import Derived.OpenShut
import Derived.ShutString
import Derived.ChangeOld
import Derived.Below
set_option linter.unusedSimpArgs false
set_option linter.unusedVariables false
set_option linter.unnecessarySimpa false
noncomputable section
namespace Go.Proofs.Ytpnekpbehcbmkaa
open Go.Eng
open Go.ChangeShapes Go.WideShapes Go.ChangeAt Go.RowKit
set_option linter.unusedVariables false
theorem own : ownKnob Try.prog.godebug = none := by kernel_rfl
theorem laidOut : laidOutB Try.prog = true := by kernel_rfl
abbrev i8 : SH := .int .i64
abbrev glSh : List SH := [i8, i8, i8, i8, i8, i8, i8, i8]
abbrev cmdSh : List SH := [i8, i8, i8, i8, i8, i8, .bool, i8, i8, i8, i8, .str, i8, i8, i8, i8, i8, i8, i8, i8, i8, .sl glSh]
theorem hs_int {a : AV} (h : HasSh a i8) : ∃ n, a = I n := by cases h; exact ⟨_, rfl⟩
theorem hs_bool {a : AV} (h : HasSh a .bool) : ∃ n, a = .bool n := by cases h; exact ⟨_, rfl⟩
theorem hs_str {a : AV} (h : HasSh a .str) : ∃ n, a = .str n := by cases h; exact ⟨_, rfl⟩
theorem hs_cons {xa : List AV} {s : SH} {ss : List SH} (h : HasShL xa (s :: ss)) : ∃ a bs, xa = a :: bs ∧ HasSh a s ∧ HasShL bs ss := by cases h with | cons a _ bs _ h hs => exact ⟨a, bs, rfl, h, hs⟩
theorem hs_nil {xa : List AV} (h : HasShL xa []) : xa = [] := by cases h; rfl
theorem gl_sh {x : List AV} (h : HasShL x glSh) : ∃ g : Gl, x = g.enc := by
  obtain ⟨a1, x, rfl, h1, h⟩ := hs_cons h
  obtain ⟨a2, x, rfl, h2, h⟩ := hs_cons h
  obtain ⟨a3, x, rfl, h3, h⟩ := hs_cons h
  obtain ⟨a4, x, rfl, h4, h⟩ := hs_cons h
  obtain ⟨a5, x, rfl, h5, h⟩ := hs_cons h
  obtain ⟨a6, x, rfl, h6, h⟩ := hs_cons h
  obtain ⟨a7, x, rfl, h7, h⟩ := hs_cons h
  obtain ⟨a8, x, rfl, h8, h⟩ := hs_cons h
  obtain rfl := hs_nil h
  obtain ⟨n1, rfl⟩ := hs_int h1
  obtain ⟨n2, rfl⟩ := hs_int h2
  obtain ⟨n3, rfl⟩ := hs_int h3
  obtain ⟨n4, rfl⟩ := hs_int h4
  obtain ⟨n5, rfl⟩ := hs_int h5
  obtain ⟨n6, rfl⟩ := hs_int h6
  obtain ⟨n7, rfl⟩ := hs_int h7
  obtain ⟨n8, rfl⟩ := hs_int h8
  exact ⟨⟨n1, n2, n3, n4, n5, n6, n7, n8⟩, rfl⟩
theorem map_of {α : Type} {e : α → List AV} {Pr : α → Prop} : ∀ {xs : List (List AV)}, (∀ x ∈ xs, ∃ a, x = e a ∧ Pr a) → ∃ l : List α, xs = l.map e ∧ ∀ a ∈ l, Pr a
  | [], _ => ⟨[], rfl, fun a ha => by simp at ha⟩
  | x :: xs, h => by
    obtain ⟨a, rfl, ha⟩ := h x (by simp)
    obtain ⟨l, rfl, hl⟩ := map_of (xs := xs) fun y hy => h y (by simp [hy])
    exact ⟨a :: l, rfl, fun b hb => by simp at hb; rcases hb with rfl | hb; exact ha; exact hl b hb⟩
theorem gls_sh {a : AV} (h : HasSh a (.sl glSh)) : ∃ l, a = gls l ∧ l.length ≤ maxLen := by
  cases h with
  | sl xs e hl hx =>
    obtain ⟨l, rfl, _⟩ := map_of (e := Gl.enc) (Pr := fun _ => True) fun x hxm => let ⟨g, hg⟩ := gl_sh (hx x hxm); ⟨g, hg, trivial⟩
    exact ⟨l, rfl, by simpa using hl⟩
theorem cmd_sh {x : List AV} (h : HasShL x cmdSh) : ∃ c : Cmd, x = c.enc := by
  obtain ⟨a1, x, rfl, h1, h⟩ := hs_cons h
  obtain ⟨a2, x, rfl, h2, h⟩ := hs_cons h
  obtain ⟨a3, x, rfl, h3, h⟩ := hs_cons h
  obtain ⟨a4, x, rfl, h4, h⟩ := hs_cons h
  obtain ⟨a5, x, rfl, h5, h⟩ := hs_cons h
  obtain ⟨a6, x, rfl, h6, h⟩ := hs_cons h
  obtain ⟨a7, x, rfl, h7, h⟩ := hs_cons h
  obtain ⟨a8, x, rfl, h8, h⟩ := hs_cons h
  obtain ⟨a9, x, rfl, h9, h⟩ := hs_cons h
  obtain ⟨a10, x, rfl, h10, h⟩ := hs_cons h
  obtain ⟨a11, x, rfl, h11, h⟩ := hs_cons h
  obtain ⟨a12, x, rfl, h12, h⟩ := hs_cons h
  obtain ⟨a13, x, rfl, h13, h⟩ := hs_cons h
  obtain ⟨a14, x, rfl, h14, h⟩ := hs_cons h
  obtain ⟨a15, x, rfl, h15, h⟩ := hs_cons h
  obtain ⟨a16, x, rfl, h16, h⟩ := hs_cons h
  obtain ⟨a17, x, rfl, h17, h⟩ := hs_cons h
  obtain ⟨a18, x, rfl, h18, h⟩ := hs_cons h
  obtain ⟨a19, x, rfl, h19, h⟩ := hs_cons h
  obtain ⟨a20, x, rfl, h20, h⟩ := hs_cons h
  obtain ⟨a21, x, rfl, h21, h⟩ := hs_cons h
  obtain ⟨a22, x, rfl, h22, h⟩ := hs_cons h
  obtain rfl := hs_nil h
  obtain ⟨n1, rfl⟩ := hs_int h1
  obtain ⟨n2, rfl⟩ := hs_int h2
  obtain ⟨n3, rfl⟩ := hs_int h3
  obtain ⟨n4, rfl⟩ := hs_int h4
  obtain ⟨n5, rfl⟩ := hs_int h5
  obtain ⟨n6, rfl⟩ := hs_int h6
  obtain ⟨n7, rfl⟩ := hs_bool h7
  obtain ⟨n8, rfl⟩ := hs_int h8
  obtain ⟨n9, rfl⟩ := hs_int h9
  obtain ⟨n10, rfl⟩ := hs_int h10
  obtain ⟨n11, rfl⟩ := hs_int h11
  obtain ⟨n12, rfl⟩ := hs_str h12
  obtain ⟨n13, rfl⟩ := hs_int h13
  obtain ⟨n14, rfl⟩ := hs_int h14
  obtain ⟨n15, rfl⟩ := hs_int h15
  obtain ⟨n16, rfl⟩ := hs_int h16
  obtain ⟨n17, rfl⟩ := hs_int h17
  obtain ⟨n18, rfl⟩ := hs_int h18
  obtain ⟨n19, rfl⟩ := hs_int h19
  obtain ⟨n20, rfl⟩ := hs_int h20
  obtain ⟨n21, rfl⟩ := hs_int h21
  obtain ⟨l, rfl, _⟩ := gls_sh h22
  exact ⟨⟨n1, ⟨n2, n3, n4, n5⟩, ⟨n6, n7, n8, n9, n10⟩, n11, n12, ⟨n13, n14, n15, n16, n17, n18, n19, n20, n21, l⟩⟩, rfl⟩
theorem cmds_sh {a : AV} (h : HasSh a (.sl cmdSh)) : ∃ l, a = cmds l ∧ SmX l := by
  cases h with
  | sl xs e hl hx =>
    obtain ⟨l, rfl, _⟩ := map_of (e := Cmd.enc) (Pr := fun _ => True) fun x hxm => let ⟨g, hg⟩ := cmd_sh (hx x hxm); ⟨g, hg, trivial⟩
    have h2 : (l.map Cmd.enc).length ≤ maxLen := hl
    refine ⟨l, rfl, ?_⟩
    unfold maxLen at h2
    unfold SmX
    simpa using h2
/-- the law, run in a world: true, and nothing that was there is written -/
theorem run_law {f : Nat} {pargs : List AV} (hf : Fresh Try.prog f pargs (.bool true)) {W : World} {cargs : Array Value} (hR : RL W.heap (fun _ => False) noB pargs cargs.toList) :
    Calls Try.prog f cargs W fun e W' => e = .returned (.bool true) ∧ Below W.heap.size W W' := by
  have hLL : LL (fun _ => False) noB emp.H = fun _ => False := by
    funext b; apply propext; exact ⟨fun h => h.elim id (live_emp _ b), fun h => h.elim⟩
  refine (hf.2 (fun _ => False) noB W cargs (simH_emp fun b h => h.elim) (by rw [hLL]; exact hR)).mono ?_
  rintro e W' ⟨cv, v, h', β', rfl, hfz, _, hv, ht⟩
  have hv2 : v = .bool true := by
    generalize hb : AV.bool true = b at hfz
    cases hfz <;> cases hb
    rfl
  subst hv2
  cases hv
  exact ⟨rfl, ht.os, ht.tape, ht.output, ht.size, fun k hk => ht.keep k hk (live_emp _ k)⟩
end Go.Proofs.Ytpnekpbehcbmkaa
end
