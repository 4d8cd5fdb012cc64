/- The law DisplayRaw holds: for every two lists of commands and every point it answers true and leaves its arguments as they were. -/
import Derived.Test.YtpnekpbehcbmkaaD8G
import Derived.Test.YtpnekpbehcbmkaaEngCC
import Derived.Test.YtpnekpbehcbmkaaRows
import Derived.WalkKit
import Derived.ProofKit
import Derived.OpenShut
import Derived.ShutString
import Derived.ChangeOld
import Derived.Below
set_option linter.unusedSimpArgs false
set_option linter.unusedVariables false
set_option linter.unnecessarySimpa false
noncomputable section
namespace Go.Proofs.Ytpnekpbehcbmkaa
open Go.Eng
open Go.ChangeShapes Go.WideShapes Go.ChangeAt Go.RowKit
set_option linter.unusedVariables false
theorem own : ownKnob Try.prog.godebug = none := by kernel_rfl
theorem laidOut : laidOutB Try.prog = true := by kernel_rfl
/-- the law, run in a world: true, and nothing that was there is written -/
theorem run_law {f : Nat} {pargs : List AV} (hf : Fresh Try.prog f pargs (.bool true)) {W : World} {cargs : Array Value} (hR : RL W.heap (fun _ => False) noB pargs cargs.toList) :
    Calls Try.prog f cargs W fun e W' => e = .returned (.bool true) ∧ Below W.heap.size W W' := by
  have hLL : LL (fun _ => False) noB emp.H = fun _ => False := by
    funext b; apply propext; exact ⟨fun h => h.elim id (live_emp _ b), fun h => h.elim⟩
  refine (hf.2 (fun _ => False) noB W cargs (simH_emp fun b h => h.elim) (by rw [hLL]; exact hR)).mono ?_
  rintro e W' ⟨cv, v, h', β', rfl, hfz, _, hv, ht⟩
  have hv2 : v = .bool true := by
    generalize hb : AV.bool true = b at hfz
    cases hfz <;> cases hb
    rfl
  subst hv2
  cases hv
  exact ⟨rfl, ht.os, ht.tape, ht.output, ht.size, fun k hk => ht.keep k hk (live_emp _ k)⟩
end Go.Proofs.Ytpnekpbehcbmkaa
end
