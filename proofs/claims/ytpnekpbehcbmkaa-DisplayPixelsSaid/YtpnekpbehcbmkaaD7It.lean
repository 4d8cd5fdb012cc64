/- The iterator over a slice from behind keeps its contract. -/
import Derived.RangeFuncBox
import Derived.RangeFuncLeaves
import Derived.Shelf.Abstract
import Derived.WalkKit
import Derived.OwnWalkIn
import Derived.TacticsInMore
import Derived.LoopNIn
import Derived.LoopIn
import Derived.Test.YtpnekpbehcbmkaaD7FnsA
import Derived.Test.YtpnekpbehcbmkaaD7FnsB
set_option linter.unusedSimpArgs false
set_option linter.unusedVariables false
set_option linter.unnecessarySimpa false
namespace Go.Proofs.Ytpnekpbehcbmkaa
open Go.RowKit Go.Shelf Go.Eng
attribute [local go_sem] Oper.semAt_some
set_option maxRecDepth 100000 in
set_option maxHeartbeats 2000000 in
theorem back85 : BackOk Try.prog 85 := by
  refine ⟨⟨_, Try.func85, rfl, by decide⟩, ?_⟩
  intro l bx len J Jx W hlen hmem hY h0
  refine callsIn_wide.1 (?_ : CallsIn Fence.wide 1 Try.prog 85 _ W _)
  refine callsIn_of_wp Try.func85 rfl trivial ?_ rfl
  simp only [Try.ntmps85, List.size_toArray, List.length_cons, List.length_nil, Nat.reduceAdd, Nat.reduceSub, Array.replicate_succ, Array.replicate_zero, List.push_toArray, List.append_toArray, List.nil_append, List.cons_append]
  have hlen' : len ≤ 9223372036854775807 := hlen
  rcases hmem 0 W h0 with ⟨hz, hc⟩ | ⟨b, o, cap, hc, hel⟩
  · subst hz
    gi_wp2
    gi_loopw [3] (fun i wr => i = .int .i64 (-1) ∧ J 0 wr) (fun _ _ => 0)
    case atStart => exact ⟨rfl, h0⟩
    case round =>
      obtain ⟨rfl, hJs⟩ := hrel
      gi_wp2
      go_end0
      exact ⟨⟨_, rfl⟩, .inl hJs⟩
  · gi_wp2
    gi_loopw [3] (fun i wr => ∃ k : Nat, k ≤ len ∧ i = .int .i64 ((len : Int) - 1 - k) ∧ J k wr) (fun i _ => ((intOf i) + 1).toNat)
    case atStart => exact ⟨0, Nat.zero_le _, by simp, h0⟩
    case round =>
      obtain ⟨k, hk, rfl, hJs⟩ := hrel
      by_cases hlt : k < len
      · rcases hmem k wr hJs with ⟨hz, hc2⟩ | ⟨b2, o2, cap2, hc2, hel2⟩
        · omega
        · obtain ⟨v, hv⟩ := hel2 (len - 1 - k) (by omega)
          obtain ⟨fn, tmps, assign, body, hy, hR⟩ := hY k wr b2 o2 cap2 v hlt hJs hc2 hv
          have e1 : ((len - 1 - k : Nat) : Int) = (len : Int) - 1 - k := by omega
          rw [e1] at hy
          gi_wp2
          refine hR.mono ?_
          rintro e W3 (⟨rfl, hJ3⟩ | ⟨rfl, hJx3⟩)
          · gi_wp2
            go_roundw
            case rel => exact ⟨k + 1, by omega, by simp; omega, hJ3⟩
            case measure => simp [intOf]; omega
          · gi_wp2
            refine bodyPost_ret (results_none rfl _ _ _) rfl ?_
            exact ⟨⟨_, rfl⟩, .inr hJx3⟩
      · obtain rfl : k = len := by omega
        gi_wp2
        go_end0
        exact ⟨⟨_, rfl⟩, .inl hJs⟩
end Go.Proofs.Ytpnekpbehcbmkaa
