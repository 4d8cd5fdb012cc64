/- The iterator of slices.All over lines keeps its contract. Arguments that are read: integers, truths, strings, structures of these, slices of these. A call that ends with one new object and changed old ones: what else it has made is forgotten, what the new object holds is frozen. -/
import Derived.RangeFuncBox
import Derived.RangeFuncLeaves
import Derived.Shelf.Abstract
import Derived.WalkKit
import Derived.OwnWalkIn
import Derived.TacticsInMore
import Derived.LoopNIn
import Derived.LoopIn
import Derived.Test.YtfpcmkpfdjnhnaaGreatDoorEngW
import Derived.Test.YtfpcmkpfdjnhnaaGreatDoorZlIts
import Derived.Test.YtfpcmkpfdjnhnaaGreatDoorProg
import Derived.Test.YtfpcmkpfdjnhnaaGreatDoorEngIN
import Derived.ChangeArms
import Derived.ChangeSame
set_option linter.unusedSimpArgs false
set_option linter.unusedVariables false
set_option linter.unnecessarySimpa false
noncomputable section
namespace Go.Proofs.YtfpcmkpfdjnhnaaGreatDoor
open Go.RowKit Go.Shelf Go.Eng
attribute [local go_sem] Oper.semAt_some
theorem store_at (P : Program) {w : World} {g : Nat} {cur : Array Value} {t : TypeId} {i : Nat} {v : Value} (hg : w.heap[g]? = some (.cells cur t (0, 0))) (hi : i < cur.size) (hv : v.oneCell' = true) :
    (store ⟨g, i, none⟩ v).run P w = .ok () (w.setRow g (cur.setIfInBounds i v)) := by
  have hcell : w.cell? ⟨g, i, none⟩ = some cur[i] := by simp [World.cell?, hg, hi]
  have hfro : w.frozen? ⟨g, i, none⟩ = false := by simp [World.frozen?, hg]
  rw [run_store P w _ v _ hv, hcell]
  simp [hfro, setCell_eq_setRow w g i cur t (0, 0) v hg]
theorem quiet_row {w : World} (o : Obj) (cs : Array Value) : Quiet w.heap.size w ((w.alloc o).setRow w.heap.size cs) := by
  have key : ∀ b, b < w.heap.size → ((w.alloc o).setRow w.heap.size cs).heap[b]? = w.heap[b]? := fun b hb => (setRow_other _ _ _ _ (by omega)).trans (Below.heap_alloc w o b hb)
  exact ⟨by simp, fun b x hx _ => (key b (lt_of_get hx)).trans hx, key, rfl, rfl, rfl⟩

set_option maxRecDepth 100000 in
set_option maxHeartbeats 2000000 in
theorem it281 : IterOk Tryz.prog ⟨281, false, some 10⟩ := by
  refine ⟨⟨_, Tryz.func281, rfl, by decide⟩, ?_⟩
  intro l bx len J Jx W hlen hmem hfix hY hgrow h0
  refine callsIn_wide.1 (?_ : CallsIn Fence.wide 1 Tryz.prog 281 _ W _)
  refine callsIn_of_wp Tryz.func281 rfl trivial ?_ rfl
  simp only [Tryz.ntmps281, List.size_toArray, List.length_cons, List.length_nil, Nat.reduceAdd, Nat.reduceSub, Array.replicate_succ, Array.replicate_zero, List.push_toArray, List.append_toArray, List.nil_append, List.cons_append]
  have hlen' : len ≤ 9223372036854775807 := hlen
  rcases hmem 0 W h0 with ⟨hz, a, cap, hc⟩ | ⟨b, o, cap, hc, hel⟩
  · subst hz
    gi_wp2
    gi_loopw [7] (fun i wr => i = .int .i64 0 ∧ J 0 wr) (fun _ _ => 0)
    case atStart => exact ⟨rfl, h0⟩
    case round =>
      obtain ⟨rfl, hJs⟩ := hrel
      gi_wp2
      go_end0
      exact ⟨⟨_, rfl⟩, .inl hJs⟩
  · gi_wp2
    gi_loopw [7] (fun i wr => ∃ k : Nat, k ≤ len ∧ i = .int .i64 (k : Int) ∧ J k wr) (fun i _ => (len : Int).toNat - (intOf i).toNat)
    case atStart => exact ⟨0, Nat.zero_le _, rfl, h0⟩
    case round =>
      obtain ⟨k, hk, rfl, hJs⟩ := hrel
      by_cases hlt : k < len
      · obtain ⟨v, hv⟩ := hfix b o cap hc k wr hJs k hlt
        obtain ⟨⟨cl⟩, rfl, hcs, hcell, hone⟩ := hv
        simp only [List.size_toArray] at hcs
        obtain ⟨c0, c1, c2, c3, c4, c5, c6, c7, c8, c9, rfl⟩ : ∃ c0 c1 c2 c3 c4 c5 c6 c7 c8 c9, cl = [c0, c1, c2, c3, c4, c5, c6, c7, c8, c9] := by
          match cl, hcs with
          | [c0, c1, c2, c3, c4, c5, c6, c7, c8, c9], _ => exact ⟨c0, c1, c2, c3, c4, c5, c6, c7, c8, c9, rfl⟩
        have f0 : wr.cell? ⟨b, o + k * 10, none⟩ = some c0 := hcell 0 c0 rfl
        have f1 : wr.cell? ⟨b, o + k * 10 + 1, none⟩ = some c1 := hcell 1 c1 rfl
        have f2 : wr.cell? ⟨b, o + k * 10 + 2, none⟩ = some c2 := hcell 2 c2 rfl
        have f3 : wr.cell? ⟨b, o + k * 10 + 3, none⟩ = some c3 := hcell 3 c3 rfl
        have f4 : wr.cell? ⟨b, o + k * 10 + 4, none⟩ = some c4 := hcell 4 c4 rfl
        have f5 : wr.cell? ⟨b, o + k * 10 + 5, none⟩ = some c5 := hcell 5 c5 rfl
        have f6 : wr.cell? ⟨b, o + k * 10 + 6, none⟩ = some c6 := hcell 6 c6 rfl
        have f7 : wr.cell? ⟨b, o + k * 10 + 7, none⟩ = some c7 := hcell 7 c7 rfl
        have f8 : wr.cell? ⟨b, o + k * 10 + 8, none⟩ = some c8 := hcell 8 c8 rfl
        have f9 : wr.cell? ⟨b, o + k * 10 + 9, none⟩ = some c9 := hcell 9 c9 rfl
        have hyy := fun wr' (hq : Quiet wr.heap.size wr wr') hel' => hY k wr' b o cap (.agg #[c0, c1, c2, c3, c4, c5, c6, c7, c8, c9]) hlt (hgrow k wr wr' hJs hq) (.inr hc) hel'
        have g0 : c0.oneCell' = true := hone 0 c0 rfl
        have g1 : c1.oneCell' = true := hone 1 c1 rfl
        have g2 : c2.oneCell' = true := hone 2 c2 rfl
        have g3 : c3.oneCell' = true := hone 3 c3 rfl
        have g4 : c4.oneCell' = true := hone 4 c4 rfl
        have g5 : c5.oneCell' = true := hone 5 c5 rfl
        have g6 : c6.oneCell' = true := hone 6 c6 rfl
        have g7 : c7.oneCell' = true := hone 7 c7 rfl
        have g8 : c8.oneCell' = true := hone 8 c8 rfl
        have g9 : c9.oneCell' = true := hone 9 c9 rfl
        clear hmem hfix hY hgrow hel
        gi_wp2
        have hnew : (wr.alloc (Obj.cells #[Value.int IntKind.i64 0, Value.int IntKind.i64 0, Value.int IntKind.i64 0, Value.int IntKind.i64 0, Value.int IntKind.i64 0, Value.int IntKind.i64 0, Value.int IntKind.i64 0, Value.int IntKind.i64 0, Value.int IntKind.i64 0, Value.slice none 0 0] 98)).heap[wr.heap.size]? = some (Obj.cells #[Value.int IntKind.i64 0, Value.int IntKind.i64 0, Value.int IntKind.i64 0, Value.int IntKind.i64 0, Value.int IntKind.i64 0, Value.int IntKind.i64 0, Value.int IntKind.i64 0, Value.int IntKind.i64 0, Value.int IntKind.i64 0, Value.slice none 0 0] 98 (0, 0)) := World.alloc_heap_new _ _
        have hq10 : Quiet wr.heap.size wr ((wr.alloc (Obj.cells #[Value.int IntKind.i64 0, Value.int IntKind.i64 0, Value.int IntKind.i64 0, Value.int IntKind.i64 0, Value.int IntKind.i64 0, Value.int IntKind.i64 0, Value.int IntKind.i64 0, Value.int IntKind.i64 0, Value.int IntKind.i64 0, Value.slice none 0 0] 98)).setRow wr.heap.size #[c0, c1, c2, c3, c4, c5, c6, c7, c8, c9]) := quiet_row _ _
        have hnew10 := setRow_heap _ _ _ #[c0, c1, c2, c3, c4, c5, c6, c7, c8, c9] _ _ hnew
        have t0 : (store ⟨wr.heap.size, 0, none⟩ c0).run Tryz.prog (wr.alloc (Obj.cells #[Value.int IntKind.i64 0, Value.int IntKind.i64 0, Value.int IntKind.i64 0, Value.int IntKind.i64 0, Value.int IntKind.i64 0, Value.int IntKind.i64 0, Value.int IntKind.i64 0, Value.int IntKind.i64 0, Value.int IntKind.i64 0, Value.slice none 0 0] 98)) = .ok () ((wr.alloc (Obj.cells #[Value.int IntKind.i64 0, Value.int IntKind.i64 0, Value.int IntKind.i64 0, Value.int IntKind.i64 0, Value.int IntKind.i64 0, Value.int IntKind.i64 0, Value.int IntKind.i64 0, Value.int IntKind.i64 0, Value.int IntKind.i64 0, Value.slice none 0 0] 98)).setRow wr.heap.size #[c0, Value.int IntKind.i64 0, Value.int IntKind.i64 0, Value.int IntKind.i64 0, Value.int IntKind.i64 0, Value.int IntKind.i64 0, Value.int IntKind.i64 0, Value.int IntKind.i64 0, Value.int IntKind.i64 0, Value.slice none 0 0]) := store_at _ hnew (by simp) g0
        have t1 : (store ⟨wr.heap.size, 1, none⟩ c1).run Tryz.prog ((wr.alloc (Obj.cells #[Value.int IntKind.i64 0, Value.int IntKind.i64 0, Value.int IntKind.i64 0, Value.int IntKind.i64 0, Value.int IntKind.i64 0, Value.int IntKind.i64 0, Value.int IntKind.i64 0, Value.int IntKind.i64 0, Value.int IntKind.i64 0, Value.slice none 0 0] 98)).setRow wr.heap.size #[c0, Value.int IntKind.i64 0, Value.int IntKind.i64 0, Value.int IntKind.i64 0, Value.int IntKind.i64 0, Value.int IntKind.i64 0, Value.int IntKind.i64 0, Value.int IntKind.i64 0, Value.int IntKind.i64 0, Value.slice none 0 0]) = .ok () ((wr.alloc (Obj.cells #[Value.int IntKind.i64 0, Value.int IntKind.i64 0, Value.int IntKind.i64 0, Value.int IntKind.i64 0, Value.int IntKind.i64 0, Value.int IntKind.i64 0, Value.int IntKind.i64 0, Value.int IntKind.i64 0, Value.int IntKind.i64 0, Value.slice none 0 0] 98)).setRow wr.heap.size #[c0, c1, Value.int IntKind.i64 0, Value.int IntKind.i64 0, Value.int IntKind.i64 0, Value.int IntKind.i64 0, Value.int IntKind.i64 0, Value.int IntKind.i64 0, Value.int IntKind.i64 0, Value.slice none 0 0]) := (store_at _ (setRow_heap _ _ _ _ _ _ hnew) (by simp) g1).trans (congrArg (Result.ok ()) (setRow_setRow _ _ _ _))
        have t2 : (store ⟨wr.heap.size, 2, none⟩ c2).run Tryz.prog ((wr.alloc (Obj.cells #[Value.int IntKind.i64 0, Value.int IntKind.i64 0, Value.int IntKind.i64 0, Value.int IntKind.i64 0, Value.int IntKind.i64 0, Value.int IntKind.i64 0, Value.int IntKind.i64 0, Value.int IntKind.i64 0, Value.int IntKind.i64 0, Value.slice none 0 0] 98)).setRow wr.heap.size #[c0, c1, Value.int IntKind.i64 0, Value.int IntKind.i64 0, Value.int IntKind.i64 0, Value.int IntKind.i64 0, Value.int IntKind.i64 0, Value.int IntKind.i64 0, Value.int IntKind.i64 0, Value.slice none 0 0]) = .ok () ((wr.alloc (Obj.cells #[Value.int IntKind.i64 0, Value.int IntKind.i64 0, Value.int IntKind.i64 0, Value.int IntKind.i64 0, Value.int IntKind.i64 0, Value.int IntKind.i64 0, Value.int IntKind.i64 0, Value.int IntKind.i64 0, Value.int IntKind.i64 0, Value.slice none 0 0] 98)).setRow wr.heap.size #[c0, c1, c2, Value.int IntKind.i64 0, Value.int IntKind.i64 0, Value.int IntKind.i64 0, Value.int IntKind.i64 0, Value.int IntKind.i64 0, Value.int IntKind.i64 0, Value.slice none 0 0]) := (store_at _ (setRow_heap _ _ _ _ _ _ hnew) (by simp) g2).trans (congrArg (Result.ok ()) (setRow_setRow _ _ _ _))
        have t3 : (store ⟨wr.heap.size, 3, none⟩ c3).run Tryz.prog ((wr.alloc (Obj.cells #[Value.int IntKind.i64 0, Value.int IntKind.i64 0, Value.int IntKind.i64 0, Value.int IntKind.i64 0, Value.int IntKind.i64 0, Value.int IntKind.i64 0, Value.int IntKind.i64 0, Value.int IntKind.i64 0, Value.int IntKind.i64 0, Value.slice none 0 0] 98)).setRow wr.heap.size #[c0, c1, c2, Value.int IntKind.i64 0, Value.int IntKind.i64 0, Value.int IntKind.i64 0, Value.int IntKind.i64 0, Value.int IntKind.i64 0, Value.int IntKind.i64 0, Value.slice none 0 0]) = .ok () ((wr.alloc (Obj.cells #[Value.int IntKind.i64 0, Value.int IntKind.i64 0, Value.int IntKind.i64 0, Value.int IntKind.i64 0, Value.int IntKind.i64 0, Value.int IntKind.i64 0, Value.int IntKind.i64 0, Value.int IntKind.i64 0, Value.int IntKind.i64 0, Value.slice none 0 0] 98)).setRow wr.heap.size #[c0, c1, c2, c3, Value.int IntKind.i64 0, Value.int IntKind.i64 0, Value.int IntKind.i64 0, Value.int IntKind.i64 0, Value.int IntKind.i64 0, Value.slice none 0 0]) := (store_at _ (setRow_heap _ _ _ _ _ _ hnew) (by simp) g3).trans (congrArg (Result.ok ()) (setRow_setRow _ _ _ _))
        have t4 : (store ⟨wr.heap.size, 4, none⟩ c4).run Tryz.prog ((wr.alloc (Obj.cells #[Value.int IntKind.i64 0, Value.int IntKind.i64 0, Value.int IntKind.i64 0, Value.int IntKind.i64 0, Value.int IntKind.i64 0, Value.int IntKind.i64 0, Value.int IntKind.i64 0, Value.int IntKind.i64 0, Value.int IntKind.i64 0, Value.slice none 0 0] 98)).setRow wr.heap.size #[c0, c1, c2, c3, Value.int IntKind.i64 0, Value.int IntKind.i64 0, Value.int IntKind.i64 0, Value.int IntKind.i64 0, Value.int IntKind.i64 0, Value.slice none 0 0]) = .ok () ((wr.alloc (Obj.cells #[Value.int IntKind.i64 0, Value.int IntKind.i64 0, Value.int IntKind.i64 0, Value.int IntKind.i64 0, Value.int IntKind.i64 0, Value.int IntKind.i64 0, Value.int IntKind.i64 0, Value.int IntKind.i64 0, Value.int IntKind.i64 0, Value.slice none 0 0] 98)).setRow wr.heap.size #[c0, c1, c2, c3, c4, Value.int IntKind.i64 0, Value.int IntKind.i64 0, Value.int IntKind.i64 0, Value.int IntKind.i64 0, Value.slice none 0 0]) := (store_at _ (setRow_heap _ _ _ _ _ _ hnew) (by simp) g4).trans (congrArg (Result.ok ()) (setRow_setRow _ _ _ _))
        have t5 : (store ⟨wr.heap.size, 5, none⟩ c5).run Tryz.prog ((wr.alloc (Obj.cells #[Value.int IntKind.i64 0, Value.int IntKind.i64 0, Value.int IntKind.i64 0, Value.int IntKind.i64 0, Value.int IntKind.i64 0, Value.int IntKind.i64 0, Value.int IntKind.i64 0, Value.int IntKind.i64 0, Value.int IntKind.i64 0, Value.slice none 0 0] 98)).setRow wr.heap.size #[c0, c1, c2, c3, c4, Value.int IntKind.i64 0, Value.int IntKind.i64 0, Value.int IntKind.i64 0, Value.int IntKind.i64 0, Value.slice none 0 0]) = .ok () ((wr.alloc (Obj.cells #[Value.int IntKind.i64 0, Value.int IntKind.i64 0, Value.int IntKind.i64 0, Value.int IntKind.i64 0, Value.int IntKind.i64 0, Value.int IntKind.i64 0, Value.int IntKind.i64 0, Value.int IntKind.i64 0, Value.int IntKind.i64 0, Value.slice none 0 0] 98)).setRow wr.heap.size #[c0, c1, c2, c3, c4, c5, Value.int IntKind.i64 0, Value.int IntKind.i64 0, Value.int IntKind.i64 0, Value.slice none 0 0]) := (store_at _ (setRow_heap _ _ _ _ _ _ hnew) (by simp) g5).trans (congrArg (Result.ok ()) (setRow_setRow _ _ _ _))
        have t6 : (store ⟨wr.heap.size, 6, none⟩ c6).run Tryz.prog ((wr.alloc (Obj.cells #[Value.int IntKind.i64 0, Value.int IntKind.i64 0, Value.int IntKind.i64 0, Value.int IntKind.i64 0, Value.int IntKind.i64 0, Value.int IntKind.i64 0, Value.int IntKind.i64 0, Value.int IntKind.i64 0, Value.int IntKind.i64 0, Value.slice none 0 0] 98)).setRow wr.heap.size #[c0, c1, c2, c3, c4, c5, Value.int IntKind.i64 0, Value.int IntKind.i64 0, Value.int IntKind.i64 0, Value.slice none 0 0]) = .ok () ((wr.alloc (Obj.cells #[Value.int IntKind.i64 0, Value.int IntKind.i64 0, Value.int IntKind.i64 0, Value.int IntKind.i64 0, Value.int IntKind.i64 0, Value.int IntKind.i64 0, Value.int IntKind.i64 0, Value.int IntKind.i64 0, Value.int IntKind.i64 0, Value.slice none 0 0] 98)).setRow wr.heap.size #[c0, c1, c2, c3, c4, c5, c6, Value.int IntKind.i64 0, Value.int IntKind.i64 0, Value.slice none 0 0]) := (store_at _ (setRow_heap _ _ _ _ _ _ hnew) (by simp) g6).trans (congrArg (Result.ok ()) (setRow_setRow _ _ _ _))
        have t7 : (store ⟨wr.heap.size, 7, none⟩ c7).run Tryz.prog ((wr.alloc (Obj.cells #[Value.int IntKind.i64 0, Value.int IntKind.i64 0, Value.int IntKind.i64 0, Value.int IntKind.i64 0, Value.int IntKind.i64 0, Value.int IntKind.i64 0, Value.int IntKind.i64 0, Value.int IntKind.i64 0, Value.int IntKind.i64 0, Value.slice none 0 0] 98)).setRow wr.heap.size #[c0, c1, c2, c3, c4, c5, c6, Value.int IntKind.i64 0, Value.int IntKind.i64 0, Value.slice none 0 0]) = .ok () ((wr.alloc (Obj.cells #[Value.int IntKind.i64 0, Value.int IntKind.i64 0, Value.int IntKind.i64 0, Value.int IntKind.i64 0, Value.int IntKind.i64 0, Value.int IntKind.i64 0, Value.int IntKind.i64 0, Value.int IntKind.i64 0, Value.int IntKind.i64 0, Value.slice none 0 0] 98)).setRow wr.heap.size #[c0, c1, c2, c3, c4, c5, c6, c7, Value.int IntKind.i64 0, Value.slice none 0 0]) := (store_at _ (setRow_heap _ _ _ _ _ _ hnew) (by simp) g7).trans (congrArg (Result.ok ()) (setRow_setRow _ _ _ _))
        have t8 : (store ⟨wr.heap.size, 8, none⟩ c8).run Tryz.prog ((wr.alloc (Obj.cells #[Value.int IntKind.i64 0, Value.int IntKind.i64 0, Value.int IntKind.i64 0, Value.int IntKind.i64 0, Value.int IntKind.i64 0, Value.int IntKind.i64 0, Value.int IntKind.i64 0, Value.int IntKind.i64 0, Value.int IntKind.i64 0, Value.slice none 0 0] 98)).setRow wr.heap.size #[c0, c1, c2, c3, c4, c5, c6, c7, Value.int IntKind.i64 0, Value.slice none 0 0]) = .ok () ((wr.alloc (Obj.cells #[Value.int IntKind.i64 0, Value.int IntKind.i64 0, Value.int IntKind.i64 0, Value.int IntKind.i64 0, Value.int IntKind.i64 0, Value.int IntKind.i64 0, Value.int IntKind.i64 0, Value.int IntKind.i64 0, Value.int IntKind.i64 0, Value.slice none 0 0] 98)).setRow wr.heap.size #[c0, c1, c2, c3, c4, c5, c6, c7, c8, Value.slice none 0 0]) := (store_at _ (setRow_heap _ _ _ _ _ _ hnew) (by simp) g8).trans (congrArg (Result.ok ()) (setRow_setRow _ _ _ _))
        have t9 : (store ⟨wr.heap.size, 9, none⟩ c9).run Tryz.prog ((wr.alloc (Obj.cells #[Value.int IntKind.i64 0, Value.int IntKind.i64 0, Value.int IntKind.i64 0, Value.int IntKind.i64 0, Value.int IntKind.i64 0, Value.int IntKind.i64 0, Value.int IntKind.i64 0, Value.int IntKind.i64 0, Value.int IntKind.i64 0, Value.slice none 0 0] 98)).setRow wr.heap.size #[c0, c1, c2, c3, c4, c5, c6, c7, c8, Value.slice none 0 0]) = .ok () ((wr.alloc (Obj.cells #[Value.int IntKind.i64 0, Value.int IntKind.i64 0, Value.int IntKind.i64 0, Value.int IntKind.i64 0, Value.int IntKind.i64 0, Value.int IntKind.i64 0, Value.int IntKind.i64 0, Value.int IntKind.i64 0, Value.int IntKind.i64 0, Value.slice none 0 0] 98)).setRow wr.heap.size #[c0, c1, c2, c3, c4, c5, c6, c7, c8, c9]) := (store_at _ (setRow_heap _ _ _ _ _ _ hnew) (by simp) g9).trans (congrArg (Result.ok ()) (setRow_setRow _ _ _ _))
        simp only [t0, t1, t2, t3, t4, t5, t6, t7, t8, t9, Result.andThen_ok]
        have hel10 := fun e1 => hyy _ hq10 e1
        clear hyy
        generalize (wr.alloc (Obj.cells #[Value.int IntKind.i64 0, Value.int IntKind.i64 0, Value.int IntKind.i64 0, Value.int IntKind.i64 0, Value.int IntKind.i64 0, Value.int IntKind.i64 0, Value.int IntKind.i64 0, Value.int IntKind.i64 0, Value.int IntKind.i64 0, Value.slice none 0 0] 98)).setRow wr.heap.size #[c0, c1, c2, c3, c4, c5, c6, c7, c8, c9] = W10 at *
        have q0 : W10.cell? ⟨wr.heap.size, 0, none⟩ = some c0 := by simp [World.cell?, hnew10]
        have q1 : W10.cell? ⟨wr.heap.size, 1, none⟩ = some c1 := by simp [World.cell?, hnew10]
        have q2 : W10.cell? ⟨wr.heap.size, 2, none⟩ = some c2 := by simp [World.cell?, hnew10]
        have q3 : W10.cell? ⟨wr.heap.size, 3, none⟩ = some c3 := by simp [World.cell?, hnew10]
        have q4 : W10.cell? ⟨wr.heap.size, 4, none⟩ = some c4 := by simp [World.cell?, hnew10]
        have q5 : W10.cell? ⟨wr.heap.size, 5, none⟩ = some c5 := by simp [World.cell?, hnew10]
        have q6 : W10.cell? ⟨wr.heap.size, 6, none⟩ = some c6 := by simp [World.cell?, hnew10]
        have q7 : W10.cell? ⟨wr.heap.size, 7, none⟩ = some c7 := by simp [World.cell?, hnew10]
        have q8 : W10.cell? ⟨wr.heap.size, 8, none⟩ = some c8 := by simp [World.cell?, hnew10]
        have q9 : W10.cell? ⟨wr.heap.size, 9, none⟩ = some c9 := by simp [World.cell?, hnew10]
        have hold : ∀ (j : Nat) (c : Value), wr.cell? ⟨b, o + k * 10 + j, none⟩ = some c → W10.cell? ⟨b, o + k * 10 + j, none⟩ = some c := fun j c hj => by
          have hb : b < wr.heap.size := by
            refine Nat.lt_of_not_le fun hle => ?_
            simp [World.cell?, Array.getElem?_eq_none hle] at hj
          simp only [World.cell?] at hj ⊢
          rw [hq10.low b hb]; exact hj
        obtain ⟨fn, tmps, assign, body, hy, hR⟩ := hel10 ⟨_, rfl, rfl, fun j c hj => hold j c (hcell j c hj), hone⟩
        replace hy : (Instr.yield l #[Value.int IntKind.i64 (k : Int), Value.agg #[c0, c1, c2, c3, c4, c5, c6, c7, c8, c9]]).run Tryz.prog W10 = _ := hy
        clear hel10 hold hq10 hnew10 hcell hone
        gi_wp2
        refine hR.mono ?_
        rintro e W3 (⟨rfl, hJ3⟩ | ⟨rfl, hJx3⟩)
        · gi_wp2
          go_roundw
          case rel => exact ⟨k + 1, by omega, by simp, hJ3⟩
          case measure => simp [intOf]; omega
        · gi_wp2
          refine bodyPost_ret (results_none rfl _ _ _) rfl ?_
          exact ⟨⟨_, rfl⟩, .inr hJx3⟩
      · obtain rfl : k = len := by omega
        gi_wp2
        go_end0
        exact ⟨⟨_, rfl⟩, .inl hJs⟩
end Go.Proofs.YtfpcmkpfdjnhnaaGreatDoor
end
noncomputable section
namespace Go.Eng
open Go.RowKit
inductive SH where
  | int (k : IntKind)
  | bool
  | str
  | sl (e : List SH)

mutual
inductive HasSh : AV → SH → Prop where
  | int (k : IntKind) (n : Int) (h : (Lit.int k n).wf = true) : HasSh (.int k n) (.int k)
  | bool (b : Bool) : HasSh (.bool b) .bool
  | str (s : List UInt8) (h : s.length ≤ maxLen) : HasSh (.str s) .str
  | sl (xs : List (List AV)) (e : List SH) (h : xs.length ≤ maxLen) (hx : ∀ x ∈ xs, HasShL x e) : HasSh (.psl xs) (.sl e)
inductive HasShL : List AV → List SH → Prop where
  | nil : HasShL [] []
  | cons (a : AV) (s : SH) (ar : List AV) (ss : List SH) (h : HasSh a s) (hs : HasShL ar ss) : HasShL (a :: ar) (s :: ss)
end
theorem HasShL.len : ∀ {ar : List AV} {ss : List SH}, HasShL ar ss → ar.length = ss.length
  | _, _, .nil => rfl
  | _, _, .cons _ _ _ _ _ hs => by simp [hs.len]
theorem HasShL.append : ∀ {ar bs : List AV} {ss ts : List SH}, HasShL ar ss → HasShL bs ts → HasShL (ar ++ bs) (ss ++ ts)
  | _, _, _, _, .nil, k => k
  | _, _, _, _, .cons a s ar ss h hs, k => .cons a s _ _ h (hs.append k)

section
variable {H : Type} {enc : TypeId × Value → H} {P : Program} {w : World} {spare : Nat → Bool} {held : Bool} {L : Nat → Prop}
end
end Go.Eng
end
noncomputable section
namespace Go.Eng
open Go.RowKit
/-- what is frozen stays so where further objects stand -/
theorem Frz.ext {h h' : AH} (he : ∀ i cs, h.cellsAt i = some cs → h'.cellsAt i = some cs) {n : Bool} {a b : AV} (hf : Frz h n a b) : Frz h' n a b := by
  induction hf with
  | undef a => exact .undef a
  | bool b => exact .bool b
  | int k m => exact .int k m
  | str s => exact .str s
  | nilptr => exact .nilptr
  | nilfunc => exact .nilfunc
  | nilif => exact .nilif
  | nilmap => exact .nilmap
  | nilsl0 => exact .nilsl0
  | nilsl => exact .nilsl
  | esl0 => exact .esl0
  | esl => exact .esl
  | gptr g o => exact .gptr g o
  | agg cs ds hl hc ih => exact .agg cs ds hl fun i c d h1 h2 => ih i c d h1 h2
  | tup cs ds hl hc ih => exact .tup cs ds hl fun i c d h1 h2 => ih i c d h1 h2
  | psl0 => exact .psl0
  | psl hn xs ys hl hx hc ih => exact .psl hn xs ys hl hx fun i x y j c d h1 h2 h3 h4 => ih i x y j c d h1 h2 h3 h4
  | pptr hn cs ds hl hc ih => exact .pptr hn cs ds hl fun i c d h1 h2 => ih i c d h1 h2
  | rsl id off z cs ys ho hs hz hc ih => exact .rsl id off z cs ys (he _ _ ho) hs hz fun i y j c d h1 h2 h3 => ih i y j c d h1 h2 h3
  | ptr id off cs ds ho hs hc ih => exact .ptr id off cs ds (he _ _ ho) hs fun i c d h1 h2 => ih i c d h1 h2
  | func fn f1 c1 f2 c2 hl1 hl2 h1 h2 ih1 ih2 => exact .func fn f1 c1 f2 c2 hl1 hl2 (fun i c d q1 q2 => ih1 i c d q1 q2) (fun i c d q1 q2 => ih2 i c d q1 q2)
  | iface t a b hb ih => exact .iface t a b (ih)
theorem FrzL.ext {h h' : AH} (he : ∀ i cs, h.cellsAt i = some cs → h'.cellsAt i = some cs) {n : Bool} {a b : List AV} (hf : FrzL h n a b) : FrzL h' n a b := by
  rw [FrzL_iff] at hf ⊢
  exact ⟨hf.1, fun i c d h1 h2 => (hf.2 i c d h1 h2).ext he⟩
theorem FrzL.app {h : AH} {n : Bool} {a b c d : List AV} (h1 : FrzL h n a b) (h2 : FrzL h n c d) : FrzL h n (a ++ c) (b ++ d) := by
  rw [FrzL_iff] at h1 h2 ⊢
  refine ⟨by simp [h1.1, h2.1], fun i x y hx hy => ?_⟩
  by_cases hi : i < a.length
  · rw [List.getElem?_append_left hi] at hx
    rw [List.getElem?_append_left (by have := h1.1; omega)] at hy
    exact h1.2 i x y hx hy
  · rw [List.getElem?_append_right (by omega)] at hx
    rw [List.getElem?_append_right (by have := h1.1; omega), ← h1.1] at hy
    exact h2.2 _ x y hx hy
/-- nothing stands beyond the next number -/
def WF (h : AH) : Prop := ∀ i, h.nx ≤ i → h.H.get i = none
theorem WF.add {h : AH} (hw : WF h) (o : AObj) : WF (h.add o) := fun i hi => by
  simp at hi
  rw [get_add, if_neg (by omega)]; exact hw i (by omega)
theorem WF.set {h : AH} (hw : WF h) (j : Nat) (hj : j < h.nx) (o : AObj) : WF (h.set j o) := fun i hi => by
  simp at hi
  rw [get_set, if_neg (by omega)]; exact hw i (by omega)
theorem WF.kill {h : AH} (hw : WF h) (j : Nat) : WF (h.kill j) := fun i hi => by
  simp at hi
  rw [get_kill]; split
  · rfl
  · exact hw i (by omega)
end Go.Eng
end
