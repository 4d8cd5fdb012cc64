/- The library's Insert and Replace at commands, walked, the runs of the built-in functions being given. A row of cells that a call writes, beside what it found. What the built-in functions do to such a row; what is put in. -/
import Derived.Test.YtpnekpbehcbmkaaD7Cl
import Derived.Shelf.RegionOpenPlain
import Derived.Lib.Walk
import Derived.Lib.SliceRun
import Derived.Lib.JoinLaws
import Derived.Lib.AppendZeros
import Derived.Lib.Overlaps
import Derived.Laws.Externs
import Derived.Laws.IdiomCopy
import Derived.Lib.AppendZerosOnto
import Derived.Laws.NewBlocks
import Derived.KernelRfl
set_option linter.unusedSimpArgs false
set_option linter.unusedVariables false
set_option linter.unnecessarySimpa false
noncomputable section
namespace Go.Proofs.Ytpnekpbehcbmkaa
open Go.Eng Go.RowKit Go.Lib Go.Shelf
section
variable {P : Program}
/-- a call of 'copy' whose run is known, as a step of a walk -/
theorem wp_cp {w w' : World} {o : Oper} {a : Act} {K : Act → World → Prop} {Q : Exit → Act → World → Prop} {d s : Operand} {t t' : TypeId} {v u v' : Value}
    (ho : o.op = .call { callee := .builtin .copy, args := #[d, s], argTypes := #[t, t'] }) (hd : a.eval d = v) (hs : a.eval s = u)
    (hr : (Builtin.copy_ #[t, t'] o.type #[v, u]).run P w = .ok v' w') (h : K (a.put o.dst v') w') : o.wp P a w K Q := by
  unfold Oper.wp execOp
  simp only [ho, resolve, invoke, builtin, Sem.run_bind, Sem.run_pure, Result.andThen_ok, List.map_toArray, List.map_cons, List.map_nil, hd, hs, hr]
  exact h
theorem wpl_cp {w w' : World} {ops : Array Oper} {rest : List Oper} {o : Oper} {a : Act} {Q : Exit → Act → World → Prop} {d s : Operand} {t t' : TypeId} {v u v' : Value} (hgd : o.guard = none)
    (ho : o.op = .call { callee := .builtin .copy, args := #[d, s], argTypes := #[t, t'] }) (hd : a.eval d = v) (hs : a.eval s = u)
    (hr : (Builtin.copy_ #[t, t'] o.type #[v, u]).run P w = .ok v' w') (h : wpList P ops Q rest (a.put o.dst v') w') : wpList P ops Q (o :: rest) a w :=
  wpList_plain hgd fun _ hK => wp_cp ho hd hs hr (hK _ _ h)
theorem st_cp {ops : Array Oper} {o : Oper} {a : Act} {w w' : World} {K : Act → World → Prop} {Q : Exit → Act → World → Prop} {E : Prop} {d s : Operand} {t t' : TypeId} {v u v' : Value} (hg : o.guard = none)
    (ho : o.op = .call { callee := .builtin .copy, args := #[d, s], argTypes := #[t, t'] }) (hd : a.eval d = v) (hs : a.eval s = u)
    (hr : (Builtin.copy_ #[t, t'] o.type #[v, u]).run P w = .ok v' w') (hK : K (a.put o.dst v') w') : if Region.wanted o (yielded ops a.tmps) = true then Oper.wp P o a w K Q else E := by
  rw [if_pos (by simp [Region.wanted, hg])]
  exact wp_cp ho hd hs hr hK
end
theorem szO35 : szOf Try.prog 35 = some 22 := by kernel_rfl
theorem byO35 : byOf Try.prog 35 = some 200 := by kernel_rfl
theorem sz35 : ∀ w, (sizeOf 35).run Try.prog w = .ok 22 w := fun w => by
  have h := szO35
  unfold szOf at h
  cases hi : Try.prog.info? 35 with
  | none => rw [hi] at h; cases h
  | some i => rw [hi] at h; simp at h; simp [sizeOf, typeInfo, hi, h]
set_option maxHeartbeats 4000000 in
set_option maxRecDepth 100000 in
theorem ins_C {b off n c i m vc b2 o2 c2 : Nat} {va : Option Addr} {w w1 w2 w3 : World} {r1 r2 : Value} (hm : 0 < m) (hi : i < n) (hc : n ≤ c) (hroom : c < n + m) (hc2 : n + m ≤ c2) (h63 : c ≤ 9223372036854775807) (h632 : c2 ≤ 9223372036854775807) (hm2 : m ≤ 1000000) (hn2 : n ≤ 1000000)
    (hap : ∀ ty, (Builtin.append_ #[22, 3] ty #[.slice (some ⟨b, off, none⟩) i c, .int .i64 ((n : Int) + (m : Int) - (i : Int))]).run Try.prog w = .ok (.slice (some ⟨b2, o2, none⟩) (n + m) c2) w1)
    (hcpA : ∀ ty dc, (Builtin.copy_ #[22, 22] ty #[.slice (some ⟨b2, o2 + i * 22, none⟩) (n + m - i) dc, .slice va m vc]).run Try.prog w1 = .ok r1 w2)
    (hcpB : ∀ ty dc sc, (Builtin.copy_ #[22, 22] ty #[.slice (some ⟨b2, o2 + (i + m) * 22, none⟩) (n + m - (i + m)) dc, .slice (some ⟨b, off + i * 22, none⟩) (n - i) sc]).run Try.prog w2.drew = .ok r2 w3) :
    Calls Try.prog 80 #[.slice (some ⟨b, off, none⟩) n c, .int .i64 i, .slice va m vc] w fun e w' => e = .returned (.slice (some ⟨b2, o2, none⟩) (n + m) c2) ∧ w' = w3 := by
  have u22 := Try.underlying22
  have u0 := run_underlying Try.underlying22
  have z35 := sz35
  have mixed : Try.prog.follows .mixedOrders = true := by kernel_rfl
  have hz1 : ¬ ((m : Int) = 0) := by omega
  have hz2 : ¬ ((i : Int) = (n : Int)) := by omega
  have hz3 : (c : Int) < (n : Int) + (m : Int) := by omega
  have hw1 : IntKind.i64.wrap ((i : Int) + (m : Int)) = (i : Int) + (m : Int) := by rw [IntKind.wrap_i64]; omega
  have hb1 : (0 : Int) ≤ (i : Int) + (m : Int) := by omega
  have hin : i ≤ n := by omega
  have htn : ((i : Int) + (m : Int)).toNat = i + m := by omega
  have hb3 : (i : Int) ≤ (n : Int) := by omega
  have hci : ¬ (c = i) := by omega
  have hGi : ¬ (c2 = i) := by omega
  have hGim : ¬ (c2 = i + m) := by omega
  go_enter Try.func80, Try.ntmps80
  go_wp2_with (first
    | (at_builtin; refine Lib.wpList_append_run _ rfl _ _ _ _ rfl _ _ rfl rfl _ _ (hap _) ?_)
    | (at_builtin; refine wpl_cp rfl rfl rfl rfl (hcpA _ _) ?_)
    | (at_builtin; refine wpl_cp rfl rfl rfl rfl (hcpB _ _ _) ?_))
  go_region_law_o (refine st_cp rfl rfl (v := .slice (some ⟨b2, o2 + (i + m) * 22, none⟩) (n + m - (i + m)) (c2 - (i + m))) (u := .slice (some ⟨b, off + i * 22, none⟩) (n - i) (c - i)) (by simp [Act.eval, Act.put]) (by simp [Act.eval, Act.put]) (hcpB 3 (c2 - (i + m)) (c - i)) ?_)
  go_wp2
  go_ret
  exact ⟨rfl, rfl⟩
set_option maxHeartbeats 4000000 in
set_option maxRecDepth 100000 in
theorem ins_A {b off n c i vc : Nat} {va : Option Addr} {w : World} (hi : i ≤ n) (hc : n ≤ c) (h63 : c ≤ 9223372036854775807) (hn2 : n ≤ 1000000) :
    Calls Try.prog 80 #[.slice (some ⟨b, off, none⟩) n c, .int .i64 i, .slice va 0 vc] w fun e w' => e = .returned (.slice (some ⟨b, off, none⟩) n c) ∧ w' = w := by
  have u22 := Try.underlying22
  have u0 := run_underlying Try.underlying22
  have z35 := sz35
  have mixed : Try.prog.follows .mixedOrders = true := by kernel_rfl
  have hb3 : (i : Int) ≤ (n : Int) := by omega
  go_enter Try.func80, Try.ntmps80
  go_wp2
  all_goals go_ret
  all_goals exact ⟨rfl, rfl⟩
set_option maxHeartbeats 4000000 in
set_option maxRecDepth 100000 in
theorem ins_A0 {vc : Nat} {va : Option Addr} {w : World} :
    Calls Try.prog 80 #[.slice none 0 0, .int .i64 0, .slice va 0 vc] w fun e w' => e = .returned (.slice none 0 0) ∧ w' = w := by
  have u22 := Try.underlying22
  have u0 := run_underlying Try.underlying22
  have z35 := sz35
  have mixed : Try.prog.follows .mixedOrders = true := by kernel_rfl
  go_enter Try.func80, Try.ntmps80
  go_wp2
  all_goals go_ret
  all_goals exact ⟨rfl, rfl⟩
set_option maxHeartbeats 4000000 in
set_option maxRecDepth 100000 in
theorem ins_B {b off n c m vc : Nat} {va : Option Addr} {w w1 : World} {r : Value} (hm : 0 < m) (hc : n ≤ c) (h63 : c ≤ 9223372036854775807) (hm2 : m ≤ 1000000) (hn2 : n ≤ 1000000)
    (hap : (Builtin.append_ #[22, 22] 22 #[.slice (some ⟨b, off, none⟩) n c, .slice va m vc]).run Try.prog w = .ok r w1) :
    Calls Try.prog 80 #[.slice (some ⟨b, off, none⟩) n c, .int .i64 n, .slice va m vc] w fun e w' => e = .returned r ∧ w' = w1 := by
  have u22 := Try.underlying22
  have u0 := run_underlying Try.underlying22
  have z35 := sz35
  have mixed : Try.prog.follows .mixedOrders = true := by kernel_rfl
  have hz1 : ¬ ((m : Int) = 0) := by omega
  go_enter Try.func80, Try.ntmps80
  go_wp2_with (at_builtin; refine Lib.wpList_append_run _ rfl _ _ _ _ rfl _ _ rfl rfl _ _ hap ?_)
  all_goals go_ret
  all_goals exact ⟨rfl, rfl⟩
set_option maxHeartbeats 4000000 in
set_option maxRecDepth 100000 in
theorem ins_B0 {m vc : Nat} {va : Option Addr} {w w1 : World} {r : Value} (hm : 0 < m) (hm2 : m ≤ 1000000)
    (hap : (Builtin.append_ #[22, 22] 22 #[.slice none 0 0, .slice va m vc]).run Try.prog w = .ok r w1) :
    Calls Try.prog 80 #[.slice none 0 0, .int .i64 0, .slice va m vc] w fun e w' => e = .returned r ∧ w' = w1 := by
  have u22 := Try.underlying22
  have u0 := run_underlying Try.underlying22
  have z35 := sz35
  have mixed : Try.prog.follows .mixedOrders = true := by kernel_rfl
  have hz1 : ¬ ((m : Int) = 0) := by omega
  go_enter Try.func80, Try.ntmps80
  go_wp2_with (at_builtin; refine Lib.wpList_append_run _ rfl _ _ _ _ rfl _ _ rfl rfl _ _ hap ?_)
  all_goals go_ret
  all_goals exact ⟨rfl, rfl⟩
set_option maxHeartbeats 4000000 in
set_option maxRecDepth 100000 in
theorem ins_D {b off n c i m vc : Nat} {va : Option Addr} {w w1 w2 : World} {r1 r2 : Value} (hm : 0 < m) (hi : i < n) (hroom : n + m ≤ c) (h63 : c ≤ 9223372036854775807) (hm2 : m ≤ 1000000) (hn2 : n ≤ 1000000)
    (hov : ∀ lb cb, (callFunc 81 #[.slice va m vc, .slice (some ⟨b, off + (i + m) * 22, none⟩) lb cb]).run Try.prog w = .ok (.value (.bool false)) w)
    (hcp1 : ∀ ty dc sc, (Builtin.copy_ #[22, 22] ty #[.slice (some ⟨b, off + (i + m) * 22, none⟩) (n + m - (i + m)) dc, .slice (some ⟨b, off + i * 22, none⟩) (n + m - i) sc]).run Try.prog w.drew = .ok r1 w1)
    (hcp2 : ∀ ty dc, (Builtin.copy_ #[22, 22] ty #[.slice (some ⟨b, off + i * 22, none⟩) (n + m - i) dc, .slice va m vc]).run Try.prog w1 = .ok r2 w2) :
    Calls Try.prog 80 #[.slice (some ⟨b, off, none⟩) n c, .int .i64 i, .slice va m vc] w fun e w' => e = .returned (.slice (some ⟨b, off, none⟩) (n + m) c) ∧ w' = w2 := by
  have u22 := Try.underlying22
  have u0 := run_underlying Try.underlying22
  have z35 := sz35
  have mixed : Try.prog.follows .mixedOrders = true := by kernel_rfl
  have hz1 : ¬ ((m : Int) = 0) := by omega
  have hz2 : ¬ ((i : Int) = (n : Int)) := by omega
  have hw1 : IntKind.i64.wrap ((i : Int) + (m : Int)) = (i : Int) + (m : Int) := by rw [IntKind.wrap_i64]; omega
  have hb1 : (0 : Int) ≤ (i : Int) + (m : Int) := by omega
  have hin : i ≤ n := by omega
  have htn : ((i : Int) + (m : Int)).toNat = i + m := by omega
  have hb2 : ¬ (c = i + m) := by omega
  have hb3 : (i : Int) ≤ (n : Int) + (m : Int) := by omega
  have hb4 : ¬ (c = i) := by omega
  go_enter Try.func80, Try.ntmps80
  go_wp2_with (simp only [hov])
  go_region_law_o (refine st_cp rfl rfl (v := .slice (some ⟨b, off + (i + m) * 22, none⟩) (n + m - (i + m)) (c - (i + m))) (u := .slice (some ⟨b, off + i * 22, none⟩) (n + m - i) (c - i)) (by simp [Act.eval, Act.put]) (by simp [Act.eval, Act.put]) (hcp1 3 (c - (i + m)) (c - i)) ?_)
  go_wp2_with (at_builtin; refine wpl_cp rfl rfl rfl rfl (hcp2 _ _) ?_)
  go_ret
  exact ⟨rfl, rfl⟩
section
variable {P : Program}
theorem wp_cl {w w' : World} {o : Oper} {a : Act} {K : Act → World → Prop} {Q : Exit → Act → World → Prop} {s : Operand} {t : TypeId} {u v' : Value}
    (ho : o.op = .call { callee := .builtin .clear, args := #[s], argTypes := #[t] }) (hs : a.eval s = u)
    (hr : (Builtin.clear_ #[t] o.type #[u]).run P w = .ok v' w') (h : K (a.put o.dst v') w') : o.wp P a w K Q := by
  unfold Oper.wp execOp
  simp only [ho, resolve, invoke, builtin, Sem.run_bind, Sem.run_pure, Result.andThen_ok, List.map_toArray, List.map_cons, List.map_nil, hs, hr]
  exact h
theorem wpl_cl {w w' : World} {ops : Array Oper} {rest : List Oper} {o : Oper} {a : Act} {Q : Exit → Act → World → Prop} {s : Operand} {t : TypeId} {u v' : Value} (hgd : o.guard = none)
    (ho : o.op = .call { callee := .builtin .clear, args := #[s], argTypes := #[t] }) (hs : a.eval s = u)
    (hr : (Builtin.clear_ #[t] o.type #[u]).run P w = .ok v' w') (h : wpList P ops Q rest (a.put o.dst v') w') : wpList P ops Q (o :: rest) a w :=
  wpList_plain hgd fun _ hK => wp_cl ho hs hr (hK _ _ h)
end
set_option maxHeartbeats 4000000 in
set_option maxRecDepth 100000 in
theorem rep_A {b off n c i m vc : Nat} {va : Option Addr} {w : World} {Q : Ending → World → Prop} (hi : i ≤ n) (hc : n ≤ c) (h63 : c ≤ 9223372036854775807) (hn2 : n ≤ 1000000)
    (hin : Calls Try.prog 80 #[.slice (some ⟨b, off, none⟩) n c, .int .i64 i, .slice va m vc] w fun e w' => (∃ r, e = .returned r) ∧ Q e w') :
    Calls Try.prog 60 #[.slice (some ⟨b, off, none⟩) n c, .int .i64 i, .int .i64 i, .slice va m vc] w fun e w' => Q e w' := by
  have u22 := Try.underlying22
  have u0 := run_underlying Try.underlying22
  have z35 := sz35
  have mixed : Try.prog.follows .mixedOrders = true := by kernel_rfl
  have hb3 : (i : Int) ≤ (n : Int) := by omega
  go_enter Try.func60, Try.ntmps60
  go_wp2_with (go_at_call 80; refine hin.mono ?_; rintro e w' ⟨⟨r, rfl⟩, hq⟩)
  all_goals exact hq
set_option maxHeartbeats 4000000 in
set_option maxRecDepth 100000 in
theorem rep_B {b off n c i m vc b2 o2 c2 : Nat} {va : Option Addr} {w w1 w2 : World} {r1 : Value} (hi : i < n) (hc : n ≤ c) (h63 : c ≤ 9223372036854775807) (h632 : c2 ≤ 9223372036854775807) (hm2 : m ≤ 1000000) (hn2 : n ≤ 1000000)
    (hap : (Builtin.append_ #[22, 22] 22 #[.slice (some ⟨b, off, none⟩) i c, .slice va m vc]).run Try.prog w = .ok (.slice (some ⟨b2, o2, none⟩) (i + m) c2) w1)
    (hcl : i + m < n → ∀ ty sc, (Builtin.clear_ #[22] ty #[.slice (some ⟨b, off + (i + m) * 22, none⟩) (n - (i + m)) sc]).run Try.prog w1 = .ok r1 w2) (hno : n ≤ i + m → w2 = w1) :
    Calls Try.prog 60 #[.slice (some ⟨b, off, none⟩) n c, .int .i64 i, .int .i64 n, .slice va m vc] w fun e w' => e = .returned (.slice (some ⟨b2, o2, none⟩) (i + m) c2) ∧ w' = w2 := by
  have u22 := Try.underlying22
  have u0 := run_underlying Try.underlying22
  have z35 := sz35
  have mixed : Try.prog.follows .mixedOrders = true := by kernel_rfl
  have hz2 : ¬ ((i : Int) = (n : Int)) := by omega
  have hb3 : (i : Int) ≤ (n : Int) := by omega
  have hw1 : IntKind.i64.wrap ((i : Int) + (m : Int)) = (i : Int) + (m : Int) := by rw [IntKind.wrap_i64]; omega
  by_cases hlt : i + m < n
  · have hcl := hcl hlt
    have hlt' : (i : Int) + (m : Int) < (n : Int) := by omega
    have hlt2 : (i : Int) + (m : Int) ≤ (n : Int) := by omega
    have hlt3 : (0 : Int) ≤ (i : Int) + (m : Int) := by omega
    have htn : ((i : Int) + (m : Int)).toNat = i + m := by omega
    have hcim : ¬ (c = i + m) := by omega
    go_enter Try.func60, Try.ntmps60
    go_wp2_with (first
      | (at_builtin; refine Lib.wpList_append_run _ rfl _ _ _ _ rfl _ _ rfl rfl _ _ hap ?_)
      | (at_builtin; refine wpl_cl rfl rfl rfl (hcl _ _) ?_))
    go_ret
    exact ⟨rfl, rfl⟩
  · have hw2 := hno (by omega)
    subst hw2
    have hlt' : ¬ (i : Int) + (m : Int) < (n : Int) := by omega
    go_enter Try.func60, Try.ntmps60
    go_wp2_with (at_builtin; refine Lib.wpList_append_run _ rfl _ _ _ _ rfl _ _ rfl rfl _ _ hap ?_)
    go_ret
    exact ⟨rfl, rfl⟩
set_option maxHeartbeats 4000000 in
set_option maxRecDepth 100000 in
theorem rep_A0 {m vc : Nat} {va : Option Addr} {w : World} {Q : Ending → World → Prop}
    (hin : Calls Try.prog 80 #[.slice none 0 0, .int .i64 0, .slice va m vc] w fun e w' => (∃ r, e = .returned r) ∧ Q e w') :
    Calls Try.prog 60 #[.slice none 0 0, .int .i64 0, .int .i64 0, .slice va m vc] w fun e w' => Q e w' := by
  have u22 := Try.underlying22
  have u0 := run_underlying Try.underlying22
  have z35 := sz35
  have mixed : Try.prog.follows .mixedOrders = true := by kernel_rfl
  go_enter Try.func60, Try.ntmps60
  go_wp2_with (go_at_call 80; refine hin.mono ?_; rintro e w' ⟨⟨r, rfl⟩, hq⟩)
  all_goals exact hq
set_option maxHeartbeats 4000000 in
set_option maxRecDepth 100000 in
theorem rep_C {b off n c i j m vc b2 o2 c2 : Nat} {va : Option Addr} {w w1 w2 w3 : World} {r1 r2 : Value} (hij : i < j) (hjn : j < n) (hc : n ≤ c) (hroom : c < i + m + (n - j)) (hc2 : i + m + (n - j) ≤ c2) (h63 : c ≤ 9223372036854775807) (h632 : c2 ≤ 9223372036854775807) (hm2 : m ≤ 1000000) (hn2 : n ≤ 1000000)
    (hap : ∀ ty, (Builtin.append_ #[22, 3] ty #[.slice (some ⟨b, off, none⟩) i c, .int .i64 ((i : Int) + (m : Int) + ((n - j : Nat) : Int) - (i : Int))]).run Try.prog w.drew = .ok (.slice (some ⟨b2, o2, none⟩) (i + m + (n - j)) c2) w1)
    (hcpA : ∀ ty dc, (Builtin.copy_ #[22, 22] ty #[.slice (some ⟨b2, o2 + i * 22, none⟩) (i + m + (n - j) - i) dc, .slice va m vc]).run Try.prog w1 = .ok r1 w2)
    (hcpB : ∀ ty dc sc, (Builtin.copy_ #[22, 22] ty #[.slice (some ⟨b2, o2 + (i + m) * 22, none⟩) (n - j) dc, .slice (some ⟨b, off + j * 22, none⟩) (n - j) sc]).run Try.prog w2.drew = .ok r2 w3) :
    Calls Try.prog 60 #[.slice (some ⟨b, off, none⟩) n c, .int .i64 i, .int .i64 j, .slice va m vc] w fun e w' => e = .returned (.slice (some ⟨b2, o2, none⟩) (i + m + (n - j)) c2) ∧ w' = w3 := by
  have u22 := Try.underlying22
  have u0 := run_underlying Try.underlying22
  have z35 := sz35
  have mixed : Try.prog.follows .mixedOrders = true := by kernel_rfl
  have hz2 : ¬ ((i : Int) = (j : Int)) := by omega
  have hz3 : ¬ ((j : Int) = (n : Int)) := by omega
  have hb3 : (i : Int) ≤ (j : Int) := by omega
  have hb4 : (j : Int) ≤ (n : Int) := by omega
  have hz4 : (c : Int) < (i : Int) + (m : Int) + ((n - j : Nat) : Int) := by omega
  have hw1 : IntKind.i64.wrap ((i : Int) + (m : Int)) = (i : Int) + (m : Int) := by rw [IntKind.wrap_i64]; omega
  have hb1 : (0 : Int) ≤ (i : Int) + (m : Int) := by omega
  have htn : ((i : Int) + (m : Int)).toNat = i + m := by omega
  have hGi : ¬ (c2 = i) := by omega
  have hGim : ¬ (c2 = i + m) := by omega
  have hcj : ¬ (c = j) := by omega
  have hin : (i : Int) ≤ (n : Int) := by omega
  have hx1 : (i : Int) ≤ ((i + m + (n - j) : Nat) : Int) := by omega
  have hx2 : (i : Int) + (m : Int) ≤ ((i + m + (n - j) : Nat) : Int) := by omega
  have hx3 : (i : Int) + (m : Int) ≤ (i : Int) + (m : Int) + ((n - j : Nat) : Int) := by omega
  go_enter Try.func60, Try.ntmps60
  go_wp2
  go_region
  go_wp2_with (first
    | (at_builtin; refine Lib.wpList_append_run _ rfl _ _ _ _ rfl _ _ rfl rfl _ _ (hap _) ?_)
    | (at_builtin; refine wpl_cp rfl rfl rfl rfl (hcpA _ _) ?_)
    | (at_builtin; refine wpl_cp rfl rfl rfl rfl (hcpB _ _ _) ?_))
  go_region_law_o (refine st_cp rfl rfl (v := .slice (some ⟨b2, o2 + (i + m) * 22, none⟩) (n - j) (c2 - (i + m))) (u := .slice (some ⟨b, off + j * 22, none⟩) (n - j) (c - j)) (by simp [Act.eval, Act.put]) (by simp [Act.eval, Act.put]) (hcpB 3 (c2 - (i + m)) (c - j)) ?_)
  go_wp2
  go_ret
  exact ⟨rfl, rfl⟩
set_option maxHeartbeats 4000000 in
set_option maxRecDepth 100000 in
theorem rep_D {b off n c i j m vc : Nat} {va : Option Addr} {w w1 w2 w3 : World} {r1 r2 r3 : Value} (hij : i < j) (hjn : j < n) (hc : n ≤ c) (hroom : i + m + (n - j) ≤ c) (him : i + m ≤ j) (h63 : c ≤ 9223372036854775807) (hm2 : m ≤ 1000000) (hn2 : n ≤ 1000000)
    (hcp1 : ∀ ty dc, (Builtin.copy_ #[22, 22] ty #[.slice (some ⟨b, off + i * 22, none⟩) (i + m + (n - j) - i) dc, .slice va m vc]).run Try.prog w.drew = .ok r1 w1)
    (hcp2 : ∀ ty dc sc, (Builtin.copy_ #[22, 22] ty #[.slice (some ⟨b, off + (i + m) * 22, none⟩) (n - j) dc, .slice (some ⟨b, off + j * 22, none⟩) (n - j) sc]).run Try.prog w1.drew = .ok r2 w2)
    (hcl : ∀ ty o sc, (o = off + (i + m + (n - j)) * 22 ∨ c = i + m + (n - j)) → (Builtin.clear_ #[22] ty #[.slice (some ⟨b, o, none⟩) (n - (i + m + (n - j))) sc]).run Try.prog w2 = .ok r3 w3) :
    Calls Try.prog 60 #[.slice (some ⟨b, off, none⟩) n c, .int .i64 i, .int .i64 j, .slice va m vc] w fun e w' => e = .returned (.slice (some ⟨b, off, none⟩) (i + m + (n - j)) c) ∧ w' = w3 := by
  have u22 := Try.underlying22
  have u0 := run_underlying Try.underlying22
  have z35 := sz35
  have mixed : Try.prog.follows .mixedOrders = true := by kernel_rfl
  have hz2 : ¬ ((i : Int) = (j : Int)) := by omega
  have hz3 : ¬ ((j : Int) = (n : Int)) := by omega
  have hb3 : (i : Int) ≤ (j : Int) := by omega
  have hb4 : (j : Int) ≤ (n : Int) := by omega
  have hz4 : ¬ (c : Int) < (i : Int) + (m : Int) + ((n - j : Nat) : Int) := by omega
  have hw1 : IntKind.i64.wrap ((i : Int) + (m : Int)) = (i : Int) + (m : Int) := by rw [IntKind.wrap_i64]; omega
  have hb1 : (0 : Int) ≤ (i : Int) + (m : Int) := by omega
  have htn : ((i : Int) + (m : Int)).toNat = i + m := by omega
  have ht0 : (0 : Int) ≤ (i : Int) + (m : Int) + ((n - j : Nat) : Int) := by omega
  have htc : (i : Int) + (m : Int) + ((n - j : Nat) : Int) ≤ (c : Int) := by omega
  have htt : ((i : Int) + (m : Int) + ((n - j : Nat) : Int)).toNat = i + m + (n - j) := by omega
  have hcj : ¬ (c = j) := by omega
  have hci : ¬ (c = i) := by omega
  have hin : (i : Int) ≤ (n : Int) := by omega
  have hx1 : (i : Int) ≤ ((i + m + (n - j) : Nat) : Int) := by omega
  have hx2 : (i : Int) + (m : Int) ≤ ((i + m + (n - j) : Nat) : Int) := by omega
  have hx3 : (i : Int) + (m : Int) ≤ (i : Int) + (m : Int) + ((n - j : Nat) : Int) := by omega
  have hcim : ¬ (c = i + m) := by omega
  have hle : (i : Int) + (m : Int) ≤ (j : Int) := by omega
  have htn2 : (i : Int) + (m : Int) + ((n - j : Nat) : Int) ≤ (n : Int) := by omega
  by_cases hct : c = i + m + (n - j)
  · go_enter Try.func60, Try.ntmps60
    go_wp2
    go_region
    go_wp2_with (at_builtin; refine wpl_cp rfl rfl rfl rfl (hcp1 _ _) ?_)
    go_region_law_o (refine st_cp rfl rfl (v := .slice (some ⟨b, off + (i + m) * 22, none⟩) (n - j) (c - (i + m))) (u := .slice (some ⟨b, off + j * 22, none⟩) (n - j) (c - j)) (by simp [Act.eval, Act.put]; omega) (by simp [Act.eval, Act.put]; omega) (hcp2 3 (c - (i + m)) (c - j)) ?_)
    go_wp2_with (at_builtin; refine wpl_cl rfl rfl rfl (hcl _ off _ (.inr hct)) ?_)
    go_ret
    exact ⟨rfl, rfl⟩
  go_enter Try.func60, Try.ntmps60
  go_wp2
  go_region
  go_wp2_with (at_builtin; refine wpl_cp rfl rfl rfl rfl (hcp1 _ _) ?_)
  go_region_law_o (refine st_cp rfl rfl (v := .slice (some ⟨b, off + (i + m) * 22, none⟩) (n - j) (c - (i + m))) (u := .slice (some ⟨b, off + j * 22, none⟩) (n - j) (c - j)) (by simp [Act.eval, Act.put]) (by simp [Act.eval, Act.put]) (hcp2 3 (c - (i + m)) (c - j)) ?_)
  go_wp2_with (at_builtin; refine wpl_cl rfl rfl rfl (hcl _ _ _ (.inl rfl)) ?_)
  go_ret
  exact ⟨rfl, rfl⟩
set_option maxHeartbeats 4000000 in
set_option maxRecDepth 100000 in
theorem rep_E {b off n c i j m vc : Nat} {va : Option Addr} {w w1 w2 : World} {r1 r2 : Value} (hij : i < j) (hjn : j < n) (hc : n ≤ c) (hroom : i + m + (n - j) ≤ c) (him : j < i + m) (h63 : c ≤ 9223372036854775807) (hm2 : m ≤ 1000000) (hn2 : n ≤ 1000000)
    (hov : ∀ lb cb, (callFunc 81 #[.slice (some ⟨b, off + (i + m) * 22, none⟩) lb cb, .slice va m vc]).run Try.prog w.drew = .ok (.value (.bool false)) w.drew)
    (hcp1 : ∀ ty dc sc, (Builtin.copy_ #[22, 22] ty #[.slice (some ⟨b, off + (i + m) * 22, none⟩) (n - j) dc, .slice (some ⟨b, off + j * 22, none⟩) (n - j) sc]).run Try.prog w.drew.drew = .ok r1 w1)
    (hcp2 : ∀ ty dc, (Builtin.copy_ #[22, 22] ty #[.slice (some ⟨b, off + i * 22, none⟩) (i + m + (n - j) - i) dc, .slice va m vc]).run Try.prog w1 = .ok r2 w2) :
    Calls Try.prog 60 #[.slice (some ⟨b, off, none⟩) n c, .int .i64 i, .int .i64 j, .slice va m vc] w fun e w' => e = .returned (.slice (some ⟨b, off, none⟩) (i + m + (n - j)) c) ∧ w' = w2 := by
  have u22 := Try.underlying22
  have u0 := run_underlying Try.underlying22
  have z35 := sz35
  have mixed : Try.prog.follows .mixedOrders = true := by kernel_rfl
  have hz2 : ¬ ((i : Int) = (j : Int)) := by omega
  have hz3 : ¬ ((j : Int) = (n : Int)) := by omega
  have hb3 : (i : Int) ≤ (j : Int) := by omega
  have hb4 : (j : Int) ≤ (n : Int) := by omega
  have hz4 : ¬ (c : Int) < (i : Int) + (m : Int) + ((n - j : Nat) : Int) := by omega
  have hw1 : IntKind.i64.wrap ((i : Int) + (m : Int)) = (i : Int) + (m : Int) := by rw [IntKind.wrap_i64]; omega
  have hb1 : (0 : Int) ≤ (i : Int) + (m : Int) := by omega
  have htn : ((i : Int) + (m : Int)).toNat = i + m := by omega
  have ht0 : (0 : Int) ≤ (i : Int) + (m : Int) + ((n - j : Nat) : Int) := by omega
  have htc : (i : Int) + (m : Int) + ((n - j : Nat) : Int) ≤ (c : Int) := by omega
  have htt : ((i : Int) + (m : Int) + ((n - j : Nat) : Int)).toNat = i + m + (n - j) := by omega
  have hcj : ¬ (c = j) := by omega
  have hci : ¬ (c = i) := by omega
  have hin : (i : Int) ≤ (n : Int) := by omega
  have hx1 : (i : Int) ≤ ((i + m + (n - j) : Nat) : Int) := by omega
  have hx2 : (i : Int) + (m : Int) ≤ ((i + m + (n - j) : Nat) : Int) := by omega
  have hx3 : (i : Int) + (m : Int) ≤ (i : Int) + (m : Int) + ((n - j : Nat) : Int) := by omega
  have hcim : ¬ (c = i + m) := by omega
  have hle : ¬ (i : Int) + (m : Int) ≤ (j : Int) := by omega
  go_enter Try.func60, Try.ntmps60
  go_wp2
  go_region
  go_wp2_with (simp only [hov])
  go_region_law_o (refine st_cp rfl rfl (v := .slice (some ⟨b, off + (i + m) * 22, none⟩) (n - j) (c - (i + m))) (u := .slice (some ⟨b, off + j * 22, none⟩) (n - j) (c - j)) (by simp [Act.eval, Act.put]) (by simp [Act.eval, Act.put]) (hcp1 3 (c - (i + m)) (c - j)) ?_)
  go_wp2_with (at_builtin; refine wpl_cp rfl rfl rfl rfl (hcp2 _ _) ?_)
  go_ret
  exact ⟨rfl, rfl⟩
end Go.Proofs.Ytpnekpbehcbmkaa
end
noncomputable section
namespace Go.Proofs.Ytpnekpbehcbmkaa
open Go.Eng Go.RowKit Go.Lib Go.Shelf
/-! A row of cells that a call writes, beside what it found. -/
section
variable {own : Nat → Prop} {β : Bl} {h : AH} {w : World}
structure Rw (own : Nat → Prop) (β : Bl) (h : AH) (w : World) (b base S : Nat) (e : TypeId) (cz : Nat) (X : List AV) (w' : World) : Prop where
  row : ∃ cur, w'.heap[b]? = some (.cells cur e (0, 0)) ∧ cur.size = cz ∧ base + X.length ≤ cz ∧ ∀ (i : Nat) (c : AV) (v : Value), X[i]? = some c → cur[base + i]? = some v → VR w.heap (LL own β h.H) β c v
  oth : ∀ k, k ≠ b → w'.heap[k]? = w.heap[k]?
  size : w'.heap.size = S
  os : w'.os = w.os
  tape : w'.tape = w.tape
  out : w'.output = w.output
variable {b base S : Nat} {e : TypeId} {cz : Nat} {X : List AV} {w' : World}
theorem Rw.dr (r : Rw own β h w b base S e cz X w') : Rw own β h w b base S e cz X w'.drew := ⟨r.row, r.oth, r.size, r.os, r.tape, r.out⟩
theorem Rw.store (r : Rw own β h w b base S e cz X w') {new : List AV} {vs : List Value} {off : Nat} (hv : RL w.heap (LL own β h.H) β new vs) (h1 : ∀ v ∈ vs, v.oneCell' = true) (hl : off + new.length ≤ X.length) :
    ∃ w'', (storeCells ⟨b, base + off, none⟩ vs).run Try.prog w' = .ok () w'' ∧ Rw own β h w b base S e cz (X.take off ++ new ++ X.drop (off + new.length)) w'' := by
  obtain ⟨cur, hb, hcz, hlen, hr⟩ := r.row
  have hlv : new.length = vs.length := hv.1
  have hst := run_storeCells_at Try.prog b (base + off) e vs 0 cur w' hb (by omega) h1
  simp only [Nat.add_zero] at hst
  refine ⟨_, hst, ?_⟩
  have hsz : (cur.toList.take (base + off) ++ vs ++ cur.toList.drop (base + off + vs.length)).toArray.size = cz := by simp; omega
  have hb' := setRow_heap w' b cur (cur.toList.take (base + off) ++ vs ++ cur.toList.drop (base + off + vs.length)).toArray e _ hb
  refine ⟨⟨_, hb', hsz, by simp; omega, fun i c v hc' hv' => ?_⟩, fun k hk => (setRow_other w' b k _ hk).trans (r.oth k hk), by simpa using r.size, r.os, r.tape, r.out⟩
  rw [getElem?_splice _ _ _ _ hl] at hc'
  have hv2 : (cur.toList.take (base + off) ++ vs ++ cur.toList.drop (base + off + vs.length))[base + i]? = some v := by simpa using hv'
  rw [getElem?_splice _ _ _ _ (by simp; omega)] at hv2
  split at hc'
  · rw [if_pos (by omega)] at hv2; exact hr i c v hc' (by simpa using hv2)
  · rw [if_neg (by omega)] at hv2
    split at hc'
    · rw [if_pos (by omega)] at hv2
      exact hv.2 _ c v hc' (by rw [show base + i - (base + off) = i - off by omega] at hv2; exact hv2)
    · rw [if_neg (by omega)] at hv2; exact hr i c v hc' (by simpa using hv2)
theorem Rw.read (r : Rw own β h w b base S e cz X w') {off k : Nat} (m cap : Nat) (hl : off + k * 22 ≤ X.length) :
    ∃ vs, RL w.heap (LL own β h.H) β ((X.drop off).take (k * 22)) vs ∧ (Builtin.firstCells 22 k (.slice (some ⟨b, base + off, none⟩) m cap)).run Try.prog w' = .ok vs.toArray w' := by
  obtain ⟨cur, hb, hcz, hlen, hr⟩ := r.row
  have hll : ((X.drop off).take (k * 22)).length = k * 22 := by simp; omega
  have h1 := row_RL (hp := w.heap) (L := LL own β h.H) (β := β) (cs := (X.drop off).take (k * 22)) (cur := cur) (o := base + off) (by rw [hll]; omega) (fun i c v hc hv => by
    rw [List.getElem?_take] at hc
    split at hc
    · rw [List.getElem?_drop] at hc
      exact hr _ c v hc (by rw [← hv]; congr 1; omega)
    · cases hc)
  rw [hll] at h1
  refine ⟨_, h1, ?_⟩
  exact run_firstCells_some w' 22 k ⟨b, base + off, none⟩ m cap _ (by have := h1.1; rw [hll] at this; omega) (row_cells hb)
theorem run_copy22 {w w'' : World} {k n m dc sc : Nat} {a : Addr} {sa : Option Addr} {vs : List Value} (hk : Nat.min m n = k) (hf : (Builtin.firstCells 22 k (.slice sa m sc)).run Try.prog w = .ok vs.toArray w) (hst : (storeCells a vs).run Try.prog w = .ok () w'') (ty : TypeId) :
    (Builtin.copy_ #[22, 22] ty #[.slice (some a) n dc, .slice sa m sc]).run Try.prog w = .ok (goInt k) w'' := by
  simp [Builtin.copy_, run_underlying Try.underlying22, sz35, Builtin.lenOf, hk, hf, hst]
theorem Rw.cpSelf (r : Rw own β h w b base S e cz X w') {d s k : Nat} (hd : d + k * 22 ≤ X.length) (hs : s + k * 22 ≤ X.length) (ho : ones ((X.drop s).take (k * 22)) = true) {n q : Nat} (hn : Nat.min q n = k) :
    ∃ w'', (∀ ty dc sc, (Builtin.copy_ #[22, 22] ty #[.slice (some ⟨b, base + d, none⟩) n dc, .slice (some ⟨b, base + s, none⟩) q sc]).run Try.prog w' = .ok (goInt k) w'') ∧ Rw own β h w b base S e cz (X.take d ++ (X.drop s).take (k * 22) ++ X.drop (d + k * 22)) w'' := by
  obtain ⟨vs, hv, hf0⟩ := r.read (off := s) (k := k) k 0 hs
  have hf : ∀ sc, (Builtin.firstCells 22 k (.slice (some ⟨b, base + s, none⟩) q sc)).run Try.prog w' = .ok vs.toArray w' := fun sc => by
    obtain ⟨cur, hb, hcz, hlen, hr⟩ := r.row
    have := hf0
    simp only [Builtin.firstCells] at this ⊢
    exact this
  have hll : ((X.drop s).take (k * 22)).length = k * 22 := by simp; omega
  obtain ⟨w'', h1, h2⟩ := r.store (off := d) hv (hv.ones ho) (by rw [hll]; omega)
  rw [hll] at h2
  exact ⟨w'', fun ty dc sc => run_copy22 hn (hf sc) h1 ty, h2⟩
/-- what is put in: a row in another block, or nothing -/
def Sr (own : Nat → Prop) (β : Bl) (h : AH) (w : World) (b : Nat) (va : Option Addr) (m : Nat) (new : List AV) : Prop :=
  (m = 0 ∧ new = []) ∨ (0 < m ∧ new.length = m * 22 ∧ ones new = true ∧ ∃ b2 o2 cur2 e2, va = some ⟨b2, o2, none⟩ ∧ b2 ≠ b ∧ w.heap[b2]? = some (.cells cur2 e2 (0, 0)) ∧ o2 + m * 22 ≤ cur2.size ∧
    ∀ (i : Nat) (c : AV) (v : Value), new[i]? = some c → cur2[o2 + i]? = some v → VR w.heap (LL own β h.H) β c v)
theorem Sr.len {va : Option Addr} {m : Nat} {new : List AV} (hs : Sr own β h w b va m new) : new.length = m * 22 := by
  rcases hs with ⟨rfl, rfl⟩ | ⟨_, h1, _⟩
  · rfl
  · exact h1
theorem Sr.read {va : Option Addr} {m : Nat} {new : List AV} (hs : Sr own β h w b va m new) {w1 : World} (ho : ∀ k, k ≠ b → w1.heap[k]? = w.heap[k]?) :
    ∃ vs, RL w.heap (LL own β h.H) β new vs ∧ (∀ v ∈ vs, v.oneCell' = true) ∧ ∀ vc, (Builtin.firstCells 22 m (.slice va m vc)).run Try.prog w1 = .ok vs.toArray w1 := by
  rcases hs with ⟨rfl, rfl⟩ | ⟨hm, hl, h1, b2, o2, cur2, e2, rfl, hne, hb2, hsz, hr⟩
  · refine ⟨[], RL.nil, by simp, fun vc => ?_⟩
    cases va <;> simp [Builtin.firstCells, loadCells, loadCellsFrom]
  · have h2 := row_RL (hp := w.heap) (L := LL own β h.H) (β := β) (cs := new) (cur := cur2) (o := o2) (by omega) hr
    rw [hl] at h2
    refine ⟨_, h2, h2.ones h1, fun vc => ?_⟩
    have hb2' : w1.heap[b2]? = some (.cells cur2 e2 (0, 0)) := (ho b2 hne).trans hb2
    exact run_firstCells_some w1 22 m ⟨b2, o2, none⟩ m vc _ (by have := h2.1; omega) (row_cells hb2')
theorem Rw.cpFrom (r : Rw own β h w b base S e cz X w') {d n m : Nat} {va : Option Addr} {new : List AV} (hs : Sr own β h w b va m new) (hd : d + m * 22 ≤ X.length) (hn : Nat.min m n = m) :
    ∃ w'' r1, (∀ ty dc vc, (Builtin.copy_ #[22, 22] ty #[.slice (some ⟨b, base + d, none⟩) n dc, .slice va m vc]).run Try.prog w' = .ok r1 w'') ∧ Rw own β h w b base S e cz (X.take d ++ new ++ X.drop (d + m * 22)) w'' := by
  obtain ⟨vs, hv, h1, hf⟩ := hs.read r.oth
  obtain ⟨w'', h2, h3⟩ := r.store (off := d) hv h1 (by rw [hs.len]; exact hd)
  rw [hs.len] at h3
  exact ⟨w'', _, fun ty dc vc => run_copy22 hn (hf vc) h2 ty, h3⟩
theorem zc_ones {zc : Array Value} (hz : ∀ v ∈ zc.toList, v.oneCell' = true) (n : Nat) : ∀ v ∈ (Builtin.zeroCells zc n).toList, v.oneCell' = true := by
  intro v hv
  simp only [Builtin.zeroCells, Array.toList_map, List.mem_map, Array.mem_toList_iff, Array.mem_range] at hv
  obtain ⟨i, hi, rfl⟩ := hv
  have hpos : 0 < zc.size := by
    rcases Nat.eq_zero_or_pos zc.size with h0 | h0
    · rw [h0] at hi; simp at hi
    · exact h0
  have hlt : i % zc.size < zc.size := Nat.mod_lt _ hpos
  rw [getElem!_pos zc _ hlt]
  exact hz _ (by simp)
theorem zc_size (zc : Array Value) (n : Nat) : (Builtin.zeroCells zc n).size = n * zc.size := by simp [Builtin.zeroCells]
theorem undef_RL (vs : List Value) : RL w.heap (LL own β h.H) β (List.replicate vs.length .undef) vs := ⟨by simp, fun i c v hc _ => by
  rw [List.getElem?_replicate] at hc
  split at hc
  · cases hc; exact .undef _
  · cases hc⟩
theorem zv35 : ∃ zv, (∀ w, (zeroValue 35).run Try.prog w = .ok zv w) ∧ zv.cells.size = 22 ∧ (∀ v ∈ zv.cells.toList, v.oneCell' = true) ∧ ∃ i, Try.prog.info? 35 = some i ∧ i.zero = some zv ∧ i.size = 22 ∧ i.bytes = 200 := by
  have hq : zeroOf Try.prog 35 = some [.int .i64 0, .int .i64 0, .int .i64 0, .int .i64 0, .int .i64 0, .int .i64 0, .bool false, .int .i64 0, .int .i64 0, .int .i64 0, .int .i64 0, .str [], .int .i64 0, .int .i64 0, .int .i64 0, .int .i64 0, .int .i64 0, .int .i64 0, .int .i64 0, .int .i64 0, .int .i64 0, .nilsl] := by kernel_rfl
  obtain ⟨i, v, hi, hv, hsz⟩ := zeroOf_info hq
  have h1 := szO35; have h2 := byO35
  unfold szOf at h1; unfold byOf at h2
  rw [hi] at h1 h2
  simp at h1 h2
  obtain ⟨v', hv', hR⟩ := zeroOf_some (P := Try.prog) (w := default) hq (hp := #[]) (L := fun _ => False) (β := fun _ => none)
  have hz : ∀ w, (zeroValue 35).run Try.prog w = .ok v w := fun w => by simp [zeroValue, typeInfo, hi, hv]
  have hvv : v' = v := by rw [hz] at hv'; cases hv'; rfl
  subst hvv
  exact ⟨v', hz, by simpa using hsz, hR.ones (by rfl), i, hi, hv, h1, h2⟩
theorem Rw.clr (r : Rw own β h w b base S e cz X w') {off k : Nat} (hl : off + k * 22 ≤ X.length) :
    ∃ w'' r1, (∀ ty o sc, (o = base + off ∨ k = 0) → (Builtin.clear_ #[22] ty #[.slice (some ⟨b, o, none⟩) k sc]).run Try.prog w' = .ok r1 w'') ∧ Rw own β h w b base S e cz (X.take off ++ List.replicate (k * 22) .undef ++ X.drop (off + k * 22)) w'' := by
  obtain ⟨zv, hz, hsz, h1, _⟩ := zv35
  have hzl : (Builtin.zeroCells zv.cells k).toList.length = k * 22 := by rw [Array.length_toList, zc_size, hsz]
  have hv := undef_RL (own := own) (β := β) (h := h) (w := w) (Builtin.zeroCells zv.cells k).toList
  rw [hzl] at hv
  obtain ⟨w'', h2, h3⟩ := r.store (off := off) hv (zc_ones h1 k) (by simpa using hl)
  rw [List.length_replicate] at h3
  rcases Nat.eq_zero_or_pos k with rfl | hk
  · refine ⟨w', .tuple #[], fun ty o sc _ => by simp [Builtin.clear_, run_underlying Try.underlying22], ?_⟩
    have : X.take off ++ List.replicate (0 * 22) .undef ++ X.drop (off + 0 * 22) = X := by simp
    rw [this]; exact r
  · refine ⟨w'', .tuple #[], fun ty o sc ho => ?_, h3⟩
    obtain rfl : o = base + off := by omega
    obtain ⟨k, rfl⟩ : ∃ j, k = j + 1 := ⟨k - 1, by omega⟩
    simp [Builtin.clear_, run_underlying Try.underlying22, hz, h2]
theorem Rw.finIn (hs : SimH own β h.H h.nx w) {id : Nat} {cs : List AV} (hg : h.cellsAt id = some cs) (hβ : β id = some (b, base)) {cur : Array Value} (hb : w.heap[b]? = some (.cells cur e (0, 0))) (r : Rw own β h w b base w.heap.size e cur.size X w') {N c : Nat} (hN : N * 22 ≤ X.length) (hNc : N ≤ c) (hc : c ≤ maxLen) (hs2 : base + c * 22 ≤ cur.size) :
    ∃ β', SimH own β' ((h.kill id).add (.cells (X.take (N * 22)))).H ((h.kill id).add (.cells (X.take (N * 22)))).nx w' ∧ VR w'.heap (LL own β' ((h.kill id).add (.cells (X.take (N * 22)))).H) β' (.rsl h.nx 0 N 22) (.slice (some ⟨b, base, none⟩) N c) ∧ Trans own β h w β' ((h.kill id).add (.cells (X.take (N * 22)))) w' := by
  obtain ⟨cur', hb', hcz, hlen, hr⟩ := r.row
  have hw := hs.writeAs (w' := w') (cellsAt_some hg) hβ h.nx base (.inr rfl) (.cells (X.take (N * 22))) r.size r.oth
    (fun c1 e1 fz hc1 => by rw [hb] at hc1; cases hc1; exact ⟨cur', hb', hcz⟩) r.os r.tape r.out
    (fun L' β' hl' => ⟨cur', e, hb', by simp; omega, fun j c1 v hc1 hv => by
      rw [List.getElem?_take] at hc1
      split at hc1
      · exact (hr j c1 v hc1 hv).later hl'
      · cases hc1⟩)
  rw [if_pos rfl] at hw
  refine ⟨_, hw.1, ?_, hw.2⟩
  have := VR.rsl (hp := w'.heap) (L := LL own (upd β h.nx b base) ((h.kill id).add (.cells (X.take (N * 22)))).H) (β := upd β h.nx b base) h.nx 0 N 22 b base c _ e (upd_same _ _ _ _) hb' hNc hc (by rw [hcz]; omega)
  exact this
theorem Rw.finNew (hs : SimH own β h.H h.nx w) (id : Nat) (r : Rw own β h w w.heap.size 0 (w.heap.size + 1) e cz X w') {N c : Nat} (hN : N * 22 ≤ X.length) (hNc : N ≤ c) (hc : c ≤ maxLen) (hs2 : c * 22 ≤ cz) :
    ∃ β', SimH own β' ((h.kill id).add (.cells (X.take (N * 22)))).H ((h.kill id).add (.cells (X.take (N * 22)))).nx w' ∧ VR w'.heap (LL own β' ((h.kill id).add (.cells (X.take (N * 22)))).H) β' (.rsl h.nx 0 N 22) (.slice (some ⟨w.heap.size, 0, none⟩) N c) ∧ Trans own β h w β' ((h.kill id).add (.cells (X.take (N * 22)))) w' := by
  obtain ⟨cur', hb', hcz, hlen, hr⟩ := r.row
  obtain ⟨d1, d2⟩ := hs.drop id
  have hheap : w'.heap = w.heap.push (.cells cur' e) := by
    apply Array.ext
    · rw [r.size]; simp
    · intro i h1 h2
      have e1 : w'.heap[i]? = (w.heap.push (.cells cur' e))[i]? := by
        by_cases hi : i = w.heap.size
        · subst hi; rw [hb']; simp
        · rw [r.oth i hi, Array.getElem?_push, if_neg hi]
      rw [Array.getElem?_eq_getElem h1, Array.getElem?_eq_getElem h2] at e1
      exact Option.some.inj e1
  obtain ⟨g1, g2, _⟩ := d1.newCells (w' := w') h.nx (d1.fresh _ (Nat.le_refl _)) (X.take (N * 22)) cur' e hheap r.os r.tape r.out (by simp; omega) (fun j c1 v hc1 hv => by
    rw [List.getElem?_take] at hc1
    split at hc1
    · exact (hr j c1 v hc1 (by rw [Nat.zero_add]; exact hv)).later d2.later
    · cases hc1)
  have hmx : max h.nx (h.nx + 1) = h.nx + 1 := by omega
  have g2' := g2 (Nat.le_refl _)
  rw [hmx] at g1 g2'
  refine ⟨_, g1, ?_, d2.trans g2'⟩
  have hbl : w'.heap[w.heap.size]? = some (.cells cur' e (0, 0)) := hb'
  exact VR.rsl h.nx 0 N 22 w.heap.size 0 c _ e (upd_same _ _ _ _) hbl hNc hc (by rw [hcz]; omega)
end
end Go.Proofs.Ytpnekpbehcbmkaa
end
noncomputable section
namespace Go.Proofs.Ytpnekpbehcbmkaa
open Go.Eng Go.RowKit Go.Lib Go.Shelf
/-! slices.Insert and slices.Replace at commands: what they answer. -/
section
variable {own : Nat → Prop} {β : Bl} {h : AH} {w : World}
theorem ov_apart {W : World} {b o la ca b2 o2 lb cb : Nat} {cur cur2 : Array Value} {e e2 : TypeId} (hne : b ≠ b2) (hb : W.heap[b]? = some (.cells cur e (0, 0))) (hb2 : W.heap[b2]? = some (.cells cur2 e2 (0, 0))) (hsz : cur2.size ≠ 0) :
    (callFunc 81 #[.slice (some ⟨b, o, none⟩) la ca, .slice (some ⟨b2, o2, none⟩) lb cb]).run Try.prog W = .ok (.value (.bool false)) W := by
  rw [run_callFunc_extern Try.func81 (by kernel_rfl) (by kernel_rfl) (by kernel_rfl) (e := Extern.SlicesOverlaps.overlaps #[22, 22] #[4]) (by kernel_rfl),
    Lib.run_overlaps_apart W 22 4 35 Try.underlying22 22 sz35 ⟨b, o, none⟩ ⟨b2, o2, none⟩ la ca lb cb hne e e2 cur.size cur2.size (by simp [World.shape?, hb]) (by simp [World.shape?, hb2]) hsz (by simp [World.frozen?, hb]) (by simp [World.frozen?, hb])]
  rfl
theorem Rw.appIn {b base S : Nat} {e : TypeId} {cz : Nat} {X : List AV} {w' : World} (r : Rw own β h w b base S e cz X w') {i c m vc : Nat} {va : Option Addr} {new : List AV} (hs : Sr own β h w b va m new) (hd : i * 22 + m * 22 ≤ X.length) (hic : i + m ≤ c) :
    ∃ w'', (Builtin.append_ #[22, 22] 22 #[.slice (some ⟨b, base, none⟩) i c, .slice va m vc]).run Try.prog w' = .ok (.slice (some ⟨b, base, none⟩) (i + m) c) w'' ∧ Rw own β h w b base S e cz (X.take (i * 22) ++ new ++ X.drop (i * 22 + m * 22)) w'' := by
  obtain ⟨zv, _, _, _, i0, hi0, _, hz0, _⟩ := zv35
  obtain ⟨vs, hv, h1, hf⟩ := hs.read r.oth
  obtain ⟨w'', h2, h3⟩ := r.store (off := i * 22) hv h1 (by rw [hs.len]; exact hd)
  rw [hs.len] at h3
  refine ⟨w'', ?_, h3⟩
  rw [run_append_in Try.underlying22 hi0 (some ⟨b, base, none⟩) va i c m vc vs.toArray (by rw [hz0]; exact hf vc) hic]
  simp only [hz0, add_lit', h2, Result.andThen_ok]
theorem Rw.newZ {id b base : Nat} {cs : List AV} {cur : Array Value} {e : TypeId} (hrow : base + cs.length ≤ cur.size ∧ ∀ (i : Nat) (c : AV) (v : Value), cs[i]? = some c → cur[base + i]? = some v → VR w.heap (LL own β h.H) β c v) (hb : w.heap[b]? = some (.cells cur e (0, 0))) {i k c : Nat} (hi : i * 22 ≤ cs.length) (hk : 0 < k) (hg : c < i + k) (hik : i + k ≤ 3000000) {W : World} (hW : W.heap = w.heap) (h1 : W.os = w.os) (h2 : W.tape = w.tape) (h3 : W.output = w.output) :
    ∃ c2 W1, (i + k ≤ c2 ∧ c2 ≤ maxLen) ∧ (∀ ty, (Builtin.append_ #[22, 3] ty #[.slice (some ⟨b, base, none⟩) i c, .int .i64 k]).run Try.prog W = .ok (.slice (some ⟨w.heap.size, 0, none⟩) (i + k) c2) W1) ∧ Rw own β h w w.heap.size 0 (w.heap.size + 1) 35 (c2 * 22) (cs.take (i * 22) ++ List.replicate (k * 22) .undef) W1 := by
  obtain ⟨zv, _, hzs, _, i0, hi0, hiz, hz0, hby⟩ := zv35
  obtain ⟨hlen, hr⟩ := hrow
  have hWd : W.drew.heap[b]? = some (.cells cur e (0, 0)) := by show W.heap[b]? = _; rw [hW]; exact hb
  have hold : (Builtin.firstCells i0.size i (.slice (some ⟨b, base, none⟩) i c)).run Try.prog W.drew = .ok ((cur.toList.drop base).take (i * 22)).toArray W.drew := by
    rw [hz0]
    exact run_firstCells_some W.drew 22 i ⟨b, base, none⟩ i c _ (by simp; omega) (row_cells hWd)
  have hrun := fun ty => Lib.run_append_grow_zeros W 22 3 ty 35 i0 zv .i64 .i64 Try.underlying22 Try.underlying3 hi0 hiz (some ⟨b, base, none⟩) i c ((cur.toList.drop base).take (i * 22)) hold k hk (by omega) hg (by omega) (by rw [hby]; omega) (by rw [hby]; exact growslice_fits hg (by omega))
  have hge := grownCap_ge W (i + k) c 35
  have hcm : grownCap W (i + k) c 35 ≤ maxLen := grownCap_le_maxLen W (i + k) c 35 (by simp only [maxLen]; omega)
  refine ⟨grownCap W (i + k) c 35, _, ⟨hge, hcm⟩, fun ty => by rw [hrun ty, hW], ?_⟩
  have hol : ((cur.toList.drop base).take (i * 22)).length = i * 22 := by simp; omega
  have hheap : (W.drew.alloc (.cells (((cur.toList.drop base).take (i * 22)).toArray ++ Builtin.zeroCells zv.cells k ++ Builtin.zeroCells zv.cells (grownCap W (i + k) c 35 - (i + k))) 35)).heap = w.heap.push (.cells (((cur.toList.drop base).take (i * 22)).toArray ++ Builtin.zeroCells zv.cells k ++ Builtin.zeroCells zv.cells (grownCap W (i + k) c 35 - (i + k))) 35) := by
    show W.heap.push _ = _; rw [hW]
  have hsize : (((cur.toList.drop base).take (i * 22)).toArray ++ Builtin.zeroCells zv.cells k ++ Builtin.zeroCells zv.cells (grownCap W (i + k) c 35 - (i + k))).size = grownCap W (i + k) c 35 * 22 := by
    simp only [Array.size_append, zc_size, hzs]
    have : ((cur.toList.drop base).take (i * 22)).toArray.size = i * 22 := by simpa using hol
    rw [this]; omega
  generalize hA : (((cur.toList.drop base).take (i * 22)).toArray ++ Builtin.zeroCells zv.cells k ++ Builtin.zeroCells zv.cells (grownCap W (i + k) c 35 - (i + k))) = A at *
  refine ⟨⟨A, by rw [hheap]; simp, hsize, by simp; omega, fun j c1 v hc1 hv => ?_⟩, fun q hq => by rw [hheap, Array.getElem?_push, if_neg hq], by rw [hheap]; simp, h1, h2, h3⟩
  rw [List.getElem?_append] at hc1
  split at hc1
  · rename_i hj
    rw [List.length_take] at hj
    rw [List.getElem?_take] at hc1
    split at hc1
    · rename_i hj2
      refine hr j c1 v hc1 ?_
      rw [Nat.zero_add] at hv
      rw [← hA, Array.append_assoc, Array.getElem?_append, if_pos (by simp; omega)] at hv
      rw [← hv]
      simp [List.getElem?_take, hj2]
    · cases hc1
  · rw [List.getElem?_replicate] at hc1
    split at hc1
    · cases hc1; exact .undef _
    · cases hc1
/-- how a call ends -/
def Fin (own : Nat → Prop) (β : Bl) (h : AH) (w : World) (v : AV) (h' : AH) (e : Ending) (w' : World) : Prop := ∃ cv β', e = .returned cv ∧ SimH own β' h'.H h'.nx w' ∧ VR w'.heap (LL own β' h'.H) β' v cv ∧ Trans own β h w β' h' w'
theorem app_run {cs cx : Value} {v : AV} {h' : AH} (ho : OpOk Try.prog own β h w (do pure (.value (← Builtin.append_ #[22, 22] 22 #[cs, cx]))) v h') :
    ∃ cv w' β', (Builtin.append_ #[22, 22] 22 #[cs, cx]).run Try.prog w = .ok cv w' ∧ SimH own β' h'.H h'.nx w' ∧ VR w'.heap (LL own β' h'.H) β' v cv ∧ Trans own β h w β' h' w' := by
  obtain ⟨cv, w', β', hr, h1, h2, h3⟩ := ho
  rw [Sem.run_bind] at hr
  cases hx : (Builtin.append_ #[22, 22] 22 #[cs, cx]).run Try.prog w with
  | ok a w1 =>
    rw [hx] at hr
    rcases hr with hr | ⟨hr, _⟩
    · simp [Result.andThen_ok] at hr
      obtain ⟨rfl, rfl⟩ := hr
      exact ⟨_, _, _, rfl, h1, h2, h3⟩
    · simp [Result.andThen_ok] at hr
  | _ => rw [hx] at hr; rcases hr with hr | ⟨hr, _⟩ <;> cases hr
/-- the two arguments: a row and what is put in -/
structure Two (h : AH) (v0 v3 : AV) (n m : Nat) (cs new : List AV) (id : Nat) : Prop where
  v0 : v0 = .rsl id 0 n 22
  c0 : h.cellsAt id = some cs
  l0 : cs.length = n * 22
  o0 : ones cs = true
  s3 : (v3 = .nilsl ∧ m = 0 ∧ new = []) ∨ ∃ id2, v3 = .rsl id2 0 m 22 ∧ id2 ≠ id ∧ h.cellsAt id2 = some new ∧ new.length = m * 22 ∧ ones new = true
  bn : n ≤ 1000000
  bm : m ≤ 1000000
theorem Two.src (hs : SimH own β h.H h.nx w) {v0 v3 : AV} {n m : Nat} {cs new : List AV} {id b base : Nat} (t : Two h v0 v3 n m cs new id) (hβ : β id = some (b, base)) {cv : Value} (hv : VR w.heap (LL own β h.H) β v3 cv) :
    ∃ va vc, cv = .slice va m vc ∧ Sr own β h w b va m new := by
  rcases t.s3 with ⟨h1, rfl, rfl⟩ | ⟨id2, h1, hne, hc2, hl2, ho2⟩
  · subst h1; cases hv; exact ⟨_, _, rfl, .inl ⟨rfl, rfl⟩⟩
  · subst h1
    rcases Nat.eq_zero_or_pos m with rfl | hm
    · have hn : new = [] := List.eq_nil_of_length_eq_zero (by omega)
      cases hv <;> exact ⟨_, _, rfl, .inl ⟨rfl, hn⟩⟩
    · obtain ⟨b2, base2, cur2, e2, hg2, hβ2, hb2, hlen2, hr2⟩ := hs.row hc2
      have hbb : b2 ≠ b := fun he => by
        subst he
        obtain ⟨b', base', cur', e', hg', hβ', _⟩ := hs.row t.c0
        exact hne (hs.inj id2 id _ _ b2 base2 base hg2 hg' hβ2 hβ)
      cases hv with
      | rsl _ _ _ _ b' base' cap cur0 e0 hβ' hb' hcap hmax hsz =>
        rw [hβ2] at hβ'; cases hβ'
        exact ⟨_, _, rfl, .inr ⟨hm, hl2, ho2, b2, base2 + 0, cur2, e2, rfl, hbb, hb2, by omega, fun i c v h1 h2 => hr2 i c v h1 h2⟩⟩
      | rsl0 => omega
theorem Two.alen {v0 v3 : AV} {n m : Nat} {cs new : List AV} {id : Nat} (t : Two h v0 v3 n m cs new id) : new.length = m * 22 ∧ ones new = true ∧ acells h 22 v3 = some new ∧ Eng.alen v3 = some m := by
  rcases t.s3 with ⟨rfl, rfl, rfl⟩ | ⟨id2, rfl, _, hc2, hl2, ho2⟩
  · exact ⟨rfl, rfl, rfl, rfl⟩
  · refine ⟨hl2, ho2, ?_, rfl⟩
    have hcut : cut new 0 (m * 22) = some new := by
      have := cut_zero_app (α := new) (b := []) (n := m * 22) hl2
      rwa [List.append_nil] at this
    simp [acells, hc2, hcut]
/-- the cells after -/
def rX (cs new : List AV) (i j : Nat) : List AV := cs.take (i * 22) ++ new ++ cs.drop (j * 22)
/-- 'append' of what is put in to the first i elements, by the interpreter's own law -/
theorem Two.app (hs : SimH own β h.H h.nx w) {v0 v3 : AV} {n m i : Nat} {cs new : List AV} {id : Nat} (t : Two h v0 v3 n m cs new id) (hi : i ≤ n) {c0 c3 : Value} (hv0 : VR w.heap (LL own β h.H) β (.rsl id 0 i 22) c0) (hv3 : VR w.heap (LL own β h.H) β v3 c3) :
    ∃ cv w' β', (Builtin.append_ #[22, 22] 22 #[c0, c3]).run Try.prog w = .ok cv w' ∧ SimH own β' ((h.kill id).add (.cells (cs.take (i * 22) ++ new))).H ((h.kill id).add (.cells (cs.take (i * 22) ++ new))).nx w' ∧ VR w'.heap (LL own β' ((h.kill id).add (.cells (cs.take (i * 22) ++ new))).H) β' (.rsl h.nx 0 (i + m) 22) cv ∧ Trans own β h w β' ((h.kill id).add (.cells (cs.take (i * 22) ++ new))) w' := by
  obtain ⟨hl, ho, ha, hal⟩ := t.alen
  have bn := t.bn; have bm := t.bm; have l0 := t.l0
  have hcut : cut cs 0 (i * 22) = some (cs.take (i * 22)) := by unfold cut; rw [if_pos (by omega)]; simp
  have hro : roomy (i + m) 200 = true := roomy_ok _ _ (by omega) (by omega)
  have happ : aapp h 22 200 (.rsl id 0 i 22) v3 = some (.rsl h.nx 0 (i + m) 22, (h.kill id).add (.cells (cs.take (i * 22) ++ new))) := by
    simp [aapp, ha, hal, ho, hro, t.c0, hcut]
  have hq : zeroOf Try.prog 35 = some [.int .i64 0, .int .i64 0, .int .i64 0, .int .i64 0, .int .i64 0, .int .i64 0, .bool false, .int .i64 0, .int .i64 0, .int .i64 0, .int .i64 0, .str [], .int .i64 0, .int .i64 0, .int .i64 0, .int .i64 0, .int .i64 0, .int .i64 0, .int .i64 0, .int .i64 0, .int .i64 0, .nilsl] := by kernel_rfl
  exact app_run (append_ok hs Try.underlying22 hq szO35 rfl (by omega) byO35 hv0 hv3 happ)
end
end Go.Proofs.Ytpnekpbehcbmkaa
end
