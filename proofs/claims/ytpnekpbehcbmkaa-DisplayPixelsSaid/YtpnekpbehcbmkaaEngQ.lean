/- A region that draws its order: one operation more, and the whole. -/
import Derived.Test.YtpnekpbehcbmkaaEngO
set_option linter.unusedSimpArgs false
set_option linter.unusedVariables false
set_option linter.unnecessarySimpa false
namespace Go.Eng

theorem gd_congr {T T' : Tm} {o : AOpr} (h : ∀ t ∈ o.uses, T'.get t = T.get t) : gd T' o.guard = gd T o.guard := by
  unfold AOpr.uses at h
  cases hg : o.guard with
  | none => rfl
  | some p =>
    obtain ⟨t, b⟩ := p
    rw [hg] at h
    simp only [gd]
    rw [h t (by simp)]
theorem uses_op {o : AOpr} {t : Nat} (h : t ∈ o.op.uses) : t ∈ o.uses := by
  unfold AOpr.uses
  split
  · exact List.mem_cons_of_mem _ h
  · exact h

section
variable {P : Program} {nt : Nat} {ds : List Deferred} {ops : Array Oper} {n r0 : Nat} {o : Nat → AOpr} {s : Nat → DStep} {b : Nat → Nat} {Ts : Nat → Tm} {Hs : Nat → AH}
variable {own : Nat → Prop} {β0 : Bl} {w0 : World} {L : Nat → Prop} {β : Bl} {G : HF} {m : Nat} {a : Act} {w : World}

/-- What holds behind one more operation that leaves the cut where it is. -/
theorem Inv.next (c : DCtx P nt ops n r0 o s b Ts Hs) (v : Inv own β0 w0 nt ds n r0 o s b Ts Hs L β G m a w) {i : Nat} (hi : i < n) (hL : ¬ L i) (hP : ∀ j, Nat.testBit (b i) j = true → L j) (hE : ¬ isEff s i)
    {β' : Bl} {G' : HF} {w' : World} {cv : Value} (hd : cDst nt (o i).dst = true) (hs : SimF own β' G' (Hs m).nx w') (ht : TransF β G w β' G' w') (hv : VR w'.heap (LF own β' G') β' (s i).v cv)
    (hlow : ∀ id, id < (Hs m).nx → id ≠ r0 + i → β' id = β id) (hbi : ¬ isAl s i → β' (r0 + i) = none) (hnx : r0 + n ≤ (Hs m).nx)
    (hG : ∀ x, x ≠ r0 + i → G' x = G x) (hGi : ¬ isAl s i → G' (r0 + i) = G (r0 + i)) (hGa : ∀ r cs, (s i).k = .alloc r cs → m ≤ i ∧ G' (r0 + i) = some (.cells cs)) :
    Inv own β0 w0 nt ds n r0 o s b Ts Hs (fun j => j = i ∨ L j) β' G' m (a.put (o i).dst cv) w' := by
  have old : ∀ t u, TSp o s (Ts 0) n L t u → VR w'.heap (LF own β' G') β' u (a.tmps.getD t Go.undef) := fun t u hu => (v.tm t u hu).later ht.later
  refine ⟨hs, ?_, ?_, ?_, v.mle, ?_, ?_, ?_, ?_, ?_, v.m0, ?_, ?_, ?_, v.trans.trans ht⟩
  · cases hdd : (o i).dst <;> simp [Act.put, v.sz]
  · cases hdd : (o i).dst <;> simp [Act.put, v.df]
  · intro j hj hLj k hk
    rcases hLj with rfl | hLj
    · exact .inr (hP k hk)
    · exact .inr (v.closed j hj hLj k hk)
  · rcases v.cut with h | ⟨e, h1, h2, h3⟩
    · exact .inl h
    · exact .inr ⟨e, h1, .inr h2, h3⟩
  · intro e he hEe hLe
    rcases hLe with rfl | hLe
    · exact absurd hEe hE
    · exact v.cutE e he hEe hLe
  · intro x hx
    by_cases hxi : x = r0 + i
    · subst hxi
      by_cases hA : isAl s i
      · obtain ⟨r, cs, hr⟩ := hA
        obtain ⟨h1, _⟩ := hGa r cs hr
        omega
      · rw [hGi hA]; exact v.g1 _ hx
    · rw [hG x hxi]; exact v.g1 x hx
  · intro j h1 h2 hLj r cs hr
    by_cases hji : j = i
    · subst hji; exact (hGa r cs hr).2
    · rw [hG _ (by omega)]; exact v.g2 j h1 h2 (hLj.resolve_left hji) r cs hr
  · intro j h1 h2 hj
    by_cases hji : j = i
    · subst hji
      rcases hj with hj | hj
      · exact absurd (.inl rfl) hj
      · rw [hGi hj]; exact v.g3 j h1 h2 (.inr hj)
    · rw [hG _ (by omega)]
      exact v.g3 j h1 h2 (hj.imp (fun h hl => h (.inr hl)) id)
  · intro j h1 hj
    by_cases hji : j = i
    · subst hji
      rcases hj with hj | hj
      · exact absurd (.inl rfl) hj
      · exact hbi hj
    · rw [hlow _ (by omega) (by omega)]
      exact v.resv j h1 (hj.imp (fun h hl => h (.inr hl)) id)
  · intro id hid
    rw [hlow id (by omega) (by omega)]
    exact v.low id hid
  · intro t u hu
    rcases TSp_more c v hi hL hu with ⟨h1, rfl⟩ | ⟨h1, h2⟩
    · have hlt : t < a.tmps.size := by
        rw [v.sz]; rw [h1] at hd; simpa [cDst] using hd
      rw [h1]
      simpa [Act.put, hlt] using hv
    · have := old t u h2
      cases hdd : (o i).dst with
      | none => exact this
      | some d =>
        have hne : d ≠ t := fun e => by subst e; exact h1 hdd
        simpa [Act.put, Array.getElem?_setIfInBounds_ne hne] using this

/-- One more operation. -/
theorem Inv.step (c : DCtx P nt ops n r0 o s b Ts Hs) (hnx : ∀ i, i ≤ n → r0 + n ≤ (Hs i).nx) (v : Inv own β0 w0 nt ds n r0 o s b Ts Hs L β G m a w) {i : Nat} (hi : i < n) (hL : ¬ L i) (hP : ∀ j, Nat.testBit (b i) j = true → L j)
    {K : Act → World → Prop} {Q : Exit → Act → World → Prop} (hK : ∀ β' G' m' a' w', Inv own β0 w0 nt ds n r0 o s b Ts Hs (fun j => j = i ∨ L j) β' G' m' a' w' → K a' w') : wpOp P ops Q i K a w := by
  obtain ⟨oo, hoo, hco⟩ := c.cop i hi
  obtain ⟨q1, q2, q3⟩ := cOpr_spec hco
  unfold wpOp
  simp only [hoo]
  -- the slots that it looks at
  have hTr : ∀ t ∈ (o i).uses, (restr (Ts i) (o i).uses).get t = (Ts i).get t := fun t ht => by rw [restr_get, if_pos ht]
  have mkSim : ∀ V : Hp, (∀ id ob, V.get id = some ob → G id = some ob) → Sim nt ds (restOwn own β G V) β (restr (Ts i) (o i).uses) ⟨V, (Hs m).nx⟩ a w := by
    intro V hV
    refine ⟨v.sim.split hV, v.sz, fun t u hu => ?_, v.df⟩
    rw [restr_get] at hu
    split at hu
    · rename_i ht
      have := v.look c hi hL hP ht hu
      rw [show LL (restOwn own β G V) β (⟨V, (Hs m).nx⟩ : AH).H = LF own β G from restOwn_eq hV]
      exact this
    · cases hu
  have hleaf : ∀ id ob, (PM.leaf : Hp).get id = some ob → G id = some ob := fun id ob h => by simp [PM.get] at h
  have hgd := gd_congr hTr
  have q2' : cDst nt (o i).dst = true := by rw [q3]; exact q2
  obtain ⟨cl, hcl, hst⟩ := c.step i hi
  -- an operation that turns no object
  have quiet : ∀ (V : Hp), (∀ id ob, V.get id = some ob → G id = some ob) → (¬ isEff s i) → (¬ isAl s i) → ∀ u, (s i).v = u → aop cl (restr (Ts i) (o i).uses) ⟨V, (Hs m).nx⟩ (o i).op = some (u, ⟨V, (Hs m).nx⟩) → oo.wp P a w K Q := by
    intro V hV hE hA u hu ha
    refine op_wp hcl (mkSim V hV) q1 ha fun cv w' β' g1 g2 g3 => ?_
    obtain ⟨k1, k2, k3, _⟩ := v.sim.glue hV g1 g3
    have hGG : Eng.glue G V V = G := by
      funext x
      unfold Eng.glue
      cases hx : V.get x with
      | some ob => exact (hV x ob hx).symm
      | none => rfl
    rw [hGG] at k1 k2 k3
    rw [← q3]
    refine hK β' G m _ w' (v.next c hi hL hP hE q2' k1 k2 ?_ (fun id hid _ => g3.low id hid) (fun h => ?_) (hnx m v.mle) (fun x _ => rfl) (fun _ => rfl) (fun r cs hr => absurd ⟨r, cs, hr⟩ hA))
    · rw [hu]
      rw [show LL (restOwn own β G V) β' (⟨V, (Hs m).nx⟩ : AH).H = LF own β' G from k3] at g2
      exact g2
    · rw [g3.low _ (by have := hnx m v.mle; simp only; omega)]
      exact v.resv i hi (.inr h)
  generalize hsi : s i = si at hst
  cases hst with
  | skip hg =>
    have hw := gd_wanted (mkSim .leaf hleaf) hco (hgd.trans hg)
    rw [hw, if_neg (by simp)]
    have hE : ¬ isEff s i := by rintro ⟨V, C, h⟩; rw [hsi] at h; cases h
    have hA : ¬ isAl s i := by rintro ⟨V, C, h⟩; rw [hsi] at h; cases h
    rw [← q3]
    refine hK β G m _ w (v.next c hi hL hP hE q2' v.sim (.refl _ _ _) ?_ (fun _ _ _ => rfl) (fun h => v.resv i hi (.inr h)) (hnx m v.mle) (fun _ _ => rfl) (fun _ => rfl) (fun r cs hr => absurd ⟨r, cs, hr⟩ hA))
    rw [hsi]
    exact .tup [] #[] rfl (fun i c v hc => by simp at hc)
  | alloc hg cs mk ha =>
    have hw := gd_wanted (mkSim .leaf hleaf) hco (hgd.trans hg)
    rw [hw, if_pos rfl]
    refine .inl ?_
    have hE : ¬ isEff s i := by rintro ⟨V, C, h⟩; rw [hsi] at h; cases h
    have hAl : isAl s i := ⟨_, _, by rw [hsi]⟩
    have hmi : m ≤ i := by
      rcases Nat.lt_or_ge i m with h | h
      · exact absurd (v.ahead c h (.inr hAl)) hL
      · exact h
    have ha' : aalloc (restr (Ts i) (o i).uses) (o i).op = some (cs, mk) := by
      rw [aalloc_congr (fun t ht => hTr t (uses_op ht))]; exact ha
    have hsim := mkSim .leaf hleaf
    obtain ⟨cv, w', hrun, g1, g2, _, g3⟩ := alloc_op (P := P) (a := a) hsim.hp (fun x y hxy => cOpd_ok hsim hxy) (cOpX_alloc q1 (aalloc_aA ha')) ha' (r0 + i) (v.resv i hi (.inl hL))
    obtain ⟨k1, k2, k3, _⟩ := v.sim.glue hleaf g1 g3
    have hnx' := hnx m v.mle
    have hmax : max (Hs m).nx (r0 + i + 1) = (Hs m).nx := by omega
    rw [hmax] at k1
    unfold Oper.wp
    rw [hrun]
    show K _ _
    rw [← q3]
    have hGx : ∀ x, x ≠ r0 + i → Eng.glue G .leaf ((PM.leaf : Hp).put (r0 + i) (.cells cs)) x = G x := by
      intro x hx
      unfold Eng.glue
      rw [PM.get_put_ne _ _ hx]
      simp [PM.get]
    have hGi : Eng.glue G .leaf ((PM.leaf : Hp).put (r0 + i) (.cells cs)) (r0 + i) = some (.cells cs) := by
      unfold Eng.glue
      rw [PM.get_put_same]
    refine hK _ _ m _ w' (v.next c hi hL hP hE q2' k1 k2 ?_ (fun id _ hne => upd_ne _ _ _ hne) (fun h => absurd hAl h) hnx' hGx (fun h => absurd hAl h) (fun r cs' hr => ?_))
    · rw [hsi]
      rw [k3] at g2
      exact g2
    · rw [hsi] at hr; cases hr; exact ⟨hmi, hGi⟩
  | eff hg u h' ha hup =>
    have hE : isEff s i := ⟨_, _, by rw [hsi]⟩
    obtain ⟨e1, e2, e3, e4, e5⟩ := v.effSub c hi hL hP hE
    have hH1 : Hs (i + 1) = h' := by rw [c.Hn i hi, hsi]; rfl
    have hsim := mkSim (Hs i).H e3
    have hw := gd_wanted hsim hco (hgd.trans hg)
    rw [hw, if_pos rfl]
    refine .inl ?_
    have hHi : (⟨(Hs i).H, (Hs m).nx⟩ : AH) = Hs i := by rw [← e2]
    have ha' : aop cl (restr (Ts i) (o i).uses) ⟨(Hs i).H, (Hs m).nx⟩ (o i).op = some (u, h') := by
      rw [aop_congr (fun t ht => hTr t (uses_op ht)), hHi]; exact ha
    refine op_wp hcl hsim q1 ha' fun cv w' β' g1 g2 g3 => ?_
    obtain ⟨k1, k2, k3, k4⟩ := v.sim.glue e3 g1 g3
    have hnxi := hnx m v.mle
    have hlow : ∀ id, id < (Hs m).nx → β' id = β id := g3.low
    have hC0 : ∀ j, i < j → j < n → h'.H.get (r0 + j) = none := by
      intro j h1 h2
      cases hq : h'.H.get (r0 + j) with
      | none => rfl
      | some ob =>
        exfalso
        by_cases hc : L j ∧ isAl s j
        · obtain ⟨r, cs, hr⟩ := hc.2
          exact k4 (r0 + j) _ ob (v.g2 j (by omega) h2 hc.1 r cs hr) (e5 j h1 h2) hq
        · obtain ⟨b1, base1, hb1, _⟩ := g1.obj _ _ hq
          rw [hlow _ (by omega), v.resv j h2 (by
            by_cases hLj : L j
            · exact .inr (fun hA => hc ⟨hLj, hA⟩)
            · exact .inl hLj)] at hb1
          cases hb1
    have hglue : ∀ x, (x < r0 + (i + 1) ∨ r0 + n ≤ x) → Eng.glue G (Hs i).H h'.H x = h'.H.get x := by
      intro x hx
      unfold Eng.glue
      cases hq : h'.H.get x with
      | some ob => rfl
      | none =>
        cases hq2 : (Hs i).H.get x with
        | none => exact e4 x hx hq2
        | some ob => rfl
    have hglue2 : ∀ j, i < j → j < n → Eng.glue G (Hs i).H h'.H (r0 + j) = G (r0 + j) := by
      intro j h1 h2
      unfold Eng.glue
      rw [hC0 j h1 h2, e5 j h1 h2]
    rw [← q3]
    refine hK β' (Eng.glue G (Hs i).H h'.H) (i + 1) _ w' ?_
    have old : ∀ t u, TSp o s (Ts 0) n L t u → VR w'.heap (LF own β' (Eng.glue G (Hs i).H h'.H)) β' u (a.tmps.getD t Go.undef) := fun t u hu => (v.tm t u hu).later k2.later
    refine ⟨by rw [hH1]; exact k1, ?_, ?_, ?_, hi, .inr ⟨i, rfl, .inl rfl, hE⟩, ?_, ?_, ?_, ?_, ?_, ?_, ?_, ?_, v.trans.trans k2⟩
    · cases hdd : (o i).dst <;> simp [Act.put, v.sz]
    · cases hdd : (o i).dst <;> simp [Act.put, v.df]
    · intro j hj hLj k hk
      rcases hLj with rfl | hLj
      · exact .inr (hP k hk)
      · exact .inr (v.closed j hj hLj k hk)
    · intro e he hEe hLe
      rcases hLe with rfl | hLe
      · omega
      · have := v.cutE e he hEe hLe; omega
    · intro x hx; rw [hH1]; exact hglue x hx
    · intro j h1 h2 hLj r cs hr
      rw [hglue2 j (by omega) h2]
      exact v.g2 j (by omega) h2 (hLj.resolve_left (by omega)) r cs hr
    · intro j h1 h2 hj
      rw [hglue2 j (by omega) h2]
      exact v.g3 j (by omega) h2 (hj.imp (fun h hl => h (.inr hl)) id)
    · intro j h1 h2; rw [hH1]; exact hC0 j (by omega) h2
    · intro j h1 hj
      rw [hlow _ (by omega)]
      by_cases hji : j = i
      · subst hji
        exact v.resv j h1 (.inl hL)
      · exact v.resv j h1 (hj.imp (fun h hl => h (.inr hl)) id)
    · intro id hid; rw [hlow id (by omega)]; exact v.low id hid
    · intro t u' hu
      rcases TSp_more c v hi hL hu with ⟨h1, rfl⟩ | ⟨h1, h2⟩
      · have hlt : t < a.tmps.size := by
          rw [v.sz]; rw [h1] at q2'; simpa [cDst] using q2'
        rw [h1, hsi]
        rw [k3] at g2
        simpa [Act.put, hlt] using g2
      · have := old t u' h2
        cases hdd : (o i).dst with
        | none => exact this
        | some d =>
          have hne : d ≠ t := fun e => by subst e; exact h1 hdd
          simpa [Act.put, Array.getElem?_setIfInBounds_ne hne] using this
  | read hg u h' x ha hr =>
    have hE : ¬ isEff s i := by rintro ⟨V, C, h⟩; rw [hsi] at h; cases h
    have hA : ¬ isAl s i := by rintro ⟨V, C, h⟩; rw [hsi] at h; cases h
    obtain ⟨_, ⟨ob, hob⟩, hany⟩ := aop_read hr ha
    have hGx := v.readSame c hi hL hP (by rw [hsi]) hob
    have hV : ∀ id ob', ((PM.leaf : Hp).put x ob).get id = some ob' → G id = some ob' := by
      intro id ob' h
      rw [PM.get_put] at h
      split at h
      · rename_i he; cases h; rw [he]; exact hGx
      · simp [PM.get] at h
    have hw := gd_wanted (mkSim _ hV) hco (hgd.trans hg)
    rw [hw, if_pos rfl]
    refine .inl (quiet _ hV hE hA u (by rw [hsi]) ?_)
    rw [aop_congr (fun t ht => hTr t (uses_op ht))]
    exact hany _ (by rw [PM.get_put_same, hob])
  | pure hg u h' ha hcA hcE hr =>
    have hE : ¬ isEff s i := by rintro ⟨V, C, h⟩; rw [hsi] at h; cases h
    have hA : ¬ isAl s i := by rintro ⟨V, C, h⟩; rw [hsi] at h; cases h
    obtain ⟨_, hany⟩ := aop_pure hcA hcE hr ha
    have hw := gd_wanted (mkSim .leaf hleaf) hco (hgd.trans hg)
    rw [hw, if_pos rfl]
    refine .inl (quiet .leaf hleaf hE hA u (by rw [hsi]) ?_)
    rw [aop_congr (fun t ht => hTr t (uses_op ht))]
    exact hany _
end
end Go.Eng
