/- The runs of Build and Export for headings, cut into pieces. -/
import Derived.Test.YtoibclpbkjbnbaaGreatZhB
import Derived.Test.YtoibclpbkjbnbaaGreatEngPH
set_option linter.unusedSimpArgs false
set_option linter.unusedVariables false
set_option linter.unnecessarySimpa false
noncomputable section
namespace Go.Proofs.YtoibclpbkjbnbaaGreat
open Go.Eng
def treeS (l : List AV) : AV := .agg [I 1, I (l.length + 2 : Nat), .psl ([I 1, I 0, I 1, .str [], .nilsl, .nilsl, idsS l] :: num 2 l fun i x => [I i, I 1, I 9, .str [], .psl [attrS x], .nilsl, .nilsl])]
def stS (l : List AV) : AV := .psl (styS 1 :: num 2 l fun i _ => styS i)
def shS (l : List AV) : AV := .psl ([I 1] :: num 2 l fun i _ => [I i])
def T0 (ct : Handler) : Handler := otab ct (otr 10000) 60
theorem T0_ok {ct : Handler} (h : FOk Tryz.prog ct) : FOk Tryz.prog (T0 ct) := otab_ok h (otr_ok 10000) 60
def e37 (L : Nat) : PE := ⟨37, [treeS (gho L)], I 0⟩
def e38 (L : Nat) : PE := ⟨38, [treeS (gho L), stS (gho L)], I 0⟩
def H1 (L : Nat) : PT := .node 38 (.one 37 [e37 L]) (.one 38 [e38 L])
def e95 (L : Nat) : PE := ⟨95, [treeS (gho L), stS (gho L), .nilsl, .nilsl], .bool true⟩
def e15 (L : Nat) : PE := ⟨15, [treeS (gho L), stS (gho L)], shS (gho L)⟩
def H2 (L : Nat) : PT := .node 37 (.one 15 [e15 L]) (.node 38 (.one 37 [e37 L]) (.node 95 (.one 38 [e38 L]) (.one 95 [e95 L])))
def e77 : PE := ⟨77, [], .psl [[.str [110, 111, 110, 101]], [.str [119, 105, 110, 100, 111, 119]], [.str [103, 114, 111, 117, 112]], [.str [116, 101, 120, 116]], [.str [98, 117, 116, 116, 111, 110]], [.str [116, 101, 120, 116, 98, 111, 120]], [.str [105, 109, 97, 103, 101]], [.str [99, 104, 101, 99, 107, 98, 111, 120]], [.str [108, 105, 110, 107]], [.str [115, 99, 114, 111, 108, 108]], [.str [104, 101, 97, 100, 105, 110, 103]], [.str [108, 105, 115, 116]], [.str [105, 116, 101, 109]], [.str [100, 105, 97, 108, 111, 103]], [.str [115, 108, 105, 100, 101, 114]], [.str [115, 116, 97, 116, 117, 115]]]⟩
/-- the facts of the tree -/
def fL (l : List AV) : List AV := [I 1, I (l.length + 2 : Nat), .psl ([I 1, I 0, I 1, .str [], .nilsl, .nilsl, idsS l] :: num 2 l fun i x => [I i, I 1, I 9, .str [], .psl [attrS x], .nilsl, .nilsl]), stS l, shS l, shS l]
def f37 (l : List AV) : AV := .agg (fL l ++ [.nilsl, I 1, shS l])
def e14 (L : Nat) : PE := ⟨14, [treeS (gho L), stS (gho L)], f37 (gho L)⟩
def T1 (L : Nat) : Handler := T0 (orH (pTH L (H2 L)) (gH L [e77]))
def ids (L : Nat) (f : Int → PE) : List PE := (List.range (L + 1)).map fun i => f ((i + 1 : Nat) : Int)
def e18 (L : Nat) (i : Int) : PE := ⟨18, [treeS (gho L), I i], I (cond (Nat.beq i.toNat 1) 1 10)⟩
def e19 (L : Nat) (i : Int) : PE := ⟨19, [.agg (fL (gho L)), shS (gho L), I i], .str []⟩
def e20 (L : Nat) (i : Int) : PE := ⟨20, [.agg (fL (gho L)), shS (gho L), I i], .str []⟩
def e21 (L : Nat) (i : Int) : PE := ⟨21, [f37 (gho L), .nilsl, .nilsl, .agg [I 100, I 100], I 0, I i], I 64⟩
def e22 (L : Nat) (i : Int) : PE := ⟨22, [f37 (gho L), .nilsl, .nilsl, I i], I 0⟩
def Q18 (L : Nat) : Bool := (ids L (e18 L)).all (peOk (T1 L) L)
def H2' (L : Nat) : PT := .node 37 (.node 18 (.one 15 [e15 L]) (.one 18 (ids L (e18 L)))) (.node 38 (.one 37 [e37 L]) (.node 95 (.one 38 [e38 L]) (.one 95 [e95 L])))
def T2 (L : Nat) : Handler := T0 (orH (pTH L (H2' L)) (gH L [e77]))
def Q19 (L : Nat) : Bool := (ids L (e19 L)).all (peOk (T2 L) L)
def Q20 (L : Nat) : Bool := (ids L (e20 L)).all (peOk (T2 L) L)
def Q21 (L : Nat) : Bool := (ids L (e21 L)).all (peOk (T2 L) L)
def Q22 (L : Nat) : Bool := (ids L (e22 L)).all (peOk (T2 L) L)
def Q14 (L : Nat) : Bool := peOk (T2 L) L (e14 L)
def e17 (L : Nat) (i : Int) : PE := ⟨17, [f37 (gho L), I i], I (cond (Nat.beq i.toNat 1) 0 1)⟩
def e24 (L : Nat) (i : Int) : PE := ⟨24, [treeS (gho L), stS (gho L), .nilsl, .nilsl, I i], .agg [I 0, I 0, I 0, I 0]⟩
def e25 (L : Nat) (i : Int) : PE := ⟨25, [f37 (gho L), I i], .nilsl⟩
def Q17 (L : Nat) : Bool := (ids L (e17 L)).all (peOk (T2 L) L)
def Q24 (L : Nat) : Bool := (ids L (e24 L)).all (peOk (T2 L) L)
def Q25 (L : Nat) : Bool := (ids L (e25 L)).all (peOk (T2 L) L)
def H3 (L : Nat) : PT := .node 20 (.node 17 (.node 15 (.one 14 [e14 L]) (.one 15 [e15 L])) (.node 18 (.one 17 (ids L (e17 L))) (.node 19 (.one 18 (ids L (e18 L))) (.one 19 (ids L (e19 L)))))) (.node 24 (.node 21 (.one 20 (ids L (e20 L))) (.node 22 (.one 21 (ids L (e21 L))) (.one 22 (ids L (e22 L))))) (.node 25 (.one 24 (ids L (e24 L))) (.one 25 (ids L (e25 L)))))
def T3 (L : Nat) : Handler := T0 (orH (pTH L (H3 L)) (gH L [e77]))
def e10 (L : Nat) : PE := ⟨10, [treeS (gho L), stS (gho L), .nilsl, .nilsl, .agg [I 100, I 100], .nilsl, I 0], .agg [.psl (accN (gho L)), I 0]⟩
def Q10 (L : Nat) : Bool := geOk (T3 L) L (e10 L)
def okP (L : Nat) : Bool :=
  match T0 (gH L [e10 L]) 6 [viewS (gho L), .nilsl] ⟨.leaf, L⟩ with
  | some (v, h) => match frzF L h 500 v with
    | some u => AV.beq u (scrS (gho L))
    | none => false
  | none => false
def AllOk (L : Nat) : Prop := (geOk (T0 noH) L e77) = true ∧ (peOk (T0 noH) L (e37 L)) = true ∧ (peOk (T0 noH) L (e38 L)) = true ∧ (peOk (T0 (pTH L (H1 L))) L (e95 L)) = true ∧ (peOk (T0 (pTH L (H1 L))) L (e15 L)) = true ∧ Q14 L = true ∧ Q17 L = true ∧ Q18 L = true ∧ Q19 L = true ∧ Q20 L = true ∧ Q21 L = true ∧ Q22 L = true ∧ Q24 L = true ∧ Q25 L = true ∧ Q10 L = true ∧ okP L = true
end Go.Proofs.YtoibclpbkjbnbaaGreat
end
