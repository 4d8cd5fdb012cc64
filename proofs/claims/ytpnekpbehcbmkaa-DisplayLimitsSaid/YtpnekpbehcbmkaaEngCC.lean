/- Arguments that are read: integers, truths, strings, structures of these, slices of these. -/
import Derived.Test.YtpnekpbehcbmkaaEngBB
import Derived.ChangeArms
import Derived.ChangeSame
set_option linter.unusedSimpArgs false
set_option linter.unusedVariables false
set_option linter.unnecessarySimpa false
noncomputable section
namespace Go.Eng
open Go.RowKit
inductive SH where
  | int (k : IntKind)
  | bool
  | str
  | sl (e : List SH)

mutual
inductive HasSh : AV → SH → Prop where
  | int (k : IntKind) (n : Int) (h : (Lit.int k n).wf = true) : HasSh (.int k n) (.int k)
  | bool (b : Bool) : HasSh (.bool b) .bool
  | str (s : List UInt8) (h : s.length ≤ maxLen) : HasSh (.str s) .str
  | sl (xs : List (List AV)) (e : List SH) (h : xs.length ≤ maxLen) (hx : ∀ x ∈ xs, HasShL x e) : HasSh (.psl xs) (.sl e)
inductive HasShL : List AV → List SH → Prop where
  | nil : HasShL [] []
  | cons (a : AV) (s : SH) (ar : List AV) (ss : List SH) (h : HasSh a s) (hs : HasShL ar ss) : HasShL (a :: ar) (s :: ss)
end
theorem HasShL.len : ∀ {ar : List AV} {ss : List SH}, HasShL ar ss → ar.length = ss.length
  | _, _, .nil => rfl
  | _, _, .cons _ _ _ _ _ hs => by simp [hs.len]
theorem HasShL.append : ∀ {ar bs : List AV} {ss ts : List SH}, HasShL ar ss → HasShL bs ts → HasShL (ar ++ bs) (ss ++ ts)
  | _, _, _, _, .nil, k => k
  | _, _, _, _, .cons a s ar ss h hs, k => .cons a s _ _ h (hs.append k)

section
variable {H : Type} {enc : TypeId × Value → H} {P : Program} {w : World} {spare : Nat → Bool} {held : Bool} {L : Nat → Prop}
end
end Go.Eng
end
