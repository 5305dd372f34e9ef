/- The document's names in order. -/
import Derived.Test.YthdpblbclgpnjaaSf
namespace Tab
open Go Go.Proofs
set_option maxRecDepth 10000
set_option linter.unusedVariables false
set_option linter.unusedSimpArgs false
set_option linter.unusedSectionVars false

/-- A round of 'put': what is there, and what is still to come. -/
def PutInv (x : List UInt8) (l : List (List UInt8)) (i : Nat) (dn : Bool) (out : List (List UInt8)) : Prop :=
  putS x l = out ++ (if dn = true then l.drop i else putS x (l.drop i)) ∧ out.length ≤ 2 * i

theorem putS_le (x : List UInt8) : ∀ (l : List (List UInt8)), (putS x l).length ≤ l.length + 1
  | [] => by simp [putS]
  | z :: l => by
    have := putS_le x l
    rw [putS]
    split
    · split <;> simp
    · simp; exact this

end Tab
