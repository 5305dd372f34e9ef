/- The document's machine over more tracks. -/
import Derived.Test.YthdpblbclgpnjaaWp
namespace Tab
open Go Go.Proofs
set_option maxRecDepth 10000
set_option linter.unusedVariables false
set_option linter.unusedSimpArgs false
set_option linter.unusedSectionVars false

def dig (a p : Nat) : Int := ((a / 2 ^ p % 2 : Nat) : Int)
theorem digN_get : ∀ (n a p : Nat), p < n → (digN a n)[p]? = some (dig a p)
  | n + 1, a, 0, _ => by simp [digN, dig]
  | n + 1, a, p + 1, h => by
    rw [digN, List.getElem?_cons_succ, digN_get n (a / 2) p (by omega)]
    simp only [dig, Nat.pow_succ, Nat.div_div_eq_div_mul, Nat.mul_comm]
theorem letS_dig (a : Nat) : ∀ (pl : List Nat), letS (pl.map (dig a)) = (gatN a pl : Nat)
  | [] => rfl
  | p :: pl => by rw [List.map_cons, letS, letS_dig a pl, gatN, dig]; omega
theorem dig_bit (a p : Nat) : 0 ≤ dig a p ∧ dig a p ≤ 1 := by unfold dig; omega

end Tab
