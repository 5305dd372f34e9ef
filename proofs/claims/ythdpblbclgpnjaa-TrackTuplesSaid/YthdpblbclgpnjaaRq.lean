/- Rename, of the document. -/
import Derived.Test.YthdpblbclgpnjaaRo
namespace Tab
open Go Go.Proofs
set_option maxRecDepth 10000
set_option linter.unusedVariables false
set_option linter.unusedSimpArgs false
set_option linter.unusedSectionVars false

theorem tw_bad {l : List (List UInt8)} {i : Nat} (hi : i < l.length) (h : l.idxOf l[i] ≠ i) : twS l = true := by
  rw [twS, List.any_eq_true]
  refine ⟨i, List.mem_range.2 hi, ?_⟩
  simp [List.getD_eq_getElem?_getD, hi, h]
theorem tw_ok {l : List (List UInt8)} (h : ∀ j, j < l.length → l.idxOf (l.getD j []) = j) : twS l = false := by
  rw [twS, List.any_eq_false]
  intro j hj
  rw [h j (List.mem_range.1 hj), decide_eq_true rfl]
  simp

end Tab
