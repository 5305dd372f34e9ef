/- A machine's copy, widened. -/
import Derived.Test.YthdpblbclgpnjaaCp
import Derived.Test.YthdpblbclgpnjaaLw
namespace Tab
open Go Go.Proofs
set_option maxRecDepth 10000
set_option linter.unusedVariables false
set_option linter.unusedSimpArgs false
set_option linter.unusedSectionVars false

theorem copyD_widenE (d : Den) (names) : widenE (copyD d) names = widenE d names := by
  rw [widenE, widenE, copyD_right]; rfl
theorem copyD_widenD (d : Den) (names) : widenD (copyD d) names = widenD d names := by
  rw [widenD, widenD, copyD_rows]; rfl
theorem copyD_widenR (d : Den) (names) : widenR (copyD d) names = widenR d names := by
  rw [widenR, widenR, copyD_widenE, copyD_widenD]

end Tab
