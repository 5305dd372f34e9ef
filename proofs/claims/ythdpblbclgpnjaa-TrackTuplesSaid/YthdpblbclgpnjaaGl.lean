/- Names: which characters they are made of. -/
import Derived.Test.YthdpblbclgpnjaaGi
namespace Tab
open Go Go.Proofs
set_option maxRecDepth 10000
set_option linter.unusedVariables false
set_option linter.unusedSimpArgs false
set_option linter.unusedSectionVars false

def startR (r : Int) : Bool := (decide (65 ≤ r) && decide (r ≤ 90)) || (decide (97 ≤ r) && decide (r ≤ 122)) || decide (r = 95) || (decide (913 ≤ r) && decide (r ≤ 929)) || (decide (931 ≤ r) && decide (r ≤ 937)) || (decide (945 ≤ r) && decide (r ≤ 969))
def restR (r : Int) : Bool := startR r || (decide (48 ≤ r) && decide (r ≤ 57)) || decide (r = 8242) || (decide (8320 ≤ r) && decide (r ≤ 8329))
def resWords : List (List UInt8) := [[97, 110, 100], [111, 114], [110, 111, 116], [101, 120], [97, 108, 108], [109, 111, 100], [116, 114, 117, 101], [102, 97, 108, 115, 101]]
def resS (s : List UInt8) : Bool := decide (s ∈ resWords)

theorem glyph_Start (r : Int) : Pure Try.prog 39 [.int .i32 r] (.bool (startR r)) := by
  refine Pure.of_sw 37 Try.func39 rfl Try.ntmps39 (by kernel_rfl) (Nat.le_of_ble_eq_true (by kernel_rfl)) (by simp [closeds, AV.closed, aSs_closed, aIs_closed, aBs_closed, aRs_closed, aDen_closed]) (by simp [AV.closed, closeds, aSs_closed, aIs_closed, aBs_closed, aRs_closed, aDen_closed]) ?_; refine SW.of_vc ?_
  repeat' first | refine opsStep ?_ | refine codeStep ?_ | refine decB_split (fun h => ?_) (fun h => ?_)
  all_goals exact finB rfl (by simp at *; simp [startR]; omega)

theorem glyph_Rest (r : Int) : Pure Try.prog 40 [.int .i32 r] (.bool (restR r)) := by
  refine Pure.of_sw 25 Try.func40 rfl Try.ntmps40 (by kernel_rfl) (Nat.le_of_ble_eq_true (by kernel_rfl)) (by simp [closeds, AV.closed, aSs_closed, aIs_closed, aBs_closed, aRs_closed, aDen_closed]) (by simp [AV.closed, closeds, aSs_closed, aIs_closed, aBs_closed, aRs_closed, aDen_closed]) ?_; refine SW.of_vc ?_
  repeat first | refine opsStep ?_ | refine codeStep ?_ | refine drawStep ?_
  refine callP (glyph_Start r) ?_
  repeat first | refine opsStep ?_ | refine codeStep ?_ | refine drawStep ?_
  refine decB_split (fun h => ?_) (fun h => ?_)
  · repeat first | refine opsStep ?_ | refine codeStep ?_ | refine drawStep ?_
    exact finB rfl (by simp [restR, h])
  · repeat' first | refine opsStep ?_ | refine codeStep ?_ | refine decB_split (fun h => ?_) (fun h => ?_)
    all_goals exact finB rfl (by simp at *; simp [restR, *]; try omega)

theorem glyph_Reserved (s : List UInt8) : Pure Try.prog 41 [.str s] (.bool (resS s)) := by
  refine Pure.of_sw 13 Try.func41 rfl Try.ntmps41 (by kernel_rfl) (Nat.le_of_ble_eq_true (by kernel_rfl)) (by simp [closeds, AV.closed, aSs_closed, aIs_closed, aBs_closed, aRs_closed, aDen_closed]) (by simp [AV.closed, closeds, aSs_closed, aIs_closed, aBs_closed, aRs_closed, aDen_closed]) ?_; refine SW.of_vc ?_
  repeat first | refine opsStep ?_ | refine codeStep ?_ | refine drawStep ?_
  repeat' first | refine opsStep ?_ | refine codeStep ?_ | refine decB_split (fun h => ?_) (fun h => ?_)
  all_goals exact finB rfl (by simp_all [resS, resWords])

attribute [irreducible] startR restR resS
end Tab
