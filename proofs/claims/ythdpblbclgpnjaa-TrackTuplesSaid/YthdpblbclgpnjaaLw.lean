/- Layer 15: the fixed answers; the law TrackWidens. -/
import Derived.Test.YthdpblbclgpnjaaRv
namespace Tab
open Go Go.Proofs
set_option maxRecDepth 10000
set_option linter.unusedVariables false
set_option linter.unusedSimpArgs false
set_option linter.unusedSectionVars false

def evenD : Den := ⟨.any, [[120]], .any, [false, true, false], .any, [(.any, [1, 2]), (.any, [1, 1]), (.any, [2, 2])]⟩
def wideD : Den := ⟨.any, [[97], [120]], .any, [false, true, false], .any, [(.any, [1, 1, 2, 2]), (.any, [1, 1, 1, 1]), (.any, [2, 2, 2, 2])]⟩

theorem law15_even : Pure Try.prog 14 [] (aDen evenD) := by
  refine Pure.of_read (R := fun o H' => o = .ret (.agg [.hs 1 0 0 1 1, .hs 2 0 0 3 1, .hs 6 0 0 3 1]) ∧ H' = [.cells 0 [.hs 1 0 0 1 1, .hs 2 0 0 3 1, .hs 6 0 0 3 1], .cells 0 [.str [120]], .cells 0 [.bool false, .bool true, .bool false], .cells 0 [.int .i64 1, .int .i64 2], .cells 0 [.int .i64 1, .int .i64 1], .cells 0 [.int .i64 2, .int .i64 2], .cells 0 [.hs 3 0 0 2 1, .hs 4 0 0 2 1, .hs 5 0 0 2 1]])
    (by simp [closeds]) (aDen_closed _) ?_ ?_
  · refine ACall.of_sw 8 Try.func14 rfl Try.ntmps14 (by kernel_rfl) (Nat.le_of_ble_eq_true (by kernel_rfl)) ?_; refine SW.of_vc ?_
    repeat first | refine opsStep ?_ | refine codeStep ?_ | refine drawStep ?_
    refine optX_of (c := [.bool false, .bool true, .bool false]) (by kernel_rfl) ?_
    repeat first | refine opsStep ?_ | refine codeStep ?_ | refine drawStep ?_
    refine optX_of (c := [.int .i64 1, .int .i64 2]) (by kernel_rfl) ?_
    repeat first | refine opsStep ?_ | refine codeStep ?_ | refine drawStep ?_
    refine optX_of (c := [.int .i64 1, .int .i64 1]) (by kernel_rfl) ?_
    repeat first | refine opsStep ?_ | refine codeStep ?_ | refine drawStep ?_
    refine optX_of (c := [.int .i64 2, .int .i64 2]) (by kernel_rfl) ?_
    repeat first | refine opsStep ?_ | refine codeStep ?_ | refine drawStep ?_
    refine optX_of (c := [.hs 3 0 0 2 1, .hs 4 0 0 2 1, .hs 5 0 0 2 1]) (by kernel_rfl) ?_
    repeat first | refine opsStep ?_ | refine codeStep ?_ | refine drawStep ?_
    exact finR (l := [(0, .ref 0 0 0)]) ⟨(by kernel_rfl), trivial⟩ rfl (Ent.refl _ _ _) (by kernel_rfl) ⟨rfl, rfl⟩
  · rintro o H' ⟨rfl, rfl⟩
    exact ⟨_, rfl, .agg (.cons (Rd.whole rfl rfl) (.cons (Rd.whole rfl rfl) (.cons (.hs rfl rfl (by decide) (.cons (Rd.whole rfl rfl) (.cons (Rd.whole rfl rfl) (.cons (Rd.whole rfl rfl) .nil)))) .nil)))⟩

theorem evenD_ok : DenOk evenD := ⟨by decide, by decide, by decide, by decide, by decide⟩
theorem wideD_ok : DenOk wideD := ⟨by decide, by decide, by decide, by decide, by decide⟩

theorem even_widens : widenE evenD [[97], [120]] = 0 := widenE_ok (by kernel_rfl) (by kernel_rfl) (by decide) (by kernel_rfl)
theorem even_wide : sameD (widenR evenD [[97], [120]]) wideD = true := by
  rw [widenR_ok even_widens, sameD_eq]
  kernel_rfl
theorem widenR_ok_den {d : Den} {names : List (List UInt8)} (hd : DenOk d) (hn : names.length * 16 ≤ 140737488351232) (hns : ∀ s ∈ names, s.length ≤ 140737488351232) : DenOk (widenR d names) := by
  rw [widenR]
  split
  · rename_i h
    obtain ⟨_, _, hl, _⟩ := widenE_of_ok h
    refine ⟨hn, hns, hd.accept, ?_, ?_⟩
    · have := hd.next
      simpa [widenD, Den.rows] using this
    · intro r hr
      simp only [widenD, List.mem_map] at hr
      obtain ⟨r, ⟨x, _, rfl⟩, rfl⟩ := hr
      simp only [ovRow_length]
      have : 2 ^ names.length ≤ 2 ^ 6 := Nat.pow_le_pow_right (by omega) hl
      omega
  · exact ⟨by decide, by simp [den0], by decide, by decide, by simp [den0]⟩

theorem law15_fixed : Pure Try.prog 5 [] (.bool true) := by
  have hw := track_Widen_pure .any evenD [[97], [120]] evenD_ok (by decide) (by decide)
  have hok := widenR_ok_den (names := [[97], [120]]) evenD_ok (by decide) (by decide)
  have hsame := even_wide
  rw [even_widens] at hw
  generalize widenR evenD [[97], [120]] = w at *
  have hsd := r12_SameDense w wideD hok wideD_ok
  rw [hsame] at hsd
  refine Pure.of_sw 26 Try.func5 rfl Try.ntmps5 (by kernel_rfl) (Nat.le_of_ble_eq_true (by kernel_rfl)) (by simp [closeds, AV.closed, aSs_closed, aIs_closed, aBs_closed, aRs_closed, aDen_closed]) (by simp [AV.closed, closeds, aSs_closed, aIs_closed, aBs_closed, aRs_closed, aDen_closed]) ?_; refine SW.of_vc ?_
  repeat first | refine opsStep ?_ | refine codeStep ?_ | refine drawStep ?_
  refine callP law15_even ?_
  repeat first | refine opsStep ?_ | refine codeStep ?_ | refine drawStep ?_
  refine optX_of (c := [.str [97], .str [120]]) (by kernel_rfl) ?_
  repeat first | refine opsStep ?_ | refine codeStep ?_ | refine drawStep ?_
  refine callZ 0 (g := 0) (cs := [.str [97], .str [120]]) (by kernel_rfl) hw (.same (.hs (by kernel_rfl) (by kernel_rfl) .nil)) ?_
  repeat first | refine opsStep ?_ | refine codeStep ?_ | refine drawStep ?_
  refine optX_of (c := [.str [97], .str [120]]) (by kernel_rfl) ?_
  repeat first | refine opsStep ?_ | refine codeStep ?_ | refine drawStep ?_
  refine optX_of (c := [.bool false, .bool true, .bool false]) (by kernel_rfl) ?_
  repeat first | refine opsStep ?_ | refine codeStep ?_ | refine drawStep ?_
  refine optX_of (c := [.int .i64 1, .int .i64 1, .int .i64 2, .int .i64 2]) (by kernel_rfl) ?_
  repeat first | refine opsStep ?_ | refine codeStep ?_ | refine drawStep ?_
  refine optX_of (c := [.int .i64 1, .int .i64 1, .int .i64 1, .int .i64 1]) (by kernel_rfl) ?_
  repeat first | refine opsStep ?_ | refine codeStep ?_ | refine drawStep ?_
  refine optX_of (c := [.int .i64 2, .int .i64 2, .int .i64 2, .int .i64 2]) (by kernel_rfl) ?_
  repeat first | refine opsStep ?_ | refine codeStep ?_ | refine drawStep ?_
  refine optX_of (c := [.hs 4 0 0 4 1, .hs 5 0 0 4 1, .hs 6 0 0 4 1]) (by kernel_rfl) ?_
  repeat first | refine opsStep ?_ | refine codeStep ?_ | refine drawStep ?_
  refine callB hsd rfl (.cons (.refl _) (.cons (.agg (.cons (Rd.whole (g := 0) (by kernel_rfl) (by kernel_rfl)) (.cons (Rd.whole (g := 0) (by kernel_rfl) (by kernel_rfl)) (.cons (.hs (blk := .cells 0 [.hs 4 0 0 4 1, .hs 5 0 0 4 1, .hs 6 0 0 4 1]) (g := 0) (cs := [.hs 4 0 0 4 1, .hs 5 0 0 4 1, .hs 6 0 0 4 1]) (by kernel_rfl) (by kernel_rfl) (Nat.le_refl 3) (.cons (Rd.whole (g := 0) (by kernel_rfl) (by kernel_rfl)) (.cons (Rd.whole (g := 0) (by kernel_rfl) (by kernel_rfl)) (.cons (Rd.whole (g := 0) (by kernel_rfl) (by kernel_rfl)) .nil)))) .nil)))) .nil)) ?_
  repeat first | refine opsStep ?_ | refine codeStep ?_ | refine drawStep ?_
  exact finB (b' := true) (by kernel_rfl) rfl

end Tab
