/- A machine's copy. -/
import Derived.Test.YthdpblbclgpnjaaCd
import Derived.Test.YthdpblbclgpnjaaWd
namespace Tab
open Go Go.Proofs
set_option maxRecDepth 10000
set_option linter.unusedVariables false
set_option linter.unusedSimpArgs false
set_option linter.unusedSectionVars false

theorem copyD_rows (d : Den) : (copyD d).rows = d.rows := by simp [copyD, Den.rows, Function.comp_def]
theorem copyD_ok {d : Den} (hd : DenOk d) : DenOk (copyD d) := by
  refine ⟨hd.tracks, hd.names, hd.accept, ?_, ?_⟩
  · have := hd.next
    simpa [copyD, Den.rows] using this
  · intro r hr
    simp only [copyD, Den.rows, List.mem_map] at hr
    obtain ⟨x, ⟨y, hy, rfl⟩, rfl⟩ := hr
    exact hd.rows y hy
theorem copyD_right (d : Den) : rightS (copyD d) = rightS d := by
  simp only [rightS, copyD, Den.rows, List.length_map, List.all_map, Function.comp_def]
theorem copyD_same (d : Den) : sameD (copyD d) d = true := by
  rw [sameD_eq, copyD_rows]; simp [copyD]
theorem sameD_refl (d : Den) : sameD d d = true := by rw [sameD_eq]; simp

theorem den0_ok : DenOk den0 := ⟨by decide, by simp [den0], by decide, by decide, by simp [den0]⟩


end Tab
