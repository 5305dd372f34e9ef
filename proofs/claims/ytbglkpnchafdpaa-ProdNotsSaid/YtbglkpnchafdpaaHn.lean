/- The statement ProdNots holds: whatever machine is handed in, the law returns true, and what was handed in reads as it did. No condition. -/
import Derived.Test.YtbglkpnchafdpaaZ12
import Derived.Test.YtbglkpnchafdpaaZ14
import Derived.Test.YtbglkpnchafdpaaRows
set_option linter.unusedVariables false
set_option linter.unusedSimpArgs false
set_option linter.unusedSectionVars false
namespace Go.Proofs.Ytbglkpnchafdpaa
open Go Go.ChangeShapes Go.WideShapes Go.ChangeAt Go.RowKit Tab
set_option maxRecDepth 100000

theorem prodNots_lifted (os : Os) (started : os.Started) (H : Type) (enc : TypeId × Value → H) :
    ReturnsInHanded {} Try.checked os 4 .any (Rows.prodNotsSpec.pre6 enc Try.prog Try.f4 Rows.prodNotsRow.domain false) (Rows.prodNotsSpec.post enc Try.prog Try.f4 false true false false) := by
  refine row_of_pure (C := Try.checked) (t := 4) own₀ started (by kernel_rfl) Try.func4 laid₀ (by kernel_rfl) (by kernel_rfl) ⟨rfl, fun H ds h => ?_⟩ (by kernel_rfl)
    (ChangeSpec.witness6 (enc := enc) (C := Try.checked) false ⟨#[], #[.agg #[.slice none 0 0, .slice none 0 0, .slice none 0 0]], []⟩ 8 (by kernel_rfl) (by kernel_rfl) (by kernel_rfl) (by kernel_rfl))
    (OpensAll.cons arg_den OpensAll.nil) noGlobs_all ?_
  · match ds, h with
    | [d1], _ => rfl
  · rintro ⟨d, _⟩ ⟨h1, _⟩
    have := law_ProdNots (denOf d) (denOf_ok h1)
    rw [← denOf_av] at this
    simp only [fm_map]
    exact this

theorem prodNots_holds : Rows.ProdNotsSaid :=
  OpenClaim.holds_of_wide 4 Try.f4 rfl rfl rfl rfl rfl rfl rfl ⟨rfl, rfl, rfl, rfl, rfl⟩ rfl rfl rfl rfl rfl (by kernel_rfl) Try.func4 (by kernel_rfl)
    (of_decide_eq_true (by kernel_rfl)) (by unfold Func.isWrapper; first | (rw [if_pos (by decide +kernel)]; kernel_rfl) | (rw [if_neg (by decide +kernel)]; exact ⟨rfl, rfl⟩))
    (fun os started H enc _ => prodNots_lifted os started H enc)

end Go.Proofs.Ytbglkpnchafdpaa
