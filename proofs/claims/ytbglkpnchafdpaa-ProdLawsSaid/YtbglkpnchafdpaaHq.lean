/- The statement ProdLaws holds: whatever machines are handed in, the law returns true, and what was handed in reads as it did. No condition. -/
import Derived.Test.YtbglkpnchafdpaaZ13
import Derived.Test.YtbglkpnchafdpaaZ15
import Derived.Test.YtbglkpnchafdpaaRows
set_option linter.unusedVariables false
set_option linter.unusedSimpArgs false
set_option linter.unusedSectionVars false
namespace Go.Proofs.Ytbglkpnchafdpaa
open Go Go.ChangeShapes Go.WideShapes Go.ChangeAt Go.RowKit Tab
set_option maxRecDepth 100000

theorem prodLaws_lifted (os : Os) (started : os.Started) (H : Type) (enc : TypeId × Value → H) :
    ReturnsInHanded {} Try.checked os 6 .any (Rows.prodLawsSpec.pre6 enc Try.prog Try.f6 Rows.prodLawsRow.domain false) (Rows.prodLawsSpec.post enc Try.prog Try.f6 false true false false) := by
  refine row_of_pure (C := Try.checked) (t := 4) own₀ started (by kernel_rfl) Try.func6 laid₀ (by kernel_rfl) (by kernel_rfl) ⟨rfl, fun H ds h => ?_⟩ (by kernel_rfl)
    (ChangeSpec.witness6 (enc := enc) (C := Try.checked) false ⟨#[], #[.agg #[.slice none 0 0, .slice none 0 0, .slice none 0 0], .agg #[.slice none 0 0, .slice none 0 0, .slice none 0 0]], []⟩ 8 (by kernel_rfl) (by kernel_rfl) (by kernel_rfl) (by kernel_rfl))
    (OpensAll.cons arg_den (OpensAll.cons arg_den OpensAll.nil)) noGlobs_all ?_
  · match ds, h with
    | [d1, d2], _ => rfl
  · rintro ⟨d, e, _⟩ ⟨h1, h2, _⟩
    have := law_ProdLaws (denOf d) (denOf e) (denOf_ok h1) (denOf_ok h2)
    rw [← denOf_av, ← denOf_av] at this
    exact this

theorem prodLaws_holds : Rows.ProdLawsSaid :=
  OpenClaim.holds_of_wide 6 Try.f6 rfl rfl rfl rfl rfl rfl rfl ⟨rfl, rfl, rfl, rfl, rfl⟩ rfl rfl rfl rfl rfl (by kernel_rfl) Try.func6 (by kernel_rfl)
    (of_decide_eq_true (by kernel_rfl)) (by unfold Func.isWrapper; first | (rw [if_pos (by decide +kernel)]; kernel_rfl) | (rw [if_neg (by decide +kernel)]; exact ⟨rfl, rfl⟩))
    (fun os started H enc _ => prodLaws_lifted os started H enc)

end Go.Proofs.Ytbglkpnchafdpaa
