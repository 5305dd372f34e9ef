/- The statement CompareWithin holds: whatever two tables are handed in, the law returns true, and what was handed in reads as it did. No condition. -/
import Derived.Test.YtgadapklmphliaaGreatZ13
import Derived.Test.YtgadapklmphliaaGreatZ15
import Derived.Test.YtgadapklmphliaaGreatRows
set_option linter.unusedVariables false
set_option linter.unusedSimpArgs false
set_option linter.unusedSectionVars false
namespace Go.Proofs.YtgadapklmphliaaGreat
open Go Go.ChangeShapes Go.WideShapes Go.ChangeAt Go.RowKit Tab
set_option maxRecDepth 100000

theorem compareWithin_lifted (os : Os) (started : os.Started) (H : Type) (enc : TypeId × Value → H) :
    ReturnsInHanded {} Tryz.checked os 4 .any (Rows.compareWithinSpec.pre6 enc Tryz.prog Tryz.f4 Rows.compareWithinRow.domain false) (Rows.compareWithinSpec.post enc Tryz.prog Tryz.f4 false true false false) := by
  refine row_of_pure (C := Tryz.checked) (t := 4) own₀ started (by kernel_rfl) Tryz.func4 laid₀ (by kernel_rfl) (by kernel_rfl) ⟨rfl, fun H ds h => ?_⟩ (by kernel_rfl)
    (ChangeSpec.witness6 (enc := enc) (C := Tryz.checked) false ⟨#[], #[.agg #[.slice none 0 0, .slice none 0 0, .slice none 0 0, .slice none 0 0], .agg #[.slice none 0 0, .slice none 0 0, .slice none 0 0, .slice none 0 0]], []⟩ 8 (by kernel_rfl) (by kernel_rfl) (by kernel_rfl) (by kernel_rfl))
    (OpensAll.cons arg_aut (OpensAll.cons arg_aut OpensAll.nil)) noGlobs_all ?_
  · match ds, h with
    | [d1, d2], _ => rfl
  · rintro ⟨a, b, _⟩ ⟨h1, h2, _⟩
    have := law_CompareWithin (autOf a) (autOf b) (autOf_ok h1) (autOf_ok h2)
    rw [← autOf_av, ← autOf_av] at this
    exact this

theorem compareWithin_holds : Rows.CompareWithinSaid :=
  OpenClaim.holds_of_wide 4 Tryz.f4 rfl rfl rfl rfl rfl rfl rfl ⟨rfl, rfl, rfl, rfl, rfl⟩ rfl rfl rfl rfl rfl (by kernel_rfl) Tryz.func4 (by kernel_rfl)
    (of_decide_eq_true (by kernel_rfl)) (by unfold Func.isWrapper; first | (rw [if_pos (by decide +kernel)]; kernel_rfl) | (rw [if_neg (by decide +kernel)]; exact ⟨rfl, rfl⟩))
    (fun os started H enc _ => compareWithin_lifted os started H enc)

end Go.Proofs.YtgadapklmphliaaGreat
