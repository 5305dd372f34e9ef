/- The statement CompareApart holds: whatever two tables are handed in, the law returns true, and what was handed in reads as it did. No condition. -/
import Derived.Test.YtgadapklmphliaaGreatZ13
import Derived.Test.YtgadapklmphliaaGreatZ15
import Derived.Test.YtgadapklmphliaaGreatRows
set_option linter.unusedVariables false
set_option linter.unusedSimpArgs false
set_option linter.unusedSectionVars false
namespace Go.Proofs.YtgadapklmphliaaGreat
open Go Go.ChangeShapes Go.WideShapes Go.ChangeAt Go.RowKit Tab
set_option maxRecDepth 100000

theorem compareApart_lifted (os : Os) (started : os.Started) (H : Type) (enc : TypeId × Value → H) :
    ReturnsInHanded {} Tryz.checked os 3 .any (Rows.compareApartSpec.pre6 enc Tryz.prog Tryz.f3 Rows.compareApartRow.domain false) (Rows.compareApartSpec.post enc Tryz.prog Tryz.f3 false true false false) := by
  refine row_of_pure (C := Tryz.checked) (t := 4) own₀ started (by kernel_rfl) Tryz.func3 laid₀ (by kernel_rfl) (by kernel_rfl) ⟨rfl, fun H ds h => ?_⟩ (by kernel_rfl)
    (ChangeSpec.witness6 (enc := enc) (C := Tryz.checked) false ⟨#[], #[.agg #[.slice none 0 0, .slice none 0 0, .slice none 0 0, .slice none 0 0], .agg #[.slice none 0 0, .slice none 0 0, .slice none 0 0, .slice none 0 0]], []⟩ 8 (by kernel_rfl) (by kernel_rfl) (by kernel_rfl) (by kernel_rfl))
    (OpensAll.cons arg_aut (OpensAll.cons arg_aut OpensAll.nil)) noGlobs_all ?_
  · match ds, h with
    | [d1, d2], _ => rfl
  · rintro ⟨a, b, _⟩ ⟨h1, h2, _⟩
    have := law_CompareApart (autOf a) (autOf b) (autOf_ok h1) (autOf_ok h2)
    rw [← autOf_av, ← autOf_av] at this
    exact this

theorem compareApart_holds : Rows.CompareApartSaid :=
  OpenClaim.holds_of_wide 3 Tryz.f3 rfl rfl rfl rfl rfl rfl rfl ⟨rfl, rfl, rfl, rfl, rfl⟩ rfl rfl rfl rfl rfl (by kernel_rfl) Tryz.func3 (by kernel_rfl)
    (of_decide_eq_true (by kernel_rfl)) (by unfold Func.isWrapper; first | (rw [if_pos (by decide +kernel)]; kernel_rfl) | (rw [if_neg (by decide +kernel)]; exact ⟨rfl, rfl⟩))
    (fun os started H enc _ => compareApart_lifted os started H enc)

end Go.Proofs.YtgadapklmphliaaGreat
