/- The statement CountJoins holds: whatever tables and number are handed in, the law returns true, and what was handed in reads as it did. No condition. -/
import Derived.Test.YtgadapklmphliaaZ15
import Derived.Test.YtgadapklmphliaaZ17
import Derived.Test.YtgadapklmphliaaRows
set_option linter.unusedVariables false
set_option linter.unusedSimpArgs false
set_option linter.unusedSectionVars false
namespace Go.Proofs.Ytgadapklmphliaa
open Go Go.ChangeShapes Go.WideShapes Go.ChangeAt Go.RowKit Tab
set_option maxRecDepth 100000

theorem countJoins_lifted (os : Os) (started : os.Started) (H : Type) (enc : TypeId × Value → H) :
    ReturnsInHanded {} Try.checked os 10 .any (Rows.countJoinsSpec.pre6 enc Try.prog Try.f10 Rows.countJoinsRow.domain false) (Rows.countJoinsSpec.post enc Try.prog Try.f10 false true false false) := by
  refine row_of_pure (C := Try.checked) (t := 4) own₀ started (by kernel_rfl) Try.func10 laid₀ (by kernel_rfl) (by kernel_rfl) ⟨rfl, fun H ds h => ?_⟩ (by kernel_rfl)
    (ChangeSpec.witness6 (enc := enc) (C := Try.checked) false ⟨#[], #[.agg #[.slice none 0 0, .slice none 0 0, .slice none 0 0, .slice none 0 0], .agg #[.slice none 0 0, .slice none 0 0, .slice none 0 0, .slice none 0 0], .int .i64 0], []⟩ 8 (by kernel_rfl) (by kernel_rfl) (by kernel_rfl) (by kernel_rfl))
    (OpensAll.cons arg_aut (OpensAll.cons arg_aut (OpensAll.cons (OpensArg.int (t := 3) (k := .i64) (by kernel_rfl) (by kernel_rfl)) OpensAll.nil))) noGlobs_all ?_
  · match ds, h with
    | [d1, d2, d3], _ => rfl
  · rintro ⟨a, b, n, _⟩ ⟨h1, h2, _⟩
    have := law_CountJoins (autOf a) (autOf b) n (autOf_ok h1) (autOf_ok h2)
    rw [← autOf_av, ← autOf_av] at this
    exact this

theorem countJoins_holds : Rows.CountJoinsSaid :=
  OpenClaim.holds_of_wide 10 Try.f10 rfl rfl rfl rfl rfl rfl rfl ⟨rfl, rfl, rfl, rfl, rfl⟩ rfl rfl rfl rfl rfl (by kernel_rfl) Try.func10 (by kernel_rfl)
    (of_decide_eq_true (by kernel_rfl)) (by unfold Func.isWrapper; first | (rw [if_pos (by decide +kernel)]; kernel_rfl) | (rw [if_neg (by decide +kernel)]; exact ⟨rfl, rfl⟩))
    (fun os started H enc _ => countJoins_lifted os started H enc)

end Go.Proofs.Ytgadapklmphliaa
