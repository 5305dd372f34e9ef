/- The statement CountLists holds: whatever table and number are handed in, the law returns true, and what was handed in reads as it did. No condition. -/
import Derived.Test.YtgadapklmphliaaZ14
import Derived.Test.YtgadapklmphliaaZ16
import Derived.Test.YtgadapklmphliaaRows
set_option linter.unusedVariables false
set_option linter.unusedSimpArgs false
set_option linter.unusedSectionVars false
namespace Go.Proofs.Ytgadapklmphliaa
open Go Go.ChangeShapes Go.WideShapes Go.ChangeAt Go.RowKit Tab
set_option maxRecDepth 100000

theorem countLists_lifted (os : Os) (started : os.Started) (H : Type) (enc : TypeId × Value → H) :
    ReturnsInHanded {} Try.checked os 6 .any (Rows.countListsSpec.pre6 enc Try.prog Try.f6 Rows.countListsRow.domain false) (Rows.countListsSpec.post enc Try.prog Try.f6 false true false false) := by
  refine row_of_pure (C := Try.checked) (t := 4) own₀ started (by kernel_rfl) Try.func6 laid₀ (by kernel_rfl) (by kernel_rfl) ⟨rfl, fun H ds h => ?_⟩ (by kernel_rfl)
    (ChangeSpec.witness6 (enc := enc) (C := Try.checked) false ⟨#[], #[.agg #[.slice none 0 0, .slice none 0 0, .slice none 0 0, .slice none 0 0], .int .i64 0], []⟩ 8 (by kernel_rfl) (by kernel_rfl) (by kernel_rfl) (by kernel_rfl))
    (OpensAll.cons arg_aut (OpensAll.cons (OpensArg.int (t := 3) (k := .i64) (by kernel_rfl) (by kernel_rfl)) OpensAll.nil)) noGlobs_all ?_
  · match ds, h with
    | [d1, d2], _ => rfl
  · rintro ⟨a, n, _⟩ ⟨h1, _⟩
    have := law_CountLists (autOf a) n (autOf_ok h1)
    rw [← autOf_av] at this
    exact this

theorem countLists_holds : Rows.CountListsSaid :=
  OpenClaim.holds_of_wide 6 Try.f6 rfl rfl rfl rfl rfl rfl rfl ⟨rfl, rfl, rfl, rfl, rfl⟩ rfl rfl rfl rfl rfl (by kernel_rfl) Try.func6 (by kernel_rfl)
    (of_decide_eq_true (by kernel_rfl)) (by unfold Func.isWrapper; first | (rw [if_pos (by decide +kernel)]; kernel_rfl) | (rw [if_neg (by decide +kernel)]; exact ⟨rfl, rfl⟩))
    (fun os started H enc _ => countLists_lifted os started H enc)

end Go.Proofs.Ytgadapklmphliaa
