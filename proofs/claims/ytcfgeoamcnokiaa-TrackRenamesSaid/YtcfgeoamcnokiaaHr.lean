/- The statement TrackRenames holds: whatever machine and names are handed in, the law returns true, and what was handed in reads as it did. No condition. -/
import Derived.Test.YtcfgeoamcnokiaaRl
import Derived.Test.YtcfgeoamcnokiaaOd
import Derived.Test.YtcfgeoamcnokiaaRows
set_option linter.unusedVariables false
set_option linter.unusedSimpArgs false
set_option linter.unusedSectionVars false
namespace Go.Proofs.Ytcfgeoamcnokiaa
open Go Go.ChangeShapes Go.WideShapes Go.ChangeAt Go.RowKit Tab
set_option maxRecDepth 100000

theorem trackRenames_lifted (os : Os) (started : os.Started) (H : Type) (enc : TypeId × Value → H) :
    ReturnsInHanded {} Try.checked os 3 .any (Rows.trackRenamesSpec.pre6 enc Try.prog Try.f3 Rows.trackRenamesRow.domain false) (Rows.trackRenamesSpec.post enc Try.prog Try.f3 false true false false) := by
  refine row_of_pure (C := Try.checked) (t := 4) own₀ started (by kernel_rfl) Try.func3 laid₀ (by kernel_rfl) (by kernel_rfl) ⟨rfl, fun H ds h => ?_⟩ (by kernel_rfl)
    (ChangeSpec.witness6 (enc := enc) (C := Try.checked) false ⟨#[], #[.agg #[.slice none 0 0, .slice none 0 0, .slice none 0 0], .slice none 0 0, .slice none 0 0], []⟩ 8 (by kernel_rfl) (by kernel_rfl) (by kernel_rfl) (by kernel_rfl))
    (OpensAll.cons arg_den (OpensAll.cons arg_strs (OpensAll.cons arg_strs OpensAll.nil))) ?_
  · match ds, h with
    | [d1, d2, d3], _ => rfl
  · rintro ⟨d, s, s', _⟩ ⟨h1, h2, h3, _⟩
    have hs := strs_ok h2
    have hs' := strs_ok h3
    have := law_TrackRenames s.1 s'.1 (denOf d) s.2 s'.2 (denOf_ok h1) hs.1 hs'.1 hs'.2
    rw [← denOf_av] at this
    simp only [fm_map]
    exact this

theorem trackRenames_holds : Rows.TrackRenamesSaid :=
  OpenClaim.holds_of_wide 3 Try.f3 rfl rfl rfl rfl rfl rfl rfl ⟨rfl, rfl, rfl, rfl, rfl⟩ rfl rfl rfl rfl rfl (by kernel_rfl) Try.func3 (by kernel_rfl)
    (of_decide_eq_true (by kernel_rfl)) (by unfold Func.isWrapper; first | (rw [if_pos (by decide +kernel)]; kernel_rfl) | (rw [if_neg (by decide +kernel)]; exact ⟨rfl, rfl⟩))
    (fun os started H enc _ => trackRenames_lifted os started H enc)

end Go.Proofs.Ytcfgeoamcnokiaa
