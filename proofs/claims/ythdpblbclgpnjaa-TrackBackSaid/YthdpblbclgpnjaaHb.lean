/- The statement TrackBack holds: whatever machine and names are handed in, the law returns true, and what was handed in reads as it did. No condition. -/
import Derived.Test.YthdpblbclgpnjaaTb
import Derived.Test.YthdpblbclgpnjaaOd
import Derived.Test.YthdpblbclgpnjaaRows
set_option linter.unusedVariables false
set_option linter.unusedSimpArgs false
set_option linter.unusedSectionVars false
namespace Go.Proofs.Ythdpblbclgpnjaa
open Go Go.ChangeShapes Go.WideShapes Go.ChangeAt Go.RowKit Tab
set_option maxRecDepth 100000

theorem trackBack_lifted (os : Os) (started : os.Started) (H : Type) (enc : TypeId × Value → H) :
    ReturnsInHanded {} Try.checked os 3 .any (Rows.trackBackSpec.pre6 enc Try.prog Try.f3 Rows.trackBackRow.domain false) (Rows.trackBackSpec.post enc Try.prog Try.f3 false true false false) := by
  refine row_of_pure (C := Try.checked) (t := 4) own₀ started (by kernel_rfl) Try.func3 laid₀ (by kernel_rfl) (by kernel_rfl) ⟨rfl, fun H ds h => ?_⟩ (by kernel_rfl)
    (ChangeSpec.witness6 (enc := enc) (C := Try.checked) false ⟨#[], #[.agg #[.slice none 0 0, .slice none 0 0, .slice none 0 0], .slice none 0 0, .slice none 0 0, .slice none 0 0, .slice none 0 0], []⟩ 8 (by kernel_rfl) (by kernel_rfl) (by kernel_rfl) (by kernel_rfl))
    (OpensAll.cons arg_den (OpensAll.cons arg_strs (OpensAll.cons arg_strs (OpensAll.cons arg_strs (OpensAll.cons arg_strs OpensAll.nil))))) noGlobs_all ?_
  · match ds, h with
    | [d1, d2, d3, d4, d5], _ => rfl
  · rintro ⟨d, s1, s2, s3, s4, _⟩ ⟨h0, h1, h2, h3, h4, _⟩
    have hs1 := strs_ok h1
    have hs2 := strs_ok h2
    have hs3 := strs_ok h3
    have hs4 := strs_ok h4
    have := law_TrackBack s1.1 s2.1 s3.1 s4.1 (denOf d) s1.2 s2.2 s3.2 s4.2 (denOf_ok h0) hs1.1 hs2.1 hs3.1 hs4.1 hs1.2 hs2.2 hs3.2 hs4.2
    rw [← denOf_av] at this
    simp only [fm_map]
    exact this

theorem trackBack_holds : Rows.TrackBackSaid :=
  OpenClaim.holds_of_wide 3 Try.f3 rfl rfl rfl rfl rfl rfl rfl ⟨rfl, rfl, rfl, rfl, rfl⟩ rfl rfl rfl rfl rfl (by kernel_rfl) Try.func3 (by kernel_rfl)
    (of_decide_eq_true (by kernel_rfl)) (by unfold Func.isWrapper; first | (rw [if_pos (by decide +kernel)]; kernel_rfl) | (rw [if_neg (by decide +kernel)]; exact ⟨rfl, rfl⟩))
    (fun os started H enc _ => trackBack_lifted os started H enc)

end Go.Proofs.Ythdpblbclgpnjaa
