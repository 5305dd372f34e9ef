/- The statement TrackMeans holds: whatever machine, names and words are handed in, the law returns true, and what was handed in reads as it did. No condition. -/
import Derived.Test.YtbglkpnchafdpaaZ10
import Derived.Test.YtbglkpnchafdpaaZ12
import Derived.Test.YtbglkpnchafdpaaRows
set_option linter.unusedVariables false
set_option linter.unusedSimpArgs false
set_option linter.unusedSectionVars false
namespace Go.Proofs.Ytbglkpnchafdpaa
open Go Go.ChangeShapes Go.WideShapes Go.ChangeAt Go.RowKit Tab
set_option maxRecDepth 100000

theorem arg_rows : OpensArg Try.prog 24 (SK × List (SK × List Int)) (fun x => .sl x.1 x.2.length (x.2.flatMap fun x => [.sl x.1 x.2.length (x.2.flatMap fun s => [.int .i64 s])])) okRows :=
  .slice (e := 34) (by kernel_rfl) (by kernel_rfl) (fun _ => (by kernel_rfl)) (Nat.le_of_ble_eq_true (by kernel_rfl)) opens_ints
theorem rows_ok {x : SK × List (SK × List Int)} (h : okRows x) : x.2.length * 24 ≤ 140737488351232 ∧ ∀ v ∈ x.2, v.2.length * 8 ≤ 140737488351232 := by
  have e3 : Try.prog.bytesOf 3 = 8 := (by kernel_rfl)
  have e4 : Try.prog.bytesOf 34 = 24 := (by kernel_rfl)
  have er : reachBytes = 140737488351232 := (by kernel_rfl)
  obtain ⟨_, h1, h2⟩ := h
  rw [e4, er] at h2
  refine ⟨h2, fun v hv => ?_⟩
  have := (h1 v hv).2.2
  rw [e3, er] at this
  exact this

theorem trackMeans_lifted (os : Os) (started : os.Started) (H : Type) (enc : TypeId × Value → H) :
    ReturnsInHanded {} Try.checked os 3 .any (Rows.trackMeansSpec.pre6 enc Try.prog Try.f3 Rows.trackMeansRow.domain false) (Rows.trackMeansSpec.post enc Try.prog Try.f3 false true false false) := by
  refine row_of_pure (C := Try.checked) (t := 4) own₀ started (by kernel_rfl) Try.func3 laid₀ (by kernel_rfl) (by kernel_rfl) ⟨rfl, fun H ds h => ?_⟩ (by kernel_rfl)
    (ChangeSpec.witness6 (enc := enc) (C := Try.checked) false ⟨#[], #[.agg #[.slice none 0 0, .slice none 0 0, .slice none 0 0], .slice none 0 0, .slice none 0 0], []⟩ 8 (by kernel_rfl) (by kernel_rfl) (by kernel_rfl) (by kernel_rfl))
    (OpensAll.cons arg_den (OpensAll.cons arg_strs (OpensAll.cons arg_rows OpensAll.nil))) noGlobs_all ?_
  · match ds, h with
    | [d1, d2, d3], _ => rfl
  · rintro ⟨d, s, v, _⟩ ⟨h1, h2, h3, _⟩
    have hs := strs_ok h2
    have hv := rows_ok h3
    have := law_TrackMeans s.1 v.1 (denOf d) s.2 v.2 (denOf_ok h1) hs.1 hs.2 hv.1 hv.2
    rw [← denOf_av] at this
    simp only [fm_map]
    exact this

theorem trackMeans_holds : Rows.TrackMeansSaid :=
  OpenClaim.holds_of_wide 3 Try.f3 rfl rfl rfl rfl rfl rfl rfl ⟨rfl, rfl, rfl, rfl, rfl⟩ rfl rfl rfl rfl rfl (by kernel_rfl) Try.func3 (by kernel_rfl)
    (of_decide_eq_true (by kernel_rfl)) (by unfold Func.isWrapper; first | (rw [if_pos (by decide +kernel)]; kernel_rfl) | (rw [if_neg (by decide +kernel)]; exact ⟨rfl, rfl⟩))
    (fun os started H enc _ => trackMeans_lifted os started H enc)

end Go.Proofs.Ytbglkpnchafdpaa
