/- The statement TrackTuples holds: whatever machine and names are handed in, the law returns true, and what was handed in reads as it did. No condition. -/
import Derived.Test.YthdpblbclgpnjaaTt
import Derived.Test.YthdpblbclgpnjaaOd
import Derived.Test.YthdpblbclgpnjaaRows
set_option linter.unusedVariables false
set_option linter.unusedSimpArgs false
set_option linter.unusedSectionVars false
namespace Go.Proofs.Ythdpblbclgpnjaa
open Go Go.ChangeShapes Go.WideShapes Go.ChangeAt Go.RowKit Tab
set_option maxRecDepth 100000

abbrev I64sX := SK × List Int
abbrev okI64s : I64sX → Prop := okSl (Try.prog.bytesOf 2) (fun n => (Lit.int .i64 n).wf = true)
theorem arg_i64s : OpensArg Try.prog 36 I64sX (fun x => .sl x.1 x.2.length (x.2.flatMap fun s => [.int .i64 s])) okI64s :=
  .slice (e := 2) (by kernel_rfl) (by kernel_rfl) (fun _ => (by kernel_rfl)) (Nat.le_of_ble_eq_true (by kernel_rfl)) (.int (by kernel_rfl) (by kernel_rfl))
theorem i64s_ok {x : I64sX} (h : okI64s x) : x.2.length * 8 ≤ 140737488351232 ∧ ∀ v ∈ x.2, -(2^63) ≤ v ∧ v < 2^63 := by
  have e1 : Try.prog.bytesOf 2 = 8 := (by kernel_rfl)
  have er : reachBytes = 140737488351232 := (by kernel_rfl)
  obtain ⟨_, h1, h2⟩ := h
  rw [e1, er] at h2
  refine ⟨h2, fun v hv => ?_⟩
  have h3 : (Lit.int .i64 v).wf = true := h1 v hv
  simp only [Lit.wf, Bool.and_eq_true, decide_eq_true_eq, show IntKind.i64.min = -9223372036854775808 from rfl, show IntKind.i64.max = 9223372036854775807 from rfl] at h3
  omega

theorem trackTuples_lifted (os : Os) (started : os.Started) (H : Type) (enc : TypeId × Value → H) :
    ReturnsInHanded {} Try.checked os 4 .any (Rows.trackTuplesSpec.pre6 enc Try.prog Try.f4 Rows.trackTuplesRow.domain false) (Rows.trackTuplesSpec.post enc Try.prog Try.f4 false true false false) := by
  refine row_of_pure (C := Try.checked) (t := 4) own₀ started (by kernel_rfl) Try.func4 laid₀ (by kernel_rfl) (by kernel_rfl) ⟨rfl, fun H ds h => ?_⟩ (by kernel_rfl)
    (ChangeSpec.witness6 (enc := enc) (C := Try.checked) false ⟨#[], #[.agg #[.slice none 0 0, .slice none 0 0, .slice none 0 0], .slice none 0 0, .slice none 0 0, .slice none 0 0], []⟩ 8 (by kernel_rfl) (by kernel_rfl) (by kernel_rfl) (by kernel_rfl))
    (OpensAll.cons arg_den (OpensAll.cons arg_strs (OpensAll.cons arg_strs (OpensAll.cons arg_i64s OpensAll.nil)))) noGlobs_all ?_
  · match ds, h with
    | [d1, d2, d3, d4], _ => rfl
  · rintro ⟨d, s, s', v, _⟩ ⟨h1, h2, h3, h4, _⟩
    have hs := strs_ok h2
    have hs' := strs_ok h3
    have hv := i64s_ok h4
    have := law_TrackTuples s.1 s'.1 v.1 (denOf d) s.2 s'.2 v.2 (denOf_ok h1) hs.1 hs'.1 hs'.2 hv.1 hv.2
    rw [← denOf_av] at this
    simp only [fm_map]
    exact this

theorem trackTuples_holds : Rows.TrackTuplesSaid :=
  OpenClaim.holds_of_wide 4 Try.f4 rfl rfl rfl rfl rfl rfl rfl ⟨rfl, rfl, rfl, rfl, rfl⟩ rfl rfl rfl rfl rfl (by kernel_rfl) Try.func4 (by kernel_rfl)
    (of_decide_eq_true (by kernel_rfl)) (by unfold Func.isWrapper; first | (rw [if_pos (by decide +kernel)]; kernel_rfl) | (rw [if_neg (by decide +kernel)]; exact ⟨rfl, rfl⟩))
    (fun os started H enc _ => trackTuples_lifted os started H enc)

end Go.Proofs.Ythdpblbclgpnjaa
