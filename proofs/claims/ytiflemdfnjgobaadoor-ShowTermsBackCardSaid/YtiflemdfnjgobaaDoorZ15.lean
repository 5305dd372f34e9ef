/- Lemmas for this claim: part 15. No condition. -/
import Derived.Test.YtiflemdfnjgobaaDoorZ9
import Derived.Test.YtiflemdfnjgobaaDoorZ13
/- Trees that are handed in. -/
namespace Tab
open Go Go.Proofs Go.ChangeShapes Go.WideShapes Go.RowKit
set_option maxRecDepth 10000
set_option linter.unusedVariables false
set_option linter.unusedSimpArgs false
set_option linter.unusedSectionVars false

theorem okI6_of {n : Int} (h : (Lit.int .i64 n).wf = true) : okI6 n := by
  simp only [Lit.wf, Bool.and_eq_true, decide_eq_true_eq, show IntKind.i64.min = -9223372036854775808 from rfl, show IntKind.i64.max = 9223372036854775807 from rfl] at h
  exact h
theorem reach47 {n : Nat} (h : n ≤ reachBytes) : n ≤ 2 ^ 47 := Nat.le_trans h (by decide)
theorem opensB_TT : ∀ F, OpensB F Tryd.prog 36 TT TT.cells TT.ok
  | 0 => ⟨TT.cells_closed, fun _ _ _ _ _ _ _ h => absurd h (by omega)⟩
  | F + 1 => by
    have hsl : OpensB F Tryd.prog 23 (SK × List TT) (fun x => [.sl x.1 x.2.length (x.2.flatMap TT.cells)]) (fun x => ((x.1 = .nil ∧ x.2 = []) ∨ x.1 = .nn) ∧ (∀ y ∈ x.2, y.ok) ∧ x.2.length * Tryd.prog.bytesOf 36 ≤ reachBytes) :=
      (OpensB.slice (e := 36) (by kernel_rfl) (by kernel_rfl) (fun x => (TT.cells_len x).trans (by kernel_rfl)) (Nat.le_of_ble_eq_true (by kernel_rfl)) (opensB_TT F)).less (Nat.le_succ F)
    refine OpensB.map (fun x : Int × Int × List UInt8 × (SK × List TT) × Unit => TT.mk x.1 x.2.1 x.2.2.1 x.2.2.2.1.1 x.2.2.2.1.2)
      (OpensB.struct (fs := #[{ name := "Op", type := 34, offset := 0, embedded := false, tag := "", pkgPath := "", byteOffset := 0 }, { name := "Number", type := 2, offset := 1, embedded := false, tag := "", pkgPath := "", byteOffset := 8 }, { name := "Name", type := 9, offset := 2, embedded := false, tag := "", pkgPath := "", byteOffset := 16 }, { name := "Args", type := 23, offset := 3, embedded := false, tag := "", pkgPath := "", byteOffset := 32 }]) (by kernel_rfl) (by kernel_rfl)
        (.cons (c := 1) rfl (by kernel_rfl) ((Opens.int (k := .i64) (by kernel_rfl) (by kernel_rfl)).b F) (.cons (c := 1) rfl (by kernel_rfl) ((Opens.int (k := .i64) (by kernel_rfl) (by kernel_rfl)).b F) (.cons (c := 1) rfl (by kernel_rfl) ((Opens.str (by kernel_rfl) (by kernel_rfl)).b F) (.cons (c := 1) rfl (by kernel_rfl) hsl .nil))))) TT.cells_closed (fun x => ?_) (fun x h => ?_)
    · rw [TT.cells_eq]
      show [AV.int .i64 x.1, .int .i64 x.2.1, .str x.2.2.1, .sl x.2.2.2.1.1 x.2.2.2.1.2.length (ttsC x.2.2.2.1.2)] = _
      rw [ttsC_flat]
      rfl
    · obtain ⟨h1, h2, h3, ⟨_, h4, h5⟩, _⟩ := h
      have h5 := reach47 h5
      have hb : Tryd.prog.bytesOf 36 = 56 := (by kernel_rfl)
      rw [hb] at h5
      rw [TT.ok]
      exact ⟨okI6_of h1, okI6_of h2, reach47 h3, by omega, ttsOk_iff.2 h4⟩
theorem opens_TT : Opens Tryd.prog 36 TT TT.cells TT.ok := OpensB.all opensB_TT
theorem arg_TT : OpensArg Tryd.prog 36 TT (fun t => .agg t.cells) TT.ok := OpensArg.struct (P := Tryd.prog) (t := 36) rfl opens_TT
end Tab
