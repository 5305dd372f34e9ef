/- The statement ShowReads holds: whatever text is handed in, the law returns true, and what was handed in reads as it did; the package-level variables that the row lists read as it says. No condition beside the row's own. -/
import Derived.Test.YtiflemdfnjgobaaDoorZ13
import Derived.Test.YtiflemdfnjgobaaDoorZ14
import Derived.Test.YtiflemdfnjgobaaDoorZ15
import Derived.Test.YtiflemdfnjgobaaDoorRows
import Derived.Test.YtiflemdfnjgobaaDoorTie
import Derived.Test.YtiflemdfnjgobaaDoorCards
import Derived.ProofKit
import Derived.OpenShut
import Derived.LaidMore
import Derived.Lay
import Derived.SevenTiedAt
import Derived.Stop.Joined
set_option linter.unusedVariables false
set_option linter.unusedSimpArgs false
set_option linter.unusedSectionVars false
namespace Go.Proofs.YtiflemdfnjgobaaDoor
open Go Go.ChangeShapes Go.WideShapes Go.ChangeAt Go.RowKit Tab
set_option maxRecDepth 100000

theorem own₀ : ownKnob Tryd.prog.godebug = none := by kernel_rfl
theorem laid₀ : laidOutB Tryd.prog = true := by kernel_rfl
theorem reach_lt {n : Nat} (h : n ≤ reachBytes) : n < 2^62 := Nat.lt_of_le_of_lt h (by decide)

theorem showReads_lifted (os : Os) (started : os.Started) (H : Type) (enc : TypeId × Value → H) :
    ReturnsInHanded {} Tryd.checked os 12 .any (fun w args => (Rows.showReadsSpec.pre enc Tryd.prog Tryd.f12 Rows.showReadsRow.domain false w args ∧ laidMetH Tryd.prog Rows.showReadsRow.laid w) ∧ sizedMet enc Tryd.prog Tryd.f12 (OpenSpec.ofChange Rows.showReadsSpec) false w args)
      (Rows.showReadsSpec.post enc Tryd.prog Tryd.f12 false true false false) := by
  refine row_of_laid (C := Tryd.checked) (t := 4) own₀ started (by kernel_rfl) Tryd.func12 laid₀ (by kernel_rfl) (by kernel_rfl) ⟨rfl, fun H ds h => ?_⟩ (by kernel_rfl)
    (ChangeSpec.witness_shaped (enc := enc) (C := Tryd.checked) (os := os) (X := fun w _ => laidMetH Tryd.prog Rows.showReadsRow.laid w) false (World.laidAll Tryd.prog os Rows.showReadsRow.laid) #[.string ⟨#[]⟩] 8 (World.laidAll_os _ _ _)
      (World.shaped_of_ZipB (by kernel_rfl) (by kernel_rfl)) (by kernel_rfl) (by kernel_rfl) (by kernel_rfl)
      (by rw [MakeChecks.laidMetH_plain _ _ _ (by kernel_rfl)]; exact laidMet_laidAll _ (by kernel_rfl) (by kernel_rfl)))
    (OpensAll.cons (OpensArg.str (t := 9) (by kernel_rfl) (by kernel_rfl)) OpensAll.nil) (fun _ _ hh h => h.of_heap hh) (fun W h => globs_of_laid h) ?_
  · match ds, h with
    | [d1], _ => rfl
  · rintro ⟨s1, _⟩ ⟨h1, _⟩; exact showReads s1 (Nat.lt_of_le_of_lt h1 (by decide))

theorem showReads_row : Rows.ShowReadsSaid :=
  OpenClaim.holds_of_wide 12 Tryd.f12 rfl rfl rfl rfl rfl rfl rfl ⟨rfl, rfl, rfl, rfl, rfl⟩ rfl rfl rfl rfl rfl (by kernel_rfl) Tryd.func12 (by kernel_rfl)
    (of_decide_eq_true (by kernel_rfl)) (by unfold Func.isWrapper; first | (rw [if_pos (by decide +kernel)]; kernel_rfl) | (rw [if_neg (by decide +kernel)]; exact ⟨rfl, rfl⟩))
    (fun os started H enc _ => showReads_lifted os started H enc)

theorem showReads_holds : Rows.ShowReadsCardSaid :=
  Claim7.holds_tied_plain_at .later [] [.data, .data, .data, .data, .listed, .data, .pinned] true (true, "f304ccaa731a175196be80b1acf0568322c46c4e85f918fc3d223a6b504e70a5") false showReads_row (fun _ h => by cases h) (by kernel_rfl) (fun _ h => by cases h) showReads_row_tie rfl ⟨rfl, rfl⟩ (by kernel_rfl) rfl
    (fun f fn hf hfn => by
      obtain rfl : f = 12 := Option.some.inj ((show Tryd.prog.funcNamed "tabard/tabardlaw08.ShowReads" = some 12 by kernel_rfl).symm.trans hf) |>.symm
      obtain rfl : fn = Tryd.f12 := (Option.some.inj (Tryd.func12.symm.trans hfn)).symm
      exact ⟨by kernel_rfl, fun j t ht => by
        rw [Tryd.params12] at ht
        have hm : t ∈ [9] := by simpa using Array.mem_of_getElem? ht
        have hall : ([9].all fun u => !Tryd.prog.wantsStandIn u) = true := by kernel_rfl
        exact (show Tryd.prog.wantsStandIn t = false by simpa using List.all_eq_true.1 hall t hm)⟩)
    (by kernel_rfl)

end Go.Proofs.YtiflemdfnjgobaaDoor
