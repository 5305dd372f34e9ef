/- The statement ShowTermsBack holds: whatever tree is handed in, the law returns true, and what was handed in reads as it did; the package-level variables that the row lists read as it says. No condition beside the row's own. -/
import Derived.Test.YtiflemdfnjgobaaDoorZ12
import Derived.Test.YtiflemdfnjgobaaDoorZ13
import Derived.Test.YtiflemdfnjgobaaDoorZ14
import Derived.Test.YtiflemdfnjgobaaDoorZ15
import Derived.Test.YtiflemdfnjgobaaDoorRows
import Derived.Test.YtiflemdfnjgobaaDoorTie
import Derived.Test.YtiflemdfnjgobaaDoorCards
import Derived.ProofKit
import Derived.OpenShut
import Derived.LaidMore
import Derived.Lay
import Derived.SevenTiedAt
import Derived.Stop.Joined
set_option linter.unusedVariables false
set_option linter.unusedSimpArgs false
set_option linter.unusedSectionVars false
namespace Go.Proofs.YtiflemdfnjgobaaDoor
open Go Go.ChangeShapes Go.WideShapes Go.ChangeAt Go.RowKit Tab
set_option maxRecDepth 100000

theorem own₀ : ownKnob Tryd.prog.godebug = none := by kernel_rfl
theorem laid₀ : laidOutB Tryd.prog = true := by kernel_rfl
theorem reach_lt {n : Nat} (h : n ≤ reachBytes) : n < 2^62 := Nat.lt_of_le_of_lt h (by decide)

theorem showTermsBack_lifted (os : Os) (started : os.Started) (H : Type) (enc : TypeId × Value → H) :
    ReturnsInHanded {} Tryd.checked os 10 .any (fun w args => (Rows.showTermsBackSpec.pre enc Tryd.prog Tryd.f10 Rows.showTermsBackRow.domain false w args ∧ laidMetH Tryd.prog Rows.showTermsBackRow.laid w) ∧ sizedMet enc Tryd.prog Tryd.f10 (OpenSpec.ofChange Rows.showTermsBackSpec) false w args)
      (Rows.showTermsBackSpec.post enc Tryd.prog Tryd.f10 false true false false) := by
  refine row_of_laid (C := Tryd.checked) (t := 4) own₀ started (by kernel_rfl) Tryd.func10 laid₀ (by kernel_rfl) (by kernel_rfl) ⟨rfl, fun H ds h => ?_⟩ (by kernel_rfl)
    (ChangeSpec.witness_shaped (enc := enc) (C := Tryd.checked) (os := os) (X := fun w _ => laidMetH Tryd.prog Rows.showTermsBackRow.laid w) false (World.laidAll Tryd.prog os Rows.showTermsBackRow.laid) #[.agg #[.int .i64 0, .int .i64 0, .string ⟨#[]⟩, .slice none 0 0]] 8 (World.laidAll_os _ _ _)
      (World.shaped_of_ZipB (by kernel_rfl) (by kernel_rfl)) (by kernel_rfl) (by kernel_rfl) (by kernel_rfl)
      (by rw [MakeChecks.laidMetH_plain _ _ _ (by kernel_rfl)]; exact laidMet_laidAll _ (by kernel_rfl) (by kernel_rfl)))
    (OpensAll.cons arg_TT OpensAll.nil) (fun _ _ hh h => h.of_heap hh) (fun W h => globs_of_laid h) ?_
  · match ds, h with
    | [d1], _ => rfl
  · rintro ⟨s, _⟩ ⟨h, _⟩; exact showTermsBack s h

theorem showTermsBack_row : Rows.ShowTermsBackSaid :=
  OpenClaim.holds_of_wide 10 Tryd.f10 rfl rfl rfl rfl rfl rfl rfl ⟨rfl, rfl, rfl, rfl, rfl⟩ rfl rfl rfl rfl rfl (by kernel_rfl) Tryd.func10 (by kernel_rfl)
    (of_decide_eq_true (by kernel_rfl)) (by unfold Func.isWrapper; first | (rw [if_pos (by decide +kernel)]; kernel_rfl) | (rw [if_neg (by decide +kernel)]; exact ⟨rfl, rfl⟩))
    (fun os started H enc _ => showTermsBack_lifted os started H enc)

theorem showTermsBack_holds : Rows.ShowTermsBackCardSaid :=
  Claim7.holds_tied_plain_at .later [] [.data, .data, .data, .data, .listed, .data, .pinned] true (true, "f304ccaa731a175196be80b1acf0568322c46c4e85f918fc3d223a6b504e70a5") false showTermsBack_row (fun _ h => by cases h) (by kernel_rfl) (fun _ h => by cases h) showTermsBack_row_tie rfl ⟨rfl, rfl⟩ (by kernel_rfl) rfl
    (fun f fn hf hfn => by
      obtain rfl : f = 10 := Option.some.inj ((show Tryd.prog.funcNamed "tabard/tabardlaw08.ShowTermsBack" = some 10 by kernel_rfl).symm.trans hf) |>.symm
      obtain rfl : fn = Tryd.f10 := (Option.some.inj (Tryd.func10.symm.trans hfn)).symm
      exact ⟨by kernel_rfl, fun j t ht => by
        rw [Tryd.params10] at ht
        have hm : t ∈ [36] := by simpa using Array.mem_of_getElem? ht
        have hall : ([36].all fun u => !Tryd.prog.wantsStandIn u) = true := by kernel_rfl
        exact (show Tryd.prog.wantsStandIn t = false by simpa using List.all_eq_true.1 hall t hm)⟩)
    (by kernel_rfl)

end Go.Proofs.YtiflemdfnjgobaaDoor
