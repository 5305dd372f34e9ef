/- Names as the reference reads them. -/
import Derived.Test.YthdpblbclgpnjaaGl
namespace Tab
open Go Go.Proofs
set_option maxRecDepth 10000
set_option linter.unusedVariables false
set_option linter.unusedSimpArgs false
set_option linter.unusedSectionVars false

def inR (r : Int) : List Int → Bool
  | a :: b :: l => (decide (a ≤ r) && decide (r ≤ b)) || inR r l
  | _ => false

theorem inR_short {r : Int} {l : List Int} (h : l.length ≤ 1) : inR r l = false := by
  match l, h with
  | [], _ => rfl
  | [_], _ => rfl

theorem inR_drop {r : Int} {l : List Int} {i : Nat} (h : i + 1 < l.length) : inR r (l.drop i) = ((decide (l[i] ≤ r) && decide (r ≤ l[i + 1])) || inR r (l.drop (i + 2))) := by
  rw [List.drop_eq_getElem_cons (by omega), List.drop_eq_getElem_cons (by omega)]
  rfl

theorem r04_within (k : SK) (r : Int) (l : List Int) (hl : l.length < 2^62) : Pure Try.prog 68 [.int .i64 r, aIs k l] (.bool (inR r l)) := by
  refine Pure.of_sw 28 Try.func68 rfl Try.ntmps68 (by kernel_rfl) (Nat.le_of_ble_eq_true (by kernel_rfl)) (by simp [closeds, AV.closed, aSs_closed, aIs_closed, aBs_closed, aRs_closed, aDen_closed]) (by simp [AV.closed, closeds, aSs_closed, aIs_closed, aBs_closed, aRs_closed, aDen_closed]) ?_; refine SW.of_vc ?_
  repeat first | refine opsStep ?_ | refine codeStep ?_ | refine drawStep ?_
  refine loopE_of (ι := {i : Nat // i ≤ l.length + 1 ∧ inR r l = inR r (l.drop i)}) (fun i => (fr [(0, .int .i64 r), (1, aIs k l), (5, .int .i64 i.1)], [])) (fun i => l.length + 2 - i.1) ⟨0, by omega, by simp⟩ (Ent.fr ⟨rfl, rfl, rfl, trivial⟩) ?_
  rintro ⟨i, hi, hpre⟩
  have hw : IntKind.wrap .i64 ((i : Int) + 1) = i + 1 := IntWalk.i64_in _ (by omega)
  repeat first | refine opsStep ?_ | refine codeStep ?_ | refine drawStep ?_
  refine decB_split (fun h => ?_) (fun h => ?_)
  · have hi1 : i + 1 < l.length := by simp [hw] at h; omega
    repeat first | refine opsStep ?_ | refine codeStep ?_ | refine drawStep ?_
    refine guardE_of (by simp; omega) ?_
    repeat first | refine opsStep ?_ | refine codeStep ?_ | refine drawStep ?_
    refine optE_of (c := .int .i64 l[i]) (by simp [Value.cells, show i < l.length by omega]) ?_
    repeat first | refine opsStep ?_ | refine codeStep ?_ | refine drawStep ?_
    have hd := inR_drop (r := r) hi1
    refine decB_split (fun h => ?_) (fun h => ?_)
    · repeat first | refine opsStep ?_ | refine codeStep ?_ | refine drawStep ?_
      refine guardE_of (by simp [hw]; omega) ?_
      repeat first | refine opsStep ?_ | refine codeStep ?_ | refine drawStep ?_
      refine optE_of (c := .int .i64 l[i+1]) (by simp [Value.cells, hw, hi1]) ?_
      repeat first | refine opsStep ?_ | refine codeStep ?_ | refine drawStep ?_
      refine decB_split (fun h => ?_) (fun h => ?_)
      · repeat first | refine opsStep ?_ | refine codeStep ?_ | refine drawStep ?_
        exact finB rfl (by simp at *; rw [hpre, hd]; simp [*])
      · repeat first | refine opsStep ?_ | refine codeStep ?_ | refine drawStep ?_
        refine ⟨⟨i + 2, by omega, by rw [hpre, hd]; simp_all; try (intros; omega)⟩, (by show l.length + 2 - (i + 2) < l.length + 2 - i; omega), Ent.fr' ⟨(by kernel_rfl), (by kernel_rfl), (congrArg (AV.int .i64) (IntWalk.i64_in ((i : Int) + 2) (by omega)) : _), trivial⟩ (by kernel_rfl)⟩
    · repeat first | refine opsStep ?_ | refine codeStep ?_ | refine drawStep ?_
      refine ⟨⟨i + 2, by omega, by rw [hpre, hd]; simp_all; try (intros; omega)⟩, (by show l.length + 2 - (i + 2) < l.length + 2 - i; omega), Ent.fr' ⟨(by kernel_rfl), (by kernel_rfl), (congrArg (AV.int .i64) (IntWalk.i64_in ((i : Int) + 2) (by omega)) : _), trivial⟩ (by kernel_rfl)⟩
  · repeat first | refine opsStep ?_ | refine codeStep ?_ | refine drawStep ?_
    exact finB rfl (by rw [hpre, inR_short]; simp [hw] at h; simp; omega)

theorem r04_Start (r : Int) : Pure Try.prog 55 [.int .i64 r] (.bool (startR r)) := by
  refine Pure.of_sw 6 Try.func55 rfl Try.ntmps55 (by kernel_rfl) (Nat.le_of_ble_eq_true (by kernel_rfl)) (by simp [closeds, AV.closed, aSs_closed, aIs_closed, aBs_closed, aRs_closed, aDen_closed]) (by simp [AV.closed, closeds, aSs_closed, aIs_closed, aBs_closed, aRs_closed, aDen_closed]) ?_; refine SW.of_vc ?_
  repeat first | refine opsStep ?_ | refine codeStep ?_ | refine drawStep ?_
  refine optX_of (c := [65, 90, 97, 122, 95, 95, 0x391, 0x3a1, 0x3a3, 0x3a9, 0x3b1, 0x3c9].map (.int .i64)) (by kernel_rfl) ?_
  repeat first | refine opsStep ?_ | refine codeStep ?_ | refine drawStep ?_
  refine callB (r04_within .any r [65, 90, 97, 122, 95, 95, 0x391, 0x3a1, 0x3a3, 0x3a9, 0x3b1, 0x3c9] (by simp)) rfl (.cons (.refl _) (.cons (.whole (by kernel_rfl) (by kernel_rfl)) .nil)) ?_
  repeat first | refine opsStep ?_ | refine codeStep ?_ | refine drawStep ?_
  exact finB rfl (by rw [Bool.eq_iff_iff]; simp [inR, startR]; omega)

theorem r04_Rest (r : Int) : Pure Try.prog 56 [.int .i64 r] (.bool (restR r)) := by
  refine Pure.of_sw 10 Try.func56 rfl Try.ntmps56 (by kernel_rfl) (Nat.le_of_ble_eq_true (by kernel_rfl)) (by simp [closeds, AV.closed, aSs_closed, aIs_closed, aBs_closed, aRs_closed, aDen_closed]) (by simp [AV.closed, closeds, aSs_closed, aIs_closed, aBs_closed, aRs_closed, aDen_closed]) ?_; refine SW.of_vc ?_
  repeat first | refine opsStep ?_ | refine codeStep ?_ | refine drawStep ?_
  refine callP (r04_Start r) ?_
  repeat first | refine opsStep ?_ | refine codeStep ?_ | refine drawStep ?_
  refine decB_split (fun h => ?_) (fun h => ?_)
  · repeat first | refine opsStep ?_ | refine codeStep ?_ | refine drawStep ?_
    exact finB rfl (by simp [restR, h])
  · repeat first | refine opsStep ?_ | refine codeStep ?_ | refine drawStep ?_
    refine optX_of (c := [48, 57, 0x2032, 0x2032, 0x2080, 0x2089].map (.int .i64)) (by kernel_rfl) ?_
    repeat first | refine opsStep ?_ | refine codeStep ?_ | refine drawStep ?_
    refine callB (r04_within .any r [48, 57, 0x2032, 0x2032, 0x2080, 0x2089] (by simp)) rfl (.cons (.refl _) (.cons (.whole (by kernel_rfl) (by kernel_rfl)) .nil)) ?_
    repeat first | refine opsStep ?_ | refine codeStep ?_ | refine drawStep ?_
    exact finB rfl (by rw [Bool.eq_iff_iff]; simp [inR, restR, h]; omega)

theorem r04_Reserved (s : List UInt8) : Pure Try.prog 57 [.str s] (.bool (resS s)) := by
  refine Pure.of_sw 18 Try.func57 rfl Try.ntmps57 (by kernel_rfl) (Nat.le_of_ble_eq_true (by kernel_rfl)) (by simp [closeds, AV.closed, aSs_closed, aIs_closed, aBs_closed, aRs_closed, aDen_closed]) (by simp [AV.closed, closeds, aSs_closed, aIs_closed, aBs_closed, aRs_closed, aDen_closed]) ?_; refine SW.of_vc ?_
  repeat first | refine opsStep ?_ | refine codeStep ?_ | refine drawStep ?_
  refine optX_of (c := resWords.map .str) (by kernel_rfl) ?_
  repeat first | refine opsStep ?_ | refine codeStep ?_ | refine drawStep ?_
  refine loopE_of (ι := {i : Nat // i ≤ 8 ∧ s ∉ resWords.take i}) (fun i => (fr [(0, .str s), (3, .hs 0 0 0 8 1), (4, .int .i64 i.1)], [.cells 0 (resWords.map .str)])) (fun i => 9 - i.1) ⟨0, by omega, by simp⟩ (Ent.fr' ⟨rfl, rfl, rfl, trivial⟩ (by kernel_rfl)) ?_
  rintro ⟨i, hi, hpre⟩
  repeat first | refine opsStep ?_ | refine codeStep ?_ | refine drawStep ?_
  refine decB_split (fun h => ?_) (fun h => ?_)
  · have hi1 : i < 8 := by simp at h; omega
    have hi2 : i < resWords.length := by simpa [resWords] using hi1
    repeat first | refine opsStep ?_ | refine codeStep ?_ | refine drawStep ?_
    refine guardE_of (by simp; omega) ?_
    repeat first | refine opsStep ?_ | refine codeStep ?_ | refine drawStep ?_
    refine optE_of (c := .str resWords[i]) (by simp [Value.cells, hi2]) ?_
    repeat first | refine opsStep ?_ | refine codeStep ?_ | refine drawStep ?_
    have ht : resWords.take (i + 1) = resWords.take i ++ [resWords[i]] := List.take_succ_eq_append_getElem (by simpa [resWords] using hi1)
    refine decB_split (fun h => ?_) (fun h => ?_)
    · repeat first | refine opsStep ?_ | refine codeStep ?_ | refine drawStep ?_
      exact finB rfl (by simp at h; subst h; simp only [resS]; exact (decide_eq_true (List.getElem_mem hi2)).symm)
    · repeat first | refine opsStep ?_ | refine codeStep ?_ | refine drawStep ?_
      refine ⟨⟨i + 1, by omega, fun e => (List.mem_append.1 (ht ▸ e)).elim hpre (fun e => by simp at h; exact h (List.mem_singleton.1 e).symm)⟩, (by show 9 - (i + 1) < 9 - i; omega), Ent.fr' ⟨(by kernel_rfl), (by kernel_rfl), inc_slot (i := i) (by omega), trivial⟩ (by kernel_rfl)⟩
  · repeat first | refine opsStep ?_ | refine codeStep ?_ | refine drawStep ?_
    have : i = 8 := by simp at h; omega
    subst this
    exact finB rfl (by simp [resS]; exact hpre)

end Tab
