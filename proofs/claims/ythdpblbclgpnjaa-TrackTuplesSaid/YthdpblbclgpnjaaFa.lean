/- Lists compared. -/
import Derived.Test.YthdpblbclgpnjaaGi
namespace Tab
open Go Go.Proofs
set_option maxRecDepth 10000
set_option linter.unusedVariables false
set_option linter.unusedSimpArgs false
set_option linter.unusedSectionVars false

theorem r12_texts (k k' : SK) (a b : List (List UInt8)) (ha : a.length < 2^62) (hb : b.length < 2^62) : Pure Try.prog 27 [aSs k a, aSs k' b] (.bool (decide (a = b))) := by
  refine Pure.of_sw 26 Try.func27 rfl Try.ntmps27 (by kernel_rfl) (Nat.le_of_ble_eq_true (by kernel_rfl)) (by simp [closeds, AV.closed, aSs_closed, aIs_closed, aBs_closed, aRs_closed, aDen_closed]) (by simp [AV.closed, closeds, aSs_closed, aIs_closed, aBs_closed, aRs_closed, aDen_closed]) ?_; refine SW.of_vc ?_
  repeat first | refine opsStep ?_ | refine codeStep ?_ | refine drawStep ?_
  refine decB_split (fun h => ?_) (fun h => ?_)
  · repeat first | refine opsStep ?_ | refine codeStep ?_ | refine drawStep ?_
    exact finB rfl (by simp at h; simp; intro e; exact h (by rw [e]))
  · repeat first | refine opsStep ?_ | refine codeStep ?_ | refine drawStep ?_
    have hl : a.length = b.length := by simp at h; omega
    refine loopE_of (ι := {i : Nat // i ≤ a.length ∧ a.take i = b.take i}) (fun i => (fr [(0, aSs k a), (1, aSs k' b), (5, .int .i64 i.1)], [])) (fun i => a.length - i.1) ⟨0, by omega, by simp⟩ (Ent.fr ⟨rfl, rfl, rfl, trivial⟩) ?_
    rintro ⟨i, hi, hpre⟩
    repeat first | refine opsStep ?_ | refine codeStep ?_ | refine drawStep ?_
    refine decB_split (fun h => ?_) (fun h => ?_)
    · have hia : i < a.length := by simpa using h
      repeat first | refine opsStep ?_ | refine codeStep ?_ | refine drawStep ?_
      refine SW.drawn rfl (by kernel_rfl) ?_
      repeat first | refine opsStep ?_ | refine codeStep ?_ | refine drawStep ?_
      refine guardE_of (by simp; omega) ?_
      repeat first | refine opsStep ?_ | refine codeStep ?_ | refine drawStep ?_
      refine optE_of (c := .str a[i]) (by simp [Value.cells, hia]) ?_
      repeat first | refine opsStep ?_ | refine codeStep ?_ | refine drawStep ?_
      refine guardE_of (by simp; omega) ?_
      repeat first | refine opsStep ?_ | refine codeStep ?_ | refine drawStep ?_
      refine optE_of (c := .str b[i]) (by simp [Value.cells, hl ▸ hia]) ?_
      repeat first | refine opsStep ?_ | refine codeStep ?_ | refine drawStep ?_
      refine ⟨by kernel_rfl, ?_⟩
      repeat first | refine opsStep ?_ | refine codeStep ?_ | refine drawStep ?_
      refine decB_split (fun h => ?_) (fun h => ?_)
      · repeat first | refine opsStep ?_ | refine codeStep ?_ | refine drawStep ?_
        exact finB rfl (by simp at h; simp; rintro rfl; exact h rfl)
      · repeat first | refine opsStep ?_ | refine codeStep ?_ | refine drawStep ?_
        refine ⟨⟨i + 1, by omega, ?_⟩, (by show a.length - (i + 1) < a.length - i; omega), Ent.fr' ⟨(by kernel_rfl), (by kernel_rfl), inc_slot (i := i) (by omega), trivial⟩ (by kernel_rfl)⟩
        rw [List.take_succ_eq_append_getElem hia, List.take_succ_eq_append_getElem (hl ▸ hia), hpre]
        simp at h; rw [h]
    · repeat first | refine opsStep ?_ | refine codeStep ?_ | refine drawStep ?_
      have : i = a.length := by simp at h; omega
      exact finB rfl (by subst this; rw [List.take_length, hl, List.take_length] at hpre; simpa using hpre)

theorem r12_ints (k k' : SK) (a b : List Int) (ha : a.length < 2^62) (hb : b.length < 2^62) : Pure Try.prog 29 [aIs k a, aIs k' b] (.bool (decide (a = b))) := by
  refine Pure.of_sw 26 Try.func29 rfl Try.ntmps29 (by kernel_rfl) (Nat.le_of_ble_eq_true (by kernel_rfl)) (by simp [closeds, AV.closed, aSs_closed, aIs_closed, aBs_closed, aRs_closed, aDen_closed]) (by simp [AV.closed, closeds, aSs_closed, aIs_closed, aBs_closed, aRs_closed, aDen_closed]) ?_; refine SW.of_vc ?_
  repeat first | refine opsStep ?_ | refine codeStep ?_ | refine drawStep ?_
  refine decB_split (fun h => ?_) (fun h => ?_)
  · repeat first | refine opsStep ?_ | refine codeStep ?_ | refine drawStep ?_
    exact finB rfl (by simp at h; simp; intro e; exact h (by rw [e]))
  · repeat first | refine opsStep ?_ | refine codeStep ?_ | refine drawStep ?_
    have hl : a.length = b.length := by simp at h; omega
    refine loopE_of (ι := {i : Nat // i ≤ a.length ∧ a.take i = b.take i}) (fun i => (fr [(0, aIs k a), (1, aIs k' b), (5, .int .i64 i.1)], [])) (fun i => a.length - i.1) ⟨0, by omega, by simp⟩ (Ent.fr ⟨rfl, rfl, rfl, trivial⟩) ?_
    rintro ⟨i, hi, hpre⟩
    repeat first | refine opsStep ?_ | refine codeStep ?_ | refine drawStep ?_
    refine decB_split (fun h => ?_) (fun h => ?_)
    · have hia : i < a.length := by simpa using h
      repeat first | refine opsStep ?_ | refine codeStep ?_ | refine drawStep ?_
      refine SW.drawn rfl (by kernel_rfl) ?_
      repeat first | refine opsStep ?_ | refine codeStep ?_ | refine drawStep ?_
      refine guardE_of (by simp; omega) ?_
      repeat first | refine opsStep ?_ | refine codeStep ?_ | refine drawStep ?_
      refine optE_of (c := .int .i64 a[i]) (by simp [Value.cells, hia]) ?_
      repeat first | refine opsStep ?_ | refine codeStep ?_ | refine drawStep ?_
      refine guardE_of (by simp; omega) ?_
      repeat first | refine opsStep ?_ | refine codeStep ?_ | refine drawStep ?_
      refine optE_of (c := .int .i64 b[i]) (by simp [Value.cells, hl ▸ hia]) ?_
      repeat first | refine opsStep ?_ | refine codeStep ?_ | refine drawStep ?_
      refine ⟨by kernel_rfl, ?_⟩
      repeat first | refine opsStep ?_ | refine codeStep ?_ | refine drawStep ?_
      refine decB_split (fun h => ?_) (fun h => ?_)
      · repeat first | refine opsStep ?_ | refine codeStep ?_ | refine drawStep ?_
        exact finB rfl (by simp at h; simp; rintro rfl; exact h rfl)
      · repeat first | refine opsStep ?_ | refine codeStep ?_ | refine drawStep ?_
        refine ⟨⟨i + 1, by omega, ?_⟩, (by show a.length - (i + 1) < a.length - i; omega), Ent.fr' ⟨(by kernel_rfl), (by kernel_rfl), inc_slot (i := i) (by omega), trivial⟩ (by kernel_rfl)⟩
        rw [List.take_succ_eq_append_getElem hia, List.take_succ_eq_append_getElem (hl ▸ hia), hpre]
        simp at h; rw [h]
    · repeat first | refine opsStep ?_ | refine codeStep ?_ | refine drawStep ?_
      have : i = a.length := by simp at h; omega
      exact finB rfl (by subst this; rw [List.take_length, hl, List.take_length] at hpre; simpa using hpre)

theorem r12_flags (k k' : SK) (a b : List Bool) (ha : a.length < 2^62) (hb : b.length < 2^62) : Pure Try.prog 28 [aBs k a, aBs k' b] (.bool (decide (a = b))) := by
  refine Pure.of_sw 26 Try.func28 rfl Try.ntmps28 (by kernel_rfl) (Nat.le_of_ble_eq_true (by kernel_rfl)) (by simp [closeds, AV.closed, aSs_closed, aIs_closed, aBs_closed, aRs_closed, aDen_closed]) (by simp [AV.closed, closeds, aSs_closed, aIs_closed, aBs_closed, aRs_closed, aDen_closed]) ?_; refine SW.of_vc ?_
  repeat first | refine opsStep ?_ | refine codeStep ?_ | refine drawStep ?_
  refine decB_split (fun h => ?_) (fun h => ?_)
  · repeat first | refine opsStep ?_ | refine codeStep ?_ | refine drawStep ?_
    exact finB rfl (by simp at h; simp; intro e; exact h (by rw [e]))
  · repeat first | refine opsStep ?_ | refine codeStep ?_ | refine drawStep ?_
    have hl : a.length = b.length := by simp at h; omega
    refine loopE_of (ι := {i : Nat // i ≤ a.length ∧ a.take i = b.take i}) (fun i => (fr [(0, aBs k a), (1, aBs k' b), (5, .int .i64 i.1)], [])) (fun i => a.length - i.1) ⟨0, by omega, by simp⟩ (Ent.fr ⟨rfl, rfl, rfl, trivial⟩) ?_
    rintro ⟨i, hi, hpre⟩
    repeat first | refine opsStep ?_ | refine codeStep ?_ | refine drawStep ?_
    refine decB_split (fun h => ?_) (fun h => ?_)
    · have hia : i < a.length := by simpa using h
      repeat first | refine opsStep ?_ | refine codeStep ?_ | refine drawStep ?_
      refine SW.drawn rfl (by kernel_rfl) ?_
      repeat first | refine opsStep ?_ | refine codeStep ?_ | refine drawStep ?_
      refine guardE_of (by simp; omega) ?_
      repeat first | refine opsStep ?_ | refine codeStep ?_ | refine drawStep ?_
      refine optE_of (c := .bool a[i]) (by simp [Value.cells, hia]) ?_
      repeat first | refine opsStep ?_ | refine codeStep ?_ | refine drawStep ?_
      refine guardE_of (by simp; omega) ?_
      repeat first | refine opsStep ?_ | refine codeStep ?_ | refine drawStep ?_
      refine optE_of (c := .bool b[i]) (by simp [Value.cells, hl ▸ hia]) ?_
      repeat first | refine opsStep ?_ | refine codeStep ?_ | refine drawStep ?_
      refine ⟨by kernel_rfl, ?_⟩
      repeat first | refine opsStep ?_ | refine codeStep ?_ | refine drawStep ?_
      refine decB_split (fun h => ?_) (fun h => ?_)
      · repeat first | refine opsStep ?_ | refine codeStep ?_ | refine drawStep ?_
        exact finB rfl (by simp at h; simp; intro e; subst e; exact h rfl)
      · repeat first | refine opsStep ?_ | refine codeStep ?_ | refine drawStep ?_
        refine ⟨⟨i + 1, by omega, ?_⟩, (by show a.length - (i + 1) < a.length - i; omega), Ent.fr' ⟨(by kernel_rfl), (by kernel_rfl), inc_slot (i := i) (by omega), trivial⟩ (by kernel_rfl)⟩
        rw [List.take_succ_eq_append_getElem hia, List.take_succ_eq_append_getElem (hl ▸ hia), hpre]
        simp at h; rw [h]
    · repeat first | refine opsStep ?_ | refine codeStep ?_ | refine drawStep ?_
      have : i = a.length := by simp at h; omega
      exact finB rfl (by subst this; rw [List.take_length, hl, List.take_length] at hpre; simpa using hpre)
end Tab
