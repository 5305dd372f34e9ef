/- Copies; least and greatest of a row. -/
import Derived.Test.YthdpblbclgpnjaaBi
namespace Tab
open Go Go.Proofs
set_option maxRecDepth 10000
set_option linter.unusedVariables false
set_option linter.unusedSimpArgs false
set_option linter.unusedSectionVars false

theorem slices_Clone_S (k : SK) (l : List (List UInt8)) (hl : l.length * 16 ≤ 140737488355328) : Pure Try.prog 23 [aSs k l] (aSs .any l) := by
  refine Pure.anyK (fun h0 _ => ?_) ?_
  · have : l = [] := List.length_eq_zero_iff.1 (by simpa using h0)
    subst this
    refine Pure.of_sw 8 Try.func23 rfl Try.ntmps23 (by kernel_rfl) (Nat.le_of_ble_eq_true (by kernel_rfl)) (by simp [closeds, AV.closed, aSs_closed, aIs_closed, aBs_closed, aRs_closed, aDen_closed]) (by simp [AV.closed, closeds, aSs_closed, aIs_closed, aBs_closed, aRs_closed, aDen_closed]) ?_; refine SW.of_vc ?_
    repeat first | refine opsStep ?_ | refine codeStep ?_ | refine drawStep ?_
    exact finTo 2 (x := .sl .nil 0 []) (by kernel_rfl) (fun _ _ _ _ h => sl_any h) (by kernel_rfl)
  · refine (?_ : Pure Try.prog _ [aSs .nn l] _)
    refine Pure.of_sw 8 Try.func23 rfl Try.ntmps23 (by kernel_rfl) (Nat.le_of_ble_eq_true (by kernel_rfl)) (by simp [closeds, AV.closed, aSs_closed, aIs_closed, aBs_closed, aRs_closed, aDen_closed]) (by simp [AV.closed, closeds, aSs_closed, aIs_closed, aBs_closed, aRs_closed, aDen_closed]) ?_; refine SW.of_vc ?_
    repeat first | refine opsStep ?_ | refine codeStep ?_ | refine drawStep ?_
    refine guardE_of (by simp [Value.cells]) ?_
    refine guardE_of ⟨by omega, by show (0 + l.length) * 16 ≤ 140737488355328; omega⟩ ?_
    repeat first | refine opsStep ?_ | refine codeStep ?_ | refine drawStep ?_
    exact finFrz 2 (b := 0) (g := 1) (es := 1) (Eq.trans (b := .hs 0 1 0 (0 + l.length) 1) (by kernel_rfl) (by rw [Nat.zero_add])) (by kernel_rfl) (by simp) (by kernel_rfl)

theorem slices_Clone_B (k : SK) (l : List Bool) (hl : l.length * 1 ≤ 140737488355328) : Pure Try.prog 44 [aBs k l] (aBs .any l) := by
  refine Pure.anyK (fun h0 _ => ?_) ?_
  · have : l = [] := List.length_eq_zero_iff.1 (by simpa using h0)
    subst this
    refine Pure.of_sw 8 Try.func44 rfl Try.ntmps44 (by kernel_rfl) (Nat.le_of_ble_eq_true (by kernel_rfl)) (by simp [closeds, AV.closed, aSs_closed, aIs_closed, aBs_closed, aRs_closed, aDen_closed]) (by simp [AV.closed, closeds, aSs_closed, aIs_closed, aBs_closed, aRs_closed, aDen_closed]) ?_; refine SW.of_vc ?_
    repeat first | refine opsStep ?_ | refine codeStep ?_ | refine drawStep ?_
    exact finTo 2 (x := .sl .nil 0 []) (by kernel_rfl) (fun _ _ _ _ h => sl_any h) (by kernel_rfl)
  · refine (?_ : Pure Try.prog _ [aBs .nn l] _)
    refine Pure.of_sw 8 Try.func44 rfl Try.ntmps44 (by kernel_rfl) (Nat.le_of_ble_eq_true (by kernel_rfl)) (by simp [closeds, AV.closed, aSs_closed, aIs_closed, aBs_closed, aRs_closed, aDen_closed]) (by simp [AV.closed, closeds, aSs_closed, aIs_closed, aBs_closed, aRs_closed, aDen_closed]) ?_; refine SW.of_vc ?_
    repeat first | refine opsStep ?_ | refine codeStep ?_ | refine drawStep ?_
    refine guardE_of (by simp [Value.cells]) ?_
    refine guardE_of ⟨by omega, by show (0 + l.length) * 1 ≤ 140737488355328; omega⟩ ?_
    repeat first | refine opsStep ?_ | refine codeStep ?_ | refine drawStep ?_
    exact finFrz 2 (b := 0) (g := 1) (es := 1) (Eq.trans (b := .hs 0 1 0 (0 + l.length) 1) (by kernel_rfl) (by rw [Nat.zero_add])) (by kernel_rfl) (by simp) (by kernel_rfl)

theorem slices_Clone_S_new (k : SK) (l : List (List UInt8)) (hl : l.length * 16 ≤ 140737488355328) : PureNew Try.prog 23 [aSs k l] l.length 1 (l.map .str) := by
  refine ⟨by simp [closeds, aSs_closed], by simp only [closeds_iff, List.mem_map]; rintro _ ⟨_, _, rfl⟩; simp [AV.closed], ACall.anyK (fun h0 _ => ?_) (?_ : ACall Try.prog _ [aSs .nn l] _ _)⟩
  · have : l = [] := List.length_eq_zero_iff.1 (by simpa using h0)
    subst this
    refine ACall.of_sw 8 Try.func23 rfl Try.ntmps23 (by kernel_rfl) (Nat.le_of_ble_eq_true (by kernel_rfl)) ?_; refine SW.of_vc ?_
    repeat first | refine opsStep ?_ | refine codeStep ?_ | refine drawStep ?_
    refine finR (l := [(2, .sl .nil 0 [])]) (H₁ := []) (v := .hs 0 0 0 0 1) ⟨(by kernel_rfl), trivial⟩ (by kernel_rfl) (Ent.nil 2 1 rfl) (by kernel_rfl) ?_
    exact ⟨0, rfl, rfl⟩
  · refine ACall.of_sw 8 Try.func23 rfl Try.ntmps23 (by kernel_rfl) (Nat.le_of_ble_eq_true (by kernel_rfl)) ?_; refine SW.of_vc ?_
    repeat first | refine opsStep ?_ | refine codeStep ?_ | refine drawStep ?_
    refine guardE_of (by simp [Value.cells]) ?_
    refine guardE_of ⟨by omega, by show (0 + l.length) * 16 ≤ 140737488355328; omega⟩ ?_
    repeat first | refine opsStep ?_ | refine codeStep ?_ | refine drawStep ?_
    refine finR (l := [(2, .hs 0 1 0 (0 + l.length) 1)]) (H₁ := [.cells 1 (l.map .str)]) (v := .hs 0 1 0 (0 + l.length) 1) ⟨(by kernel_rfl), trivial⟩ (by kernel_rfl) (Ent.refl _ _ _) (by kernel_rfl) ?_
    exact ⟨1, by rw [Nat.zero_add], rfl⟩

theorem slices_Clone_B_new (k : SK) (l : List Bool) (hl : l.length * 1 ≤ 140737488355328) : PureNew Try.prog 44 [aBs k l] l.length 1 (l.map .bool) := by
  refine ⟨by simp [closeds, aBs_closed], by simp only [closeds_iff, List.mem_map]; rintro _ ⟨_, _, rfl⟩; simp [AV.closed], ACall.anyK (fun h0 _ => ?_) (?_ : ACall Try.prog _ [aBs .nn l] _ _)⟩
  · have : l = [] := List.length_eq_zero_iff.1 (by simpa using h0)
    subst this
    refine ACall.of_sw 8 Try.func44 rfl Try.ntmps44 (by kernel_rfl) (Nat.le_of_ble_eq_true (by kernel_rfl)) ?_; refine SW.of_vc ?_
    repeat first | refine opsStep ?_ | refine codeStep ?_ | refine drawStep ?_
    refine finR (l := [(2, .sl .nil 0 [])]) (H₁ := []) (v := .hs 0 0 0 0 1) ⟨(by kernel_rfl), trivial⟩ (by kernel_rfl) (Ent.nil 2 1 rfl) (by kernel_rfl) ?_
    exact ⟨0, rfl, rfl⟩
  · refine ACall.of_sw 8 Try.func44 rfl Try.ntmps44 (by kernel_rfl) (Nat.le_of_ble_eq_true (by kernel_rfl)) ?_; refine SW.of_vc ?_
    repeat first | refine opsStep ?_ | refine codeStep ?_ | refine drawStep ?_
    refine guardE_of (by simp [Value.cells]) ?_
    refine guardE_of ⟨by omega, by show (0 + l.length) * 1 ≤ 140737488355328; omega⟩ ?_
    repeat first | refine opsStep ?_ | refine codeStep ?_ | refine drawStep ?_
    refine finR (l := [(2, .hs 0 1 0 (0 + l.length) 1)]) (H₁ := [.cells 1 (l.map .bool)]) (v := .hs 0 1 0 (0 + l.length) 1) ⟨(by kernel_rfl), trivial⟩ (by kernel_rfl) (Ent.refl _ _ _) (by kernel_rfl) ?_
    exact ⟨1, by rw [Nat.zero_add], rfl⟩

def minL : Int → List Int → Int
  | m, [] => m
  | m, x :: l => minL (if x < m then x else m) l
theorem minL_snoc : ∀ (l : List Int) (m x : Int), minL m (l ++ [x]) = if x < minL m l then x else minL m l
  | [], _, _ => rfl
  | y :: l, m, x => minL_snoc l _ x

theorem slices_Min (k : SK) (a : Int) (l : List Int) (hl : l.length < 2^60) : Pure Try.prog 36 [aIs k (a :: l)] (.int .i64 (minL a l)) := by
  refine Pure.of_sw 25 Try.func36 rfl Try.ntmps36 (by kernel_rfl) (Nat.le_of_ble_eq_true (by kernel_rfl)) (by simp [closeds, AV.closed, aSs_closed, aIs_closed, aBs_closed, aRs_closed, aDen_closed]) (by simp [AV.closed, closeds, aSs_closed, aIs_closed, aBs_closed, aRs_closed, aDen_closed]) ?_; refine SW.of_vc ?_
  repeat first | refine opsStep ?_ | refine codeStep ?_ | refine drawStep ?_
  refine guardE_of (by simp) ?_
  repeat first | refine opsStep ?_ | refine codeStep ?_ | refine drawStep ?_
  refine loopE_of (ι := {i : Nat // i ≤ l.length}) (fun i => (fr [(0, aIs k (a :: l)), (3, .int .i64 (minL a (l.take i.1))), (4, .int .i64 ((i.1 + 1 : Nat) : Int))], [])) (fun i => l.length - i.1) ⟨0, by omega⟩ (Ent.fr' ⟨(by kernel_rfl), (by kernel_rfl), (by kernel_rfl), trivial⟩ (by kernel_rfl)) ?_
  rintro ⟨i, hi⟩
  repeat first | refine opsStep ?_ | refine codeStep ?_ | refine drawStep ?_
  refine decB_dec (fun h => ?_) (fun h => ?_)
  · have hia : i < l.length := by have := h; simp at this; omega
    repeat first | refine opsStep ?_ | refine codeStep ?_ | refine drawStep ?_
    refine guardE_of (by simp; omega) ?_
    repeat first | refine opsStep ?_ | refine codeStep ?_ | refine drawStep ?_
    refine optE_of (c := .int .i64 l[i]) (by simp [Value.cells, hia]) ?_
    repeat first | refine opsStep ?_ | refine codeStep ?_ | refine drawStep ?_
    refine ⟨⟨i + 1, by omega⟩, (by show l.length - (i + 1) < l.length - i; omega), Ent.fr' ⟨(by kernel_rfl), ?_, inc_slot (i := i + 1) (by omega), trivial⟩ (by kernel_rfl)⟩
    rw [List.take_succ_eq_append_getElem hia, minL_snoc]
    kernel_rfl
  · repeat first | refine opsStep ?_ | refine codeStep ?_ | refine drawStep ?_
    have : i = l.length := by have := h; simp at this; omega
    subst this
    exact finV (v' := .int .i64 (minL a (l.take l.length))) (by kernel_rfl) (by rw [List.take_length])

def maxL : Int → List Int → Int
  | m, [] => m
  | m, x :: l => maxL (if x > m then x else m) l
theorem maxL_snoc : ∀ (l : List Int) (m x : Int), maxL m (l ++ [x]) = if x > maxL m l then x else maxL m l
  | [], _, _ => rfl
  | y :: l, m, x => maxL_snoc l _ x

theorem slices_Max (k : SK) (a : Int) (l : List Int) (hl : l.length < 2^60) : Pure Try.prog 37 [aIs k (a :: l)] (.int .i64 (maxL a l)) := by
  refine Pure.of_sw 25 Try.func37 rfl Try.ntmps37 (by kernel_rfl) (Nat.le_of_ble_eq_true (by kernel_rfl)) (by simp [closeds, AV.closed, aSs_closed, aIs_closed, aBs_closed, aRs_closed, aDen_closed]) (by simp [AV.closed, closeds, aSs_closed, aIs_closed, aBs_closed, aRs_closed, aDen_closed]) ?_; refine SW.of_vc ?_
  repeat first | refine opsStep ?_ | refine codeStep ?_ | refine drawStep ?_
  refine guardE_of (by simp) ?_
  repeat first | refine opsStep ?_ | refine codeStep ?_ | refine drawStep ?_
  refine loopE_of (ι := {i : Nat // i ≤ l.length}) (fun i => (fr [(0, aIs k (a :: l)), (3, .int .i64 (maxL a (l.take i.1))), (4, .int .i64 ((i.1 + 1 : Nat) : Int))], [])) (fun i => l.length - i.1) ⟨0, by omega⟩ (Ent.fr' ⟨(by kernel_rfl), (by kernel_rfl), (by kernel_rfl), trivial⟩ (by kernel_rfl)) ?_
  rintro ⟨i, hi⟩
  repeat first | refine opsStep ?_ | refine codeStep ?_ | refine drawStep ?_
  refine decB_dec (fun h => ?_) (fun h => ?_)
  · have hia : i < l.length := by have := h; simp at this; omega
    repeat first | refine opsStep ?_ | refine codeStep ?_ | refine drawStep ?_
    refine guardE_of (by simp; omega) ?_
    repeat first | refine opsStep ?_ | refine codeStep ?_ | refine drawStep ?_
    refine optE_of (c := .int .i64 l[i]) (by simp [Value.cells, hia]) ?_
    repeat first | refine opsStep ?_ | refine codeStep ?_ | refine drawStep ?_
    refine ⟨⟨i + 1, by omega⟩, (by show l.length - (i + 1) < l.length - i; omega), Ent.fr' ⟨(by kernel_rfl), ?_, inc_slot (i := i + 1) (by omega), trivial⟩ (by kernel_rfl)⟩
    rw [List.take_succ_eq_append_getElem hia, maxL_snoc]
    kernel_rfl
  · repeat first | refine opsStep ?_ | refine codeStep ?_ | refine drawStep ?_
    have : i = l.length := by have := h; simp at this; omega
    subst this
    exact finV (v' := .int .i64 (maxL a (l.take l.length))) (by kernel_rfl) (by rw [List.take_length])


end Tab
