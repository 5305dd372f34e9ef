/- Letters and their digits. -/
import Derived.Test.YthdpblbclgpnjaaLi
namespace Tab
open Go Go.Proofs
set_option maxRecDepth 10000
set_option linter.unusedVariables false
set_option linter.unusedSimpArgs false
set_option linter.unusedSectionVars false

theorem r04_Rises (k : SK) (l : List (List UInt8)) (hl : l.length < 2^62) (hs : ∀ s ∈ l, s.length < 2^62) : Pure Try.prog 34 [aSs k l] (.bool (risesS l)) := by
  refine Pure.of_sw 32 Try.func34 rfl Try.ntmps34 (by kernel_rfl) (Nat.le_of_ble_eq_true (by kernel_rfl)) (by simp [closeds, AV.closed, aSs_closed, aIs_closed, aBs_closed, aRs_closed, aDen_closed]) (by simp [AV.closed, closeds, aSs_closed, aIs_closed, aBs_closed, aRs_closed, aDen_closed]) ?_; refine SW.of_vc ?_
  repeat first | refine opsStep ?_ | refine codeStep ?_ | refine drawStep ?_
  refine loopE_of (ι := {i : Nat // i ≤ l.length ∧ ∀ j, j < i → badAt l j = false}) (fun i => (fr [(0, aSs k l), (3, .int .i64 i.1)], [])) (fun i => l.length - i.1) ⟨0, by omega, by simp⟩ (Ent.fr' ⟨(by kernel_rfl), (by kernel_rfl), trivial⟩ (by kernel_rfl)) ?_
  rintro ⟨i, hi, hpre⟩
  repeat first | refine opsStep ?_ | refine codeStep ?_ | refine drawStep ?_
  refine decB_dec (fun h => ?_) (fun h => ?_)
  · have hia : i < l.length := by simpa using h
    have hg : l.getD i [] = l[i] := by simp [List.getD_eq_getElem?_getD, hia]
    have hnext : ∀ (hb : badAt l i = false) (j : Nat), j < i + 1 → badAt l j = false := fun hb j hj => by
      by_cases e : j = i
      · subst e; exact hb
      · exact hpre j (by omega)
    repeat first | refine opsStep ?_ | refine codeStep ?_ | refine drawStep ?_
    refine SW.drawn rfl (by kernel_rfl) ?_
    repeat first | refine opsStep ?_ | refine codeStep ?_ | refine drawStep ?_
    refine guardE_of (by simp; omega) ?_
    repeat first | refine opsStep ?_ | refine codeStep ?_ | refine drawStep ?_
    refine optE_of (c := .str l[i]) (by simp [Value.cells, hia]) ?_
    repeat first | refine opsStep ?_ | refine codeStep ?_ | refine drawStep ?_
    refine .inl ⟨_, _, [], (r04_Name l[i] (hs _ (List.getElem_mem hia))), RdsN_refl _, .inr rfl, none_need, ?_⟩
    repeat first | refine opsStep ?_ | refine codeStep ?_ | refine drawStep ?_
    refine decB_split (fun h => ?_) (fun h => ?_)
    · repeat first | refine opsStep ?_ | refine codeStep ?_ | refine drawStep ?_
      refine ⟨by kernel_rfl, ?_⟩
      repeat first | refine opsStep ?_ | refine codeStep ?_ | refine drawStep ?_
      exact finB rfl (by rw [rises_bad hia (by rw [badAt, hg]; simp at h; simp [h])])
    · repeat first | refine opsStep ?_ | refine codeStep ?_ | refine drawStep ?_
      have hn : nameS l[i] = true := by simpa using h
      refine decB_dec (fun h1 => ?_) (fun h1 => ?_)
      · have h1' : 0 < i := by simpa using h1
        have hw : IntKind.wrap .i64 ((i : Int) - 1) = ((i - 1 : Nat) : Int) := by rw [IntWalk.i64_in _ (by omega)]; omega
        have hg1 : l.getD (i - 1) [] = l[i - 1] := by simp [List.getD_eq_getElem?_getD, show i - 1 < l.length by omega]
        repeat first | refine opsStep ?_ | refine codeStep ?_ | refine drawStep ?_
        refine guardE_of (by rw [hw]; omega) ?_
        repeat first | refine opsStep ?_ | refine codeStep ?_ | refine drawStep ?_
        refine optE_of (c := .str l[i - 1]) (by rw [hw]; simp [Value.cells, show i - 1 < l.length by omega]) ?_
        repeat first | refine opsStep ?_ | refine codeStep ?_ | refine drawStep ?_
        refine guardE_of (by simp; omega) ?_
        repeat first | refine opsStep ?_ | refine codeStep ?_ | refine drawStep ?_
        refine optE_of (c := .str l[i]) (by simp [Value.cells, hia]) ?_
        repeat first | refine opsStep ?_ | refine codeStep ?_ | refine drawStep ?_
        refine ⟨by kernel_rfl, ?_⟩
        repeat first | refine opsStep ?_ | refine codeStep ?_ | refine drawStep ?_
        refine decB_split (fun h => ?_) (fun h => ?_)
        · repeat first | refine opsStep ?_ | refine codeStep ?_ | refine drawStep ?_
          exact finB rfl (by rw [rises_bad hia (by rw [badAt, hg, hg1]; simp at h; simp [h, h1'])])
        · repeat first | refine opsStep ?_ | refine codeStep ?_ | refine drawStep ?_
          refine ⟨⟨i + 1, by omega, hnext (by rw [badAt, hg, hg1]; simp at h; simp [h, hn])⟩, (by show l.length - (i + 1) < l.length - i; omega), Ent.fr' ⟨(by kernel_rfl), inc_slot (i := i) (by omega), trivial⟩ (by kernel_rfl)⟩
      · repeat first | refine opsStep ?_ | refine codeStep ?_ | refine drawStep ?_
        refine ⟨by kernel_rfl, ?_⟩
        repeat first | refine opsStep ?_ | refine codeStep ?_ | refine drawStep ?_
        have h1' : i = 0 := by simp at h1; omega
        refine ⟨⟨i + 1, by omega, hnext (by rw [badAt, hg, hn, decide_eq_false (show ¬ 0 < i by omega)]; simp)⟩, (by show l.length - (i + 1) < l.length - i; omega), Ent.fr' ⟨(by kernel_rfl), inc_slot (i := i) (by omega), trivial⟩ (by kernel_rfl)⟩
  · repeat first | refine opsStep ?_ | refine codeStep ?_ | refine drawStep ?_
    have : i = l.length := by simp at h; omega
    exact finB rfl (by subst this; rw [rises_ok hpre])

def lettersS (k : Nat) : Int := IntKind.wrap .i64 (2 ^ k)
theorem lettersS_small {k : Nat} (h : k ≤ 62) : lettersS k = 2 ^ k := by
  have : 2 ^ k ≤ 2 ^ 62 := Nat.pow_le_pow_right (by omega) h
  have e : ((2 : Int) ^ k) = ((2 ^ k : Nat) : Int) := by simp
  rw [lettersS, e]
  generalize 2 ^ k = q at *
  exact IntWalk.i64_in _ (by constructor <;> omega)
theorem wrap_wrap_mul (a b : Int) : IntKind.wrap .i64 (IntKind.wrap .i64 a * b) = IntKind.wrap .i64 (a * b) := by
  simp only [IntKind.wrap_i64]
  have h1 : ∀ x : Int, (x + 9223372036854775808) % 18446744073709551616 - 9223372036854775808 = x - 18446744073709551616 * ((x + 9223372036854775808) / 18446744073709551616) := fun x => by omega
  rw [h1 a]
  generalize (a + 9223372036854775808) / 18446744073709551616 = q
  have : (a - 18446744073709551616 * q) * b = a * b + 18446744073709551616 * (- (q * b)) := by
    rw [Int.sub_mul, Int.mul_assoc, Int.mul_neg]; omega
  rw [this]
  omega

theorem r12_Letters (k : Nat) (hk : k < 2^62) : Pure Try.prog 16 [.int .i64 k] (.int .i64 (lettersS k)) := by
  refine Pure.of_sw 13 Try.func16 rfl Try.ntmps16 (by kernel_rfl) (Nat.le_of_ble_eq_true (by kernel_rfl)) (by simp [closeds, AV.closed, aSs_closed, aIs_closed, aBs_closed, aRs_closed, aDen_closed]) (by simp [AV.closed, closeds, aSs_closed, aIs_closed, aBs_closed, aRs_closed, aDen_closed]) ?_; refine SW.of_vc ?_
  repeat first | refine opsStep ?_ | refine codeStep ?_ | refine drawStep ?_
  refine loopE_of (ι := {i : Nat // i ≤ k}) (fun i => (fr [(0, .int .i64 k), (3, .int .i64 (lettersS i.1)), (4, .int .i64 i.1)], [])) (fun i => k - i.1) ⟨0, by omega⟩ (Ent.fr' ⟨(by kernel_rfl), (by kernel_rfl), (by kernel_rfl), trivial⟩ (by kernel_rfl)) ?_
  rintro ⟨i, hi⟩
  repeat first | refine opsStep ?_ | refine codeStep ?_ | refine drawStep ?_
  refine decB_dec (fun h => ?_) (fun h => ?_)
  · have hik : i < k := by simpa using h
    repeat first | refine opsStep ?_ | refine codeStep ?_ | refine drawStep ?_
    refine ⟨⟨i + 1, by omega⟩, (by show k - (i + 1) < k - i; omega), Ent.fr' ⟨(by kernel_rfl), ?_, inc_slot (i := i) (by omega), trivial⟩ (by kernel_rfl)⟩
    show AV.int .i64 (IntKind.wrap .i64 (IntKind.wrap .i64 (2 ^ i) * 2)) = AV.int .i64 (IntKind.wrap .i64 (2 ^ (i + 1)))
    rw [wrap_wrap_mul, Int.pow_succ]
  · repeat first | refine opsStep ?_ | refine codeStep ?_ | refine drawStep ?_
    have : i = k := by simp at h; omega
    subst this
    exact finE_of (by kernel_rfl)

def tracksS (l : List (List UInt8)) (n : Int) : Bool := decide (l.length ≤ 6) && risesS l && decide (1 ≤ n) && decide (n ≤ 256)

theorem r12_Frame (k : SK) (l : List (List UInt8)) (n : Int) (hl : l.length < 2^62) (hs : ∀ s ∈ l, s.length < 2^62) : Pure Try.prog 15 [aSs k l, .int .i64 n] (.bool (tracksS l n)) := by
  refine Pure.of_sw 20 Try.func15 rfl Try.ntmps15 (by kernel_rfl) (Nat.le_of_ble_eq_true (by kernel_rfl)) (by simp [closeds, AV.closed, aSs_closed, aIs_closed, aBs_closed, aRs_closed, aDen_closed]) (by simp [AV.closed, closeds, aSs_closed, aIs_closed, aBs_closed, aRs_closed, aDen_closed]) ?_; refine SW.of_vc ?_
  repeat first | refine opsStep ?_ | refine codeStep ?_ | refine drawStep ?_
  refine decB_dec (fun h1 => ?_) (fun h1 => ?_)
  · repeat first | refine opsStep ?_ | refine codeStep ?_ | refine drawStep ?_
    refine callP (r04_Rises k l hl hs) ?_
    repeat first | refine opsStep ?_ | refine codeStep ?_ | refine drawStep ?_
    have e1 : decide (l.length ≤ 6) = true := decide_eq_true (by have := h1; omega)
    refine decB_split (fun h => ?_) (fun h => ?_)
    · repeat first | refine opsStep ?_ | refine codeStep ?_ | refine drawStep ?_
      refine decB_dec (fun h2 => ?_) (fun h2 => ?_)
      · repeat first | refine opsStep ?_ | refine codeStep ?_ | refine drawStep ?_
        exact finB rfl (by rw [tracksS, e1, h, decide_eq_true (show 1 ≤ n from h2)]; simp)
      · repeat first | refine opsStep ?_ | refine codeStep ?_ | refine drawStep ?_
        exact finB rfl (by rw [tracksS, decide_eq_false (show ¬ 1 ≤ n from h2)]; simp)
    · repeat first | refine opsStep ?_ | refine codeStep ?_ | refine drawStep ?_
      exact finB rfl (by rw [tracksS, h]; simp)
  · repeat first | refine opsStep ?_ | refine codeStep ?_ | refine drawStep ?_
    exact finB rfl (by rw [tracksS, decide_eq_false (show ¬ l.length ≤ 6 by have := h1; omega)]; simp)

theorem table_tracks (k : SK) (l : List (List UInt8)) (n : Int) (hl : l.length < 2^62) (hs : ∀ s ∈ l, s.length < 2^62) : Pure Try.prog 35 [aSs k l, .int .i64 n] (.bool (tracksS l n)) := by
  refine Pure.of_sw 20 Try.func35 rfl Try.ntmps35 (by kernel_rfl) (Nat.le_of_ble_eq_true (by kernel_rfl)) (by simp [closeds, AV.closed, aSs_closed, aIs_closed, aBs_closed, aRs_closed, aDen_closed]) (by simp [AV.closed, closeds, aSs_closed, aIs_closed, aBs_closed, aRs_closed, aDen_closed]) ?_; refine SW.of_vc ?_
  repeat first | refine opsStep ?_ | refine codeStep ?_ | refine drawStep ?_
  refine decB_dec (fun h1 => ?_) (fun h1 => ?_)
  · repeat first | refine opsStep ?_ | refine codeStep ?_ | refine drawStep ?_
    have e1 : decide (l.length ≤ 6) = true := decide_eq_true (by have := h1; omega)
    refine decB_dec (fun h2 => ?_) (fun h2 => ?_)
    · repeat first | refine opsStep ?_ | refine codeStep ?_ | refine drawStep ?_
      refine decB_dec (fun h3 => ?_) (fun h3 => ?_)
      · repeat first | refine opsStep ?_ | refine codeStep ?_ | refine drawStep ?_
        refine callP (glyph_Rises k l hl hs) ?_
        repeat first | refine opsStep ?_ | refine codeStep ?_ | refine drawStep ?_
        exact finB rfl (by rw [tracksS, e1, decide_eq_true (show 1 ≤ n from h2), decide_eq_true (show n ≤ 256 from h3)]; simp)
      · repeat first | refine opsStep ?_ | refine codeStep ?_ | refine drawStep ?_
        exact finB rfl (by rw [tracksS, decide_eq_false (show ¬ n ≤ 256 from h3)]; simp)
    · repeat first | refine opsStep ?_ | refine codeStep ?_ | refine drawStep ?_
      exact finB rfl (by rw [tracksS, decide_eq_false (show ¬ 1 ≤ n from h2)]; simp)
  · repeat first | refine opsStep ?_ | refine codeStep ?_ | refine drawStep ?_
    exact finB rfl (by rw [tracksS, decide_eq_false (show ¬ l.length ≤ 6 by have := h1; omega)]; simp)

def digN : Nat → Nat → List Int
  | _, 0 => []
  | a, n + 1 => ((a % 2 : Nat) : Int) :: digN (a / 2) n

theorem digN_length (a n) : (digN a n).length = n := by
  induction n generalizing a with
  | zero => rfl
  | succ n ih => simp [digN, ih]
theorem digN_snoc (a n) : digN a (n + 1) = digN a n ++ [((a / 2 ^ n % 2 : Nat) : Int)] := by
  induction n generalizing a with
  | zero => simp [digN]
  | succ n ih =>
    rw [digN, ih, digN, Nat.div_div_eq_div_mul, Nat.pow_succ, Nat.mul_comm]
    rfl

end Tab
