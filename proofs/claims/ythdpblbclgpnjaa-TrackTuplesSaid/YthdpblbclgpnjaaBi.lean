/- Letters out of digits, digits out of letters. -/
import Derived.Test.YthdpblbclgpnjaaLt
namespace Tab
open Go Go.Proofs
set_option maxRecDepth 10000
set_option linter.unusedVariables false
set_option linter.unusedSimpArgs false
set_option linter.unusedSectionVars false

def letS : List Int → Int
  | [] => 0
  | d :: l => 2 * letS l + d

theorem letS_bound : ∀ {l : List Int}, (∀ d ∈ l, 0 ≤ d ∧ d ≤ 1) → 0 ≤ letS l ∧ letS l < ((2 ^ l.length : Nat) : Int)
  | [], _ => by simp [letS]
  | d :: l, h => by
    have ih := letS_bound (l := l) (fun x hx => h x (List.mem_cons_of_mem _ hx))
    have hd := h d (List.mem_cons_self ..)
    simp only [letS, List.length_cons, Nat.pow_succ]
    generalize 2 ^ l.length = q at *
    omega

def plS (l : List Int) : Int := if 6 < l.length ∨ ∃ p ∈ l, p < 0 ∨ 6 ≤ p then 2 else 0

theorem bits_places (k : SK) (l : List Int) (hl : l.length < 2^62) : Pure Try.prog 50 [aIs k l] (.int .i64 (plS l)) := by
  refine Pure.of_sw 21 Try.func50 rfl Try.ntmps50 (by kernel_rfl) (Nat.le_of_ble_eq_true (by kernel_rfl)) (by simp [closeds, AV.closed, aSs_closed, aIs_closed, aBs_closed, aRs_closed, aDen_closed]) (by simp [AV.closed, closeds, aSs_closed, aIs_closed, aBs_closed, aRs_closed, aDen_closed]) ?_; refine SW.of_vc ?_
  repeat first | refine opsStep ?_ | refine codeStep ?_ | refine drawStep ?_
  refine decB_dec (fun h6 => ?_) (fun h6 => ?_)
  · repeat first | refine opsStep ?_ | refine codeStep ?_ | refine drawStep ?_
    exact finV (v' := .int .i64 2) (by kernel_rfl) (by rw [plS, if_pos (.inl (by have := h6; omega))])
  · repeat first | refine opsStep ?_ | refine codeStep ?_ | refine drawStep ?_
    refine loopE_of (ι := {i : Nat // i ≤ l.length ∧ ∀ p ∈ l.take i, 0 ≤ p ∧ p < 6}) (fun i => (fr [(0, aIs k l), (8, aIs k l), (9, .int .i64 l.length), (10, .int .i64 i.1)], [])) (fun i => l.length - i.1) ⟨0, by omega, by simp⟩ (Ent.fr' ⟨(by kernel_rfl), (by kernel_rfl), (by kernel_rfl), (by kernel_rfl), trivial⟩ (by kernel_rfl)) ?_
    rintro ⟨i, hi, hpre⟩
    repeat first | refine opsStep ?_ | refine codeStep ?_ | refine drawStep ?_
    refine decB_dec (fun h => ?_) (fun h => ?_)
    · have hia : i < l.length := by simpa using h
      repeat first | refine opsStep ?_ | refine codeStep ?_ | refine drawStep ?_
      refine guardE_of (by simp; omega) ?_
      repeat first | refine opsStep ?_ | refine codeStep ?_ | refine drawStep ?_
      refine optE_of (c := .int .i64 l[i]) (by simp [Value.cells, hia]) ?_
      repeat first | refine opsStep ?_ | refine codeStep ?_ | refine drawStep ?_
      refine decB_dec (fun h1 => ?_) (fun h1 => ?_)
      · repeat first | refine opsStep ?_ | refine codeStep ?_ | refine drawStep ?_
        exact finV (v' := .int .i64 2) (by kernel_rfl) (by rw [plS, if_pos (.inr ⟨_, List.getElem_mem hia, .inl h1⟩)])
      · repeat first | refine opsStep ?_ | refine codeStep ?_ | refine drawStep ?_
        refine decB_dec (fun h2 => ?_) (fun h2 => ?_)
        · repeat first | refine opsStep ?_ | refine codeStep ?_ | refine drawStep ?_
          exact finV (v' := .int .i64 2) (by kernel_rfl) (by rw [plS, if_pos (.inr ⟨_, List.getElem_mem hia, .inr h2⟩)])
        · repeat first | refine opsStep ?_ | refine codeStep ?_ | refine drawStep ?_
          refine ⟨⟨i + 1, by omega, ?_⟩, (by show l.length - (i + 1) < l.length - i; omega), Ent.fr' ⟨(by kernel_rfl), (by kernel_rfl), (by kernel_rfl), inc_slot (i := i) (by omega), trivial⟩ (by kernel_rfl)⟩
          rw [List.take_succ_eq_append_getElem hia]
          intro p hp
          rcases List.mem_append.1 hp with hp | hp
          · exact hpre p hp
          · rw [List.mem_singleton.1 hp]; omega
    · repeat first | refine opsStep ?_ | refine codeStep ?_ | refine drawStep ?_
      have : i = l.length := by simp at h; omega
      exact finV (v' := .int .i64 0) (by kernel_rfl) (by
        subst this
        rw [List.take_length] at hpre
        rw [plS, if_neg]
        rintro (h | ⟨p, hp, h⟩)
        · have := h6; omega
        · have := hpre p hp; omega)

theorem bits_letters (a n : Nat) (hn : n ≤ 61) : Pure Try.prog 51 [.int .i64 a, .int .i64 n] (.bool (decide (a < 2 ^ n))) := by
  refine Pure.of_sw 13 Try.func51 rfl Try.ntmps51 (by kernel_rfl) (Nat.le_of_ble_eq_true (by kernel_rfl)) (by simp [closeds, AV.closed, aSs_closed, aIs_closed, aBs_closed, aRs_closed, aDen_closed]) (by simp [AV.closed, closeds, aSs_closed, aIs_closed, aBs_closed, aRs_closed, aDen_closed]) ?_; refine SW.of_vc ?_
  have e : IntKind.wrap .i64 (1 * 2 ^ (min (n : Int).toNat 64)) = ((2 ^ n : Nat) : Int) := by
    have : 2 ^ n ≤ 2 ^ 61 := Nat.pow_le_pow_right (by omega) hn
    rw [show min (n : Int).toNat 64 = n by simp; omega, show (1 : Int) * 2 ^ n = ((2 ^ n : Nat) : Int) by simp]
    generalize 2 ^ n = q at *
    exact IntWalk.i64_in _ (by omega)
  repeat first | refine opsStep ?_ | refine codeStep ?_ | refine drawStep ?_
  exact finB (b' := decide ((a : Int) < IntKind.wrap .i64 (1 * 2 ^ (min (n : Int).toNat 64)))) (by kernel_rfl) (by rw [e, decide_eq_decide]; exact Int.ofNat_lt)

theorem and_one (x : Nat) (hx : x < 2^63) : IntKind.wrap .i64 ((BitVec.ofInt 64 (x : Int) &&& BitVec.ofInt 64 1).toNat) = ((x % 2 : Nat) : Int) := by
  have e : (BitVec.ofInt 64 (x : Int) &&& BitVec.ofInt 64 1).toNat = x % 2 := by
    rw [BitVec.toNat_and, BitVec.toNat_ofInt, BitVec.toNat_ofInt]
    rw [show ((x : Int) % ((2 ^ 64 : Nat) : Int)).toNat = x by omega]
    rw [show (((1 : Int)) % ((2 ^ 64 : Nat) : Int)).toNat = 1 by rfl]
    exact Nat.and_one_is_mod x
  rw [e]
  exact IntWalk.i64_in _ (by omega)

theorem bits_Digit (a t : Nat) (ha : a < 2^62) (ht : t ≤ 61) : Pure Try.prog 52 [.int .i64 a, .int .i64 t] (.int .i64 ((a / 2 ^ t % 2 : Nat) : Int)) := by
  refine Pure.of_sw 19 Try.func52 rfl Try.ntmps52 (by kernel_rfl) (Nat.le_of_ble_eq_true (by kernel_rfl)) (by simp [closeds, AV.closed, aSs_closed, aIs_closed, aBs_closed, aRs_closed, aDen_closed]) (by simp [AV.closed, closeds, aSs_closed, aIs_closed, aBs_closed, aRs_closed, aDen_closed]) ?_; refine SW.of_vc ?_
  have e1 : (a : Int).fdiv (2 ^ (min (t : Int).toNat 64)) = ((a / 2 ^ t : Nat) : Int) := by
    rw [show min (t : Int).toNat 64 = t by simp; omega, show (2 : Int) ^ t = ((2 ^ t : Nat) : Int) by simp]
    rw [Int.fdiv_eq_ediv_of_nonneg _ (Int.natCast_nonneg _)]
    rfl
  repeat first | refine opsStep ?_ | refine codeStep ?_ | refine drawStep ?_
  refine decB_dec (fun h => ?_) (fun h => ?_)
  · exact absurd h (by omega)
  · repeat first | refine opsStep ?_ | refine codeStep ?_ | refine drawStep ?_
    exact finV (v' := .int .i64 (IntKind.wrap .i64 ((BitVec.ofInt 64 ((a : Int).fdiv (2 ^ (min (t : Int).toNat 64))) &&& BitVec.ofInt 64 1).toNat))) (by kernel_rfl) (by
      rw [e1, and_one _ (Nat.lt_of_le_of_lt (Nat.div_le_self _ _) (by omega))])

theorem or_shift (x d i : Nat) (hx : x < 2 ^ i) (hd : d ≤ 1) (hi : i ≤ 60) : IntKind.wrap .i64 ((BitVec.ofInt 64 (x : Int) ||| BitVec.ofInt 64 (IntKind.wrap .i64 ((d : Int) * 2 ^ (min (i : Int).toNat 64)))).toNat) = ((x + d * 2 ^ i : Nat) : Int) := by
  have hp : 2 ^ i ≤ 2 ^ 60 := Nat.pow_le_pow_right (by omega) hi
  have hs : IntKind.wrap .i64 ((d : Int) * 2 ^ (min (i : Int).toNat 64)) = ((d * 2 ^ i : Nat) : Int) := by
    rw [show min (i : Int).toNat 64 = i by simp; omega, show (d : Int) * 2 ^ i = ((d * 2 ^ i : Nat) : Int) by simp]
    have : d * 2 ^ i ≤ 1 * 2 ^ i := Nat.mul_le_mul_right _ hd
    generalize d * 2 ^ i = q at *
    exact IntWalk.i64_in _ (by omega)
  have hd2 : d * 2 ^ i ≤ 1 * 2 ^ i := Nat.mul_le_mul_right _ hd
  have e : (BitVec.ofInt 64 (x : Int) ||| BitVec.ofInt 64 ((d * 2 ^ i : Nat) : Int)).toNat = x + d * 2 ^ i := by
    rw [BitVec.toNat_or, BitVec.toNat_ofInt, BitVec.toNat_ofInt]
    rw [show ((x : Int) % ((2 ^ 64 : Nat) : Int)).toNat = x by omega]
    rw [show (((d * 2 ^ i : Nat) : Int) % ((2 ^ 64 : Nat) : Int)).toNat = d * 2 ^ i by omega]
    rw [Nat.or_comm, Nat.mul_comm d, ← Nat.two_pow_add_eq_or_of_lt hx]
    omega
  rw [hs, e]
  exact IntWalk.i64_in _ (by omega)

/-- The letter made of the digits of a at these places. -/
def gatN (a : Nat) : List Nat → Nat
  | [] => 0
  | p :: l => a / 2 ^ p % 2 + 2 * gatN a l

theorem gatN_snoc (a : Nat) : ∀ (l : List Nat) (p : Nat), gatN a (l ++ [p]) = gatN a l + (a / 2 ^ p % 2) * 2 ^ l.length
  | [], p => by simp [gatN]
  | q :: l, p => by
    simp only [List.cons_append, gatN, gatN_snoc a l p, List.length_cons, Nat.pow_succ]
    rw [Nat.mul_add, Nat.mul_comm (2 ^ l.length) 2, ← Nat.mul_assoc, ← Nat.mul_assoc, Nat.mul_comm 2 (a / 2 ^ p % 2)]
    omega
theorem gatN_lt (a : Nat) : ∀ (l : List Nat), gatN a l < 2 ^ l.length
  | [] => by simp [gatN]
  | q :: l => by
    have := gatN_lt a l
    simp only [gatN, List.length_cons, Nat.pow_succ]
    omega

theorem bits_Gather (k : SK) (a : Nat) (l : List Nat) (ha : a < 64) (hl : l.length ≤ 6) (hp : ∀ p ∈ l, p < 6) : Pure Try.prog 45 [.int .i64 a, aIs k (l.map fun p : Nat => (p : Int))] (.tup [.int .i64 (gatN a l : Nat), .int .i64 0]) := by
  have hpl : plS (l.map fun p : Nat => (p : Int)) = 0 := by
    rw [plS, if_neg]
    rintro (h | ⟨p, hm, h⟩)
    · simp at h; omega
    · obtain ⟨q, hq, rfl⟩ := List.mem_map.1 hm
      have := hp q hq; omega
  have hlet := bits_letters a 6 (by omega)
  rw [decide_eq_true (show a < 2 ^ 6 by omega)] at hlet
  have hpc := bits_places k (l.map fun p : Nat => (p : Int)) (by simp; omega)
  rw [hpl] at hpc
  refine Pure.of_sw 33 Try.func45 rfl Try.ntmps45 (by kernel_rfl) (Nat.le_of_ble_eq_true (by kernel_rfl)) (by simp [closeds, AV.closed, aSs_closed, aIs_closed, aBs_closed, aRs_closed, aDen_closed]) (by simp [AV.closed, closeds, aSs_closed, aIs_closed, aBs_closed, aRs_closed, aDen_closed]) ?_; refine SW.of_vc ?_
  repeat first | refine opsStep ?_ | refine codeStep ?_ | refine drawStep ?_
  refine callP hpc ?_
  repeat first | refine opsStep ?_ | refine codeStep ?_ | refine drawStep ?_
  refine callP hlet ?_
  repeat first | refine opsStep ?_ | refine codeStep ?_ | refine drawStep ?_
  refine loopE_of (ι := {i : Nat // i ≤ l.length}) (fun i => (fr [(0, .int .i64 a), (1, aIs k (l.map fun p : Nat => (p : Int))), (6, .int .i64 (gatN a (l.take i.1) : Nat)), (17, aIs k (l.map fun p : Nat => (p : Int))), (18, .int .i64 l.length), (19, .int .i64 i.1)], [])) (fun i => l.length - i.1) ⟨0, by omega⟩
    (Ent.fr' ⟨(by kernel_rfl), (by kernel_rfl), (by kernel_rfl), (by kernel_rfl), (congrArg (fun n : Nat => AV.int .i64 n) (List.length_map _) : _), (by kernel_rfl), trivial⟩ (by kernel_rfl)) ?_
  rintro ⟨i, hi⟩
  repeat first | refine opsStep ?_ | refine codeStep ?_ | refine drawStep ?_
  refine decB_dec (fun h => ?_) (fun h => ?_)
  · have hia : i < l.length := by simpa using h
    have hpi := hp _ (List.getElem_mem hia)
    repeat first | refine opsStep ?_ | refine codeStep ?_ | refine drawStep ?_
    refine guardE_of (by simp; omega) ?_
    repeat first | refine opsStep ?_ | refine codeStep ?_ | refine drawStep ?_
    refine optE_of (c := .int .i64 ((l[i] : Nat) : Int)) (by simp [Value.cells, hia]) ?_
    repeat first | refine opsStep ?_ | refine codeStep ?_ | refine drawStep ?_
    refine callP (bits_Digit a l[i] (by omega) (by omega)) ?_
    repeat first | refine opsStep ?_ | refine codeStep ?_ | refine drawStep ?_
    have hgl := gatN_lt a (l.take i)
    rw [List.length_take, Nat.min_eq_left hi] at hgl
    refine ⟨⟨i + 1, by omega⟩, (by show l.length - (i + 1) < l.length - i; omega), Ent.fr' ⟨(by kernel_rfl), (by kernel_rfl), ?_, (by kernel_rfl), (by kernel_rfl), inc_slot (i := i) (by omega), trivial⟩ (by kernel_rfl)⟩
    have := or_shift (gatN a (l.take i)) (a / 2 ^ l[i] % 2) i hgl (by omega) (by omega)
    have e3 : gatN a (l.take (i + 1)) = gatN a (l.take i) + a / 2 ^ l[i] % 2 * 2 ^ i := by
      rw [List.take_succ_eq_append_getElem hia, gatN_snoc, List.length_take, Nat.min_eq_left hi]
    exact congrArg (AV.int .i64) (this.trans (congrArg (fun n : Nat => (n : Int)) e3.symm))
  · repeat first | refine opsStep ?_ | refine codeStep ?_ | refine drawStep ?_
    have : i = l.length := by simp at h; omega
    subst this
    exact finV (v' := .tup [.int .i64 (gatN a (l.take l.length) : Nat), .int .i64 0]) (by kernel_rfl) (by rw [List.take_length])

end Tab
