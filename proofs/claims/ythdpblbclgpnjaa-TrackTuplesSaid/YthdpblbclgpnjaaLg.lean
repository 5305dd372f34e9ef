/- How many digits a number needs. -/
import Derived.Test.YthdpblbclgpnjaaSo
namespace Tab
open Go Go.Proofs
set_option maxRecDepth 10000
set_option linter.unusedVariables false
set_option linter.unusedSimpArgs false
set_option linter.unusedSectionVars false

theorem VCode.isCond {P : Program} {nt : Fr} {c : Operand} {x y : Code} {s : Slots} {H : List Blk} {K : Post} (h : VCode P nt (.cond c x y) s H K) : VCode P nt (.cond c x y) s H K := h

/-- The length of a small number in bits. -/
def bitsN (n : Nat) : Nat := if n = 0 then 0 else n.log2 + 1
theorem bitsN_le : ∀ n, n < 256 → bitsN n ≤ 8 := by decide +kernel
theorem bitsN_le7 : ∀ n, n < 128 → bitsN n ≤ 7 := by decide +kernel
/-- The length in bits, as the library counts it. -/
def cutN (c n : Nat) : Nat := if c ≤ n then n / c else n
def addN (c k n : Nat) : Nat := if c ≤ n then k else 0
def lenN (n : Nat) : Nat := addN 4294967296 32 n + addN 65536 16 (cutN 4294967296 n) + addN 256 8 (cutN 65536 (cutN 4294967296 n)) + bitsN (cutN 256 (cutN 65536 (cutN 4294967296 n)))
theorem lenN_le {n : Nat} (h : n < 2 ^ 63) : lenN n ≤ 63 := by
  have h1 : cutN 4294967296 n < 2 ^ 32 ∧ (4294967296 ≤ n → cutN 4294967296 n < 2 ^ 31) := by
    rw [cutN]; split <;> omega
  simp only [lenN]
  have h0 : addN 4294967296 32 n = if 4294967296 ≤ n then 32 else 0 := rfl
  rw [h0]
  generalize cutN 4294967296 n = a at *
  have h2 : cutN 65536 a < 2 ^ 16 ∧ (65536 ≤ a → a < 2 ^ 31 → cutN 65536 a < 2 ^ 15) := by
    rw [cutN]; split <;> omega
  have h0 : addN 65536 16 a = if 65536 ≤ a then 16 else 0 := rfl
  rw [h0]
  generalize cutN 65536 a = b at *
  have h3 : cutN 256 b < 2 ^ 8 ∧ (256 ≤ b → b < 2 ^ 15 → cutN 256 b < 2 ^ 7) := by
    rw [cutN]; split <;> omega
  have h0 : addN 256 8 b = if 256 ≤ b then 8 else 0 := rfl
  rw [h0]
  generalize cutN 256 b = c at *
  have k8 := bitsN_le c (by omega)
  have k7 := bitsN_le7 c
  split <;> split <;> split <;> omega

theorem tab_at (l : List UInt8) (h : ((List.range 256).all fun k => l[k]? == some (UInt8.ofNat (bitsN k))) = true) (n : Nat) (hn : n < 256) : l[(n : Int).toNat]? = some (UInt8.ofNat (bitsN n)) := by
  have := List.all_eq_true.1 h n (List.mem_range.2 hn)
  simpa using this

theorem shr_nat (n k : Nat) (hk : k ≤ 64) : (n : Int).fdiv (2 ^ (min (k : Int).toNat 64)) = ((n / 2 ^ k : Nat) : Int) := by
  rw [show min (k : Int).toNat 64 = k by simp; omega, show (2 : Int) ^ k = ((2 ^ k : Nat) : Int) by simp]
  rw [Int.fdiv_eq_ediv_of_nonneg _ (Int.natCast_nonneg _)]
  rfl

theorem Len64_val (n : Nat) (hn : n < 2 ^ 64) : Pure Try.prog 53 [.int .u64 n] (.int .i64 (lenN n : Nat)) := by
  have b1 : cutN 4294967296 n < 2 ^ 32 := by rw [cutN]; split <;> omega
  have b2 : cutN 65536 (cutN 4294967296 n) < 2 ^ 16 := by rw [cutN]; split <;> omega
  have b3 : cutN 256 (cutN 65536 (cutN 4294967296 n)) < 256 := by rw [cutN]; split <;> omega
  refine Pure.of_sw 25 Try.func53 rfl Try.ntmps53 (by kernel_rfl) (Nat.le_of_ble_eq_true (by kernel_rfl)) (by simp [closeds, AV.closed, aSs_closed, aIs_closed, aBs_closed, aRs_closed, aDen_closed]) (by simp [AV.closed, closeds, aSs_closed, aIs_closed, aBs_closed, aRs_closed, aDen_closed]) ?_; refine SW.of_vc ?_
  iterate 2 refine codeStep ?_
  iterate 2 refine opsStep ?_
  iterate 3 refine codeStep ?_
  iterate 3 refine opsStep ?_
  refine VCode.join (b := decide ((n : Int) ≥ 4294967296)) (fr [(0, .int .u64 (cutN 4294967296 n : Nat)), (2, .int .i64 (addN 4294967296 32 n : Nat))]) [] (by kernel_rfl) (fun hz => ?_) (fun hz => ?_) (fun s₁ H₁ he => VCode.ent he ?_)
  · have hz : (n : Int) ≥ 4294967296 := of_decide_eq_true hz
    have hz : 4294967296 ≤ n := by omega
    repeat first | refine opsStep ?_ | refine codeStep ?_ | refine drawStep ?_
    refine Ent.fr' ⟨?_, ?_, trivial⟩ (by kernel_rfl)
    · show AV.int .u64 ((n : Int).fdiv (2 ^ (min ((32 : Nat) : Int).toNat 64))) = _
      rw [shr_nat n 32 (by omega), cutN, if_pos hz]
    · rw [addN, if_pos hz]; rfl
  · have hz : ¬ (n : Int) ≥ 4294967296 := of_decide_eq_false hz
    have hz : ¬ 4294967296 ≤ n := by omega
    repeat first | refine opsStep ?_ | refine codeStep ?_ | refine drawStep ?_
    refine Ent.fr' ⟨?_, ?_, trivial⟩ (by kernel_rfl)
    · rw [cutN, if_neg hz]; rfl
    · rw [addN, if_neg hz]; rfl
  simp only [lenN]
  have ha1 : addN 4294967296 32 n ≤ 32 := by rw [addN]; split <;> omega
  generalize cutN 4294967296 n = m at *
  generalize addN 4294967296 32 n = a at *
  iterate 3 refine codeStep ?_
  iterate 3 refine opsStep ?_
  refine VCode.join (b := decide ((m : Int) ≥ 65536)) (fr [(0, .int .u64 (cutN 65536 m : Nat)), (2, .int .i64 ((a + addN 65536 16 m : Nat) : Int))]) [] (by kernel_rfl) (fun hz => ?_) (fun hz => ?_) (fun s₁ H₁ he => VCode.ent he ?_)
  · have hz : (m : Int) ≥ 65536 := of_decide_eq_true hz
    have hz : 65536 ≤ m := by omega
    repeat first | refine opsStep ?_ | refine codeStep ?_ | refine drawStep ?_
    refine Ent.fr' ⟨?_, ?_, trivial⟩ (by kernel_rfl)
    · show AV.int .u64 ((m : Int).fdiv (2 ^ (min ((16 : Nat) : Int).toNat 64))) = _
      rw [shr_nat m 16 (by omega), cutN, if_pos hz]
    · show AV.int .i64 (IntKind.wrap .i64 ((a : Int) + 16)) = _
      rw [addN, if_pos hz, IntWalk.i64_in _ (by omega)]; rfl
  · have hz : ¬ (m : Int) ≥ 65536 := of_decide_eq_false hz
    have hz : ¬ 65536 ≤ m := by omega
    repeat first | refine opsStep ?_ | refine codeStep ?_ | refine drawStep ?_
    refine Ent.fr' ⟨?_, ?_, trivial⟩ (by kernel_rfl)
    · rw [cutN, if_neg hz]; rfl
    · rw [addN, if_neg hz]; rfl
  have ha2 : a + addN 65536 16 m ≤ 48 := by rw [addN]; split <;> omega
  generalize cutN 65536 m = n2 at *
  generalize a + addN 65536 16 m = a2 at *
  iterate 3 refine codeStep ?_
  iterate 3 refine opsStep ?_
  refine VCode.join (b := decide ((n2 : Int) ≥ 256)) (fr [(0, .int .u64 (cutN 256 n2 : Nat)), (2, .int .i64 ((a2 + addN 256 8 n2 : Nat) : Int))]) [] (by kernel_rfl) (fun hz => ?_) (fun hz => ?_) (fun s₁ H₁ he => VCode.ent he ?_)
  · have hz : (n2 : Int) ≥ 256 := of_decide_eq_true hz
    have hz : 256 ≤ n2 := by omega
    repeat first | refine opsStep ?_ | refine codeStep ?_ | refine drawStep ?_
    refine Ent.fr' ⟨?_, ?_, trivial⟩ (by kernel_rfl)
    · show AV.int .u64 ((n2 : Int).fdiv (2 ^ (min ((8 : Nat) : Int).toNat 64))) = _
      rw [shr_nat n2 8 (by omega), cutN, if_pos hz]
    · show AV.int .i64 (IntKind.wrap .i64 ((a2 : Int) + 8)) = _
      rw [addN, if_pos hz, IntWalk.i64_in _ (by omega)]; rfl
  · have hz : ¬ (n2 : Int) ≥ 256 := of_decide_eq_false hz
    have hz : ¬ 256 ≤ n2 := by omega
    repeat first | refine opsStep ?_ | refine codeStep ?_ | refine drawStep ?_
    refine Ent.fr' ⟨?_, ?_, trivial⟩ (by kernel_rfl)
    · rw [cutN, if_neg hz]; rfl
    · rw [addN, if_neg hz]; rfl
  have ha3 : a2 + addN 256 8 n2 ≤ 56 := by rw [addN]; split <;> omega
  generalize cutN 256 n2 = n3 at *
  generalize a2 + addN 256 8 n2 = a3 at *
  have hw : IntKind.wrap .u8 (n3 : Int) = n3 := IntWalk.u8_in _ (by omega)
  have hk := bitsN_le n3 b3
  repeat first | refine opsStep ?_ | refine codeStep ?_ | refine drawStep ?_
  refine guardE_of (p := isStr Try.prog 9 = true) (by kernel_rfl) ?_
  refine guardE_of (p := (0 : Int) ≤ IntKind.wrap .u8 n3) (by rw [hw]; omega) ?_
  refine optE_of (c := UInt8.ofNat (bitsN n3)) (by rw [hw]; exact tab_at _ (by kernel_rfl) n3 b3) ?_
  have hu : (UInt8.ofNat (bitsN n3)).toNat = bitsN n3 := by rw [UInt8.toNat_ofNat']; omega
  repeat first | refine opsStep ?_ | refine codeStep ?_ | refine drawStep ?_
  exact finV (v' := .int .i64 (IntKind.wrap .i64 ((a3 : Int) + IntKind.wrap .i64 ((UInt8.ofNat (bitsN n3)).toNat : Nat)))) (by kernel_rfl) (by
    rw [hu, IntWalk.i64_in (bitsN n3 : Nat) (by omega), IntWalk.i64_in _ (by omega)]; congr 1)

theorem inv_nonneg (v : Int) (h : -(2^63) ≤ v) (h2 : v < 0) : IntKind.wrap .i64 ((BitVec.ofInt 64 (-1) ^^^ BitVec.ofInt 64 v).toNat) = -1 - v := by
  have e : (BitVec.ofInt 64 (-1) ^^^ BitVec.ofInt 64 v) = ~~~ (BitVec.ofInt 64 v) := by
    rw [show BitVec.ofInt 64 (-1) = BitVec.allOnes 64 by rfl, BitVec.allOnes_xor]
  rw [e, BitVec.toNat_not, BitVec.toNat_ofInt]
  exact (congrArg (IntKind.wrap .i64) (by omega : _ = -1 - v)).trans (IntWalk.i64_in _ (by omega))

def absN (v : Int) : Nat := if v < 0 then (-1 - v).toNat else v.toNat
def lengthS (v : Int) : Nat := lenN (absN v) + 1
theorem absN_lt {v : Int} (h : -(2^63) ≤ v) (h2 : v < 2^63) : absN v < 2 ^ 63 := by rw [absN]; split <;> omega
theorem lengthS_le {v : Int} (h : -(2^63) ≤ v) (h2 : v < 2^63) : 1 ≤ lengthS v ∧ lengthS v ≤ 64 := by
  have := lenN_le (absN_lt h h2); rw [lengthS]; omega

theorem word_Length (v : Int) (h : -(2^63) ≤ v) (h2 : v < 2^63) : Pure Try.prog 46 [.int .i64 v] (.int .i64 (lengthS v : Nat)) := by
  have hl := Len64_val (absN v) (by have := absN_lt h h2; omega)
  have hb := lengthS_le h h2
  have ha := absN_lt h h2
  have hv : absN v = if v < 0 then (-1 - v).toNat else v.toNat := rfl
  have hlen : lengthS v = lenN (absN v) + 1 := rfl
  rw [hlen] at hb ⊢
  generalize lenN (absN v) = r at *
  generalize absN v = m at *
  refine Pure.of_sw 11 Try.func46 rfl Try.ntmps46 (by kernel_rfl) (Nat.le_of_ble_eq_true (by kernel_rfl)) (by simp [closeds, AV.closed, aSs_closed, aIs_closed, aBs_closed, aRs_closed, aDen_closed]) (by simp [AV.closed, closeds, aSs_closed, aIs_closed, aBs_closed, aRs_closed, aDen_closed]) ?_; refine SW.of_vc ?_
  iterate 2 refine codeStep ?_
  iterate 2 refine opsStep ?_
  iterate 3 refine codeStep ?_
  iterate 3 refine opsStep ?_
  refine VCode.join (b := decide (v < 0)) (fr [(0, .int .i64 m)]) [] (by kernel_rfl) (fun hz => ?_) (fun hz => ?_) (fun s₁ H₁ he => VCode.ent he ?_)
  · have hz : v < 0 := of_decide_eq_true hz
    repeat first | refine opsStep ?_ | refine codeStep ?_ | refine drawStep ?_
    refine Ent.fr' ⟨?_, trivial⟩ (by kernel_rfl)
    · show AV.int .i64 (IntKind.wrap .i64 ((BitVec.ofInt 64 (-1) ^^^ BitVec.ofInt 64 v).toNat)) = _
      rw [inv_nonneg v h hz]; rw [if_pos hz] at hv; congr 1; omega
  · have hz : ¬ v < 0 := of_decide_eq_false hz
    repeat first | refine opsStep ?_ | refine codeStep ?_ | refine drawStep ?_
    refine Ent.fr' ⟨?_, trivial⟩ (by kernel_rfl)
    · show AV.int .i64 v = _
      rw [if_neg hz] at hv; congr 1; omega
  have hu : IntKind.wrap .u64 (m : Int) = m := IntWalk.u64_in _ (by omega)
  rw [← hu] at hl
  repeat first | refine opsStep ?_ | refine codeStep ?_ | refine drawStep ?_
  refine callP hl ?_
  repeat first | refine opsStep ?_ | refine codeStep ?_ | refine drawStep ?_
  exact finV (v' := .int .i64 (IntKind.wrap .i64 ((r : Int) + 1))) (by kernel_rfl) (by rw [IntWalk.i64_in _ (by omega)]; congr 1)

def longS : Nat → List Int → Nat
  | n, [] => n
  | n, v :: l => longS (if lengthS v > n then lengthS v else n) l
theorem longS_bound : ∀ (l : List Int) (n : Nat), (∀ v ∈ l, -(2^63) ≤ v ∧ v < 2^63) → 1 ≤ n → n ≤ 64 → 1 ≤ longS n l ∧ longS n l ≤ 64
  | [], n, _, h1, h2 => ⟨h1, h2⟩
  | v :: l, n, h, h1, h2 => by
    have := lengthS_le (h v (by simp)).1 (h v (by simp)).2
    rw [longS]
    refine longS_bound l _ (fun x hx => h x (by simp [hx])) ?_ ?_ <;> split <;> omega

theorem word_Longest (k : SK) (l : List Int) (hl : l.length < 2^60) (hv : ∀ v ∈ l, -(2^63) ≤ v ∧ v < 2^63) : Pure Try.prog 32 [aIs k l] (.int .i64 (longS 1 l : Nat)) := by
  refine Pure.of_sw 18 Try.func32 rfl Try.ntmps32 (by kernel_rfl) (Nat.le_of_ble_eq_true (by kernel_rfl)) (by simp [closeds, AV.closed, aSs_closed, aIs_closed, aBs_closed, aRs_closed, aDen_closed]) (by simp [AV.closed, closeds, aSs_closed, aIs_closed, aBs_closed, aRs_closed, aDen_closed]) ?_; refine SW.of_vc ?_
  repeat first | refine opsStep ?_ | refine codeStep ?_ | refine drawStep ?_
  refine loopE_of (ι := {x : Nat × Nat // x.1 ≤ l.length ∧ longS x.2 (l.drop x.1) = longS 1 l ∧ x.2 ≤ 64}) (fun x => (fr [(0, aIs k l), (3, .int .i64 x.1.2), (6, aIs k l), (7, .int .i64 l.length), (8, .int .i64 x.1.1)], [])) (fun x => l.length - x.1.1) ⟨(0, 1), by simp, by simp, by simp⟩ (Ent.fr' ⟨(by kernel_rfl), (by kernel_rfl), (by kernel_rfl), (by kernel_rfl), (by kernel_rfl), trivial⟩ (by kernel_rfl)) ?_
  rintro ⟨⟨i, n⟩, hi, hpre, hn⟩
  have hi : i ≤ l.length := hi
  repeat first | refine opsStep ?_ | refine codeStep ?_ | refine drawStep ?_
  refine decB_dec (fun h => ?_) (fun h => ?_)
  · have hia : i < l.length := by have := h; simp at this; omega
    have hx := hv _ (List.getElem_mem hia)
    have hb := lengthS_le hx.1 hx.2
    have hpre : longS n (l.drop i) = longS 1 l := hpre
    rw [List.drop_eq_getElem_cons hia, longS] at hpre
    repeat first | refine opsStep ?_ | refine codeStep ?_ | refine drawStep ?_
    refine guardE_of (by simp; omega) ?_
    repeat first | refine opsStep ?_ | refine codeStep ?_ | refine drawStep ?_
    refine optE_of (c := .int .i64 l[i]) (by simp [Value.cells, hia]) ?_
    repeat first | refine opsStep ?_ | refine codeStep ?_ | refine drawStep ?_
    refine callP (word_Length l[i] hx.1 hx.2) ?_
    repeat first | refine opsStep ?_ | refine codeStep ?_ | refine drawStep ?_
    refine ⟨⟨(i + 1, if lengthS l[i] > n then lengthS l[i] else n), by show i + 1 ≤ l.length; omega, hpre, by show (if lengthS l[i] > n then lengthS l[i] else n) ≤ 64; split <;> omega⟩, (by show l.length - (i + 1) < l.length - i; omega), Ent.fr' ⟨(by kernel_rfl), ?_, (by kernel_rfl), (by kernel_rfl), inc_slot (i := i) (by omega), trivial⟩ (by kernel_rfl)⟩
    show AV.int .i64 (if ((lengthS l[i] : Nat) : Int) > (n : Int) then ((lengthS l[i] : Nat) : Int) else (n : Int)) = AV.int .i64 (((if lengthS l[i] > n then lengthS l[i] else n) : Nat) : Int)
    split <;> split <;> first | rfl | omega
  · repeat first | refine opsStep ?_ | refine codeStep ?_ | refine drawStep ?_
    have : i = l.length := by have := h; simp at this; omega
    subst this
    have hpre : longS n (l.drop l.length) = longS 1 l := hpre
    rw [List.drop_length, longS] at hpre
    exact finV (v' := .int .i64 n) (by kernel_rfl) (by rw [hpre])

end Tab
