/- Renamed and back, widened twice: the plain law. -/
import Derived.Test.YthdpblbclgpnjaaRl
namespace Tab
open Go Go.Proofs
set_option maxRecDepth 10000
set_option linter.unusedVariables false
set_option linter.unusedSimpArgs false
set_option linter.unusedSectionVars false

theorem gat_bit (a : Nat) : ∀ (l : List Nat) (i : Nat) (h : i < l.length), gatN a l / 2 ^ i % 2 = a / 2 ^ l[i] % 2
  | p :: l, 0, _ => by simp only [gatN, Nat.pow_zero, Nat.div_one, List.getElem_cons_zero]; omega
  | p :: l, i + 1, h => by
    have ih := gat_bit a l i (by simpa using h)
    simp only [gatN, List.getElem_cons_succ]
    rw [Nat.pow_succ, Nat.mul_comm (2 ^ i) 2, ← Nat.div_div_eq_div_mul, show (a / 2 ^ p % 2 + 2 * gatN a l) / 2 = gatN a l by omega]
    exact ih
theorem gat_comp (a : Nat) (A : List Nat) : ∀ (B : List Nat), (∀ b ∈ B, b < A.length) → gatN (gatN a A) B = gatN a (B.map fun b => A.getD b 0)
  | [], _ => rfl
  | b :: B, h => by
    have hb := h b (by simp)
    rw [List.map_cons, gatN, gatN, gat_comp a A B fun x hx => h x (by simp [hx]), gat_bit a A b hb]
    simp [List.getD_eq_getElem?_getD, hb]
theorem gat_from (a : Nat) : ∀ (n k : Nat), gatN a (List.range' k n) = a / 2 ^ k % 2 ^ n
  | 0, k => by simp [gatN, Nat.mod_one]
  | n + 1, k => by
    rw [List.range'_succ, gatN, gat_from a n (k + 1), Nat.pow_succ 2 k, ← Nat.div_div_eq_div_mul, show 2 ^ (n + 1) = 2 * 2 ^ n by rw [Nat.pow_succ, Nat.mul_comm], Nat.mod_mul]
theorem gat_range {a n : Nat} (h : a < 2 ^ n) : gatN a (List.range n) = a := by
  rw [List.range_eq_range', gat_from, Nat.pow_zero, Nat.div_one, Nat.mod_eq_of_lt h]

theorem ovRow_comp (n k : Nat) (A B : List Nat) (r : List Int) (hA : A.length = k) (hB : ∀ b ∈ B, b < k) : ovRow n A (ovRow k B r) = ovRow n (B.map fun b => A.getD b 0) r := by
  rw [ovRow, ovRow]
  refine List.map_congr_left fun a _ => ?_
  have h := gatN_lt a A
  rw [hA] at h
  rw [← gat_comp a A B (by rw [hA]; exact hB)]
  simp [ovRow, List.getD_eq_getElem?_getD, h]
theorem ovRow_id {n : Nat} {r : List Int} (h : r.length = 2 ^ n) : ovRow n (List.range n) r = r := by
  refine List.ext_getElem (by simp [ovRow, h]) fun i h1 h2 => ?_
  simp only [ovRow, List.getElem_map, List.getElem_range]
  rw [gat_range (by omega)]
  simp [List.getD_eq_getElem?_getD, h2]

theorem rises_names {r : List (List UInt8)} (h : risesS r = true) : ∀ s ∈ r, nameS s = true := by
  intro s hs
  obtain ⟨i, hi, rfl⟩ := List.getElem_of_mem hs
  have := List.all_eq_true.1 h i (List.mem_range.2 hi)
  simp only [badAt, Bool.not_eq_true', Bool.or_eq_false_iff, Bool.not_eq_false'] at this
  simpa [List.getD_eq_getElem?_getD, hi] using this.1
theorem strict_rises {r : List (List UInt8)} (hs : Strict r) (hn : ∀ s ∈ r, nameS s = true) : risesS r = true := by
  refine rises_ok fun j hj => ?_
  have e : r.getD j [] = r[j] := by simp [List.getD_eq_getElem?_getD, hj]
  rw [badAt, e, hn _ (List.getElem_mem hj)]
  by_cases h0 : 0 < j
  · have := List.pairwise_iff_getElem.1 hs (j - 1) j (by omega) hj (by omega)
    have e2 : r.getD (j - 1) [] = r[j - 1] := by simp [List.getD_eq_getElem?_getD, show j - 1 < r.length by omega]
    rw [e2, show Op.bytesLess r[j - 1] r[j] = true from this]
    simp
  · simp [h0]

theorem idx_get {l : List (List UInt8)} (h : l.Nodup) {i : Nat} (hi : i < l.length) : l.idxOf l[i] = i := by
  have hm := List.idxOf_lt_length_of_mem (List.getElem_mem hi)
  have e := List.getElem_idxOf hm
  rcases Nat.lt_trichotomy (l.idxOf l[i]) i with h1 | h1 | h1
  · exact absurd e (List.pairwise_iff_getElem.1 h _ _ hm hi h1)
  · exact h1
  · exact absurd e.symm (List.pairwise_iff_getElem.1 h _ _ hi hm h1)
theorem places_self {l : List (List UInt8)} (h : l.Nodup) : placesOf l l = List.range l.length := by
  refine List.ext_getElem (by simp [placesOf]) fun i h1 h2 => ?_
  simp only [placesOf, List.getElem_map, List.getElem_range]
  exact idx_get h (by simpa [placesOf] using h1)
theorem tw_nodup {l : List (List UInt8)} (h : l.Nodup) : twS l = false := tw_ok fun j hj => by
  rw [show l.getD j [] = l[j] by simp [List.getD_eq_getElem?_getD, hj]]
  exact idx_get h hj
theorem tw_false {l : List (List UInt8)} (h : twS l = false) : l.Nodup := by
  have h0 := List.any_eq_false.1 h
  refine List.pairwise_iff_getElem.2 fun i j hi hj hij e => ?_
  have k1 := h0 i (List.mem_range.2 hi)
  have k2 := h0 j (List.mem_range.2 hj)
  rw [show l.getD i [] = l[i] by simp [List.getD_eq_getElem?_getD, hi]] at k1
  rw [show l.getD j [] = l[j] by simp [List.getD_eq_getElem?_getD, hj]] at k2
  have k1 : l.idxOf l[i] = i := by simpa using k1
  have k2 : l.idxOf l[j] = j := by simpa using k2
  rw [e] at k1
  omega

end Tab
