/- A tuple's word. -/
import Derived.Test.YthdpblbclgpnjaaLg
import Derived.Test.YthdpblbclgpnjaaWp
namespace Tab
open Go Go.Proofs
set_option maxRecDepth 10000
set_option linter.unusedVariables false
set_option linter.unusedSimpArgs false
set_option linter.unusedSectionVars false

/-- The digit of a number at a place. -/
@[irreducible] def bitZ (v : Int) (i : Nat) : Nat := (BitVec.ofInt 64 (v.fdiv (2 ^ (min (i : Int).toNat 64))) &&& BitVec.ofInt 64 1).toNat
theorem bitZ_le (v : Int) (i : Nat) : bitZ v i ≤ 1 := by
  rw [bitZ, BitVec.toNat_and, show (BitVec.ofInt 64 1).toNat = 1 by rfl, Nat.and_one_is_mod]
  omega
theorem bitZ_eq (v : Int) (i : Nat) : IntKind.wrap .i64 ((BitVec.ofInt 64 (v.fdiv (2 ^ (min (i : Int).toNat 64))) &&& BitVec.ofInt 64 1).toNat) = (bitZ v i : Int) := by
  have h := bitZ_le v i
  rw [bitZ] at h ⊢
  exact IntWalk.i64_in _ (by omega)
/-- The letter of a tuple at a place. -/
def encN : List Int → Nat → Nat
  | [], _ => 0
  | v :: l, i => bitZ v i + 2 * encN l i
theorem encN_lt (i : Nat) : ∀ (l : List Int), encN l i < 2 ^ l.length
  | [] => by simp [encN]
  | v :: l => by
    have := encN_lt i l
    have := bitZ_le v i
    simp only [encN, List.length_cons, Nat.pow_succ]
    omega
theorem encN_snoc (i : Nat) (v : Int) : ∀ (l : List Int), encN (l ++ [v]) i = encN l i + bitZ v i * 2 ^ l.length
  | [] => by simp [encN]
  | w :: l => by
    simp only [List.cons_append, encN, encN_snoc i v l, List.length_cons, Nat.pow_succ]
    rw [Nat.mul_add, Nat.mul_comm (2 ^ l.length) 2, ← Nat.mul_assoc, ← Nat.mul_assoc, Nat.mul_comm 2 (bitZ v i)]
    omega
def encW (l : List Int) (n : Nat) : List Int := (List.range n).map fun j => (encN l j : Int)
theorem encW_length (l n) : (encW l n).length = n := by simp [encW]
def mixW (l : List Int) (t n i : Nat) : List Int := (List.range n).map fun j => if j < i then (encN (l.take (t + 1)) j : Int) else (encN (l.take t) j : Int)
theorem mixW_length (l t n i) : (mixW l t n i).length = n := by simp [mixW]
theorem mixW_zero (l t n) : mixW l t n 0 = encW (l.take t) n := by simp [mixW, encW]
theorem mixW_full (l t n) : mixW l t n n = encW (l.take (t + 1)) n := by
  refine List.map_congr_left fun j hj => ?_
  rw [if_pos (List.mem_range.1 hj)]
theorem mixW_at {l : List Int} {t n i : Nat} (h : i < n) : (mixW l t n i)[i]? = some (encN (l.take t) i : Int) := by
  simp [mixW, h]
theorem mixW_step {l : List Int} {t n i : Nat} (h : i < n) : (mixW l t n i).set i (encN (l.take (t + 1)) i : Int) = mixW l t n (i + 1) := by
  refine List.ext_getElem (by simp [mixW]) fun j h1 h2 => ?_
  simp only [mixW, List.getElem_set, List.getElem_map, List.getElem_range]
  by_cases e : i = j
  · subst e; simp
  · rw [if_neg e]
    by_cases e2 : j < i
    · rw [if_pos e2, if_pos (by omega)]
    · rw [if_neg e2, if_neg (by omega)]
theorem encW_nil (n) : encW [] n = List.replicate n 0 := by
  refine List.ext_getElem (by simp [encW]) fun j h1 h2 => ?_
  simp [encW, encN]

theorem word_Encode (k : SK) (l : List Int) (hl : l.length ≤ 6) (hv : ∀ v ∈ l, -(2^63) ≤ v ∧ v < 2^63) : Pure Try.prog 31 [aIs k l, .int .i64 (longS 1 l : Nat)] (.tup [aIs .any (encW l (longS 1 l)), .int .i64 0]) := by
  refine Pure.of_read (by simp [closeds, AV.closed, aIs_closed]) (by simp [closeds, AV.closed, aIs_closed]) (R := fun o H' => o = .ret (.tup [.hs 0 0 0 (longS 1 l) 1, .int .i64 0]) ∧ H' = [.cells 0 ((encW l (longS 1 l)).map (.int .i64))]) ?_ ?_
  rotate_left
  · rintro o H' ⟨rfl, rfl⟩
    exact ⟨_, rfl, .tup (.cons (rd_row rfl (encW_length _ _)) (.cons (.refl _) .nil))⟩
  have hlg := word_Longest k l (by omega) hv
  obtain ⟨n1, n2⟩ := longS_bound l 1 hv (by omega) (by omega)
  generalize longS 1 l = n at *
  refine ACall.of_sw 50 Try.func31 rfl Try.ntmps31 (by kernel_rfl) (Nat.le_of_ble_eq_true (by kernel_rfl)) ?_; refine SW.of_vc ?_
  repeat first | refine opsStep ?_ | refine codeStep ?_ | refine drawStep ?_
  refine decB_dec (fun h1 => ?_) (fun h1 => ?_)
  · exact absurd h1 (by omega)
  repeat first | refine opsStep ?_ | refine codeStep ?_ | refine drawStep ?_
  refine callP hlg ?_
  repeat first | refine opsStep ?_ | refine codeStep ?_ | refine drawStep ?_
  refine decB_dec (fun h2 => ?_) (fun h2 => ?_)
  · exact absurd h2 (by omega)
  repeat first | refine opsStep ?_ | refine codeStep ?_ | refine drawStep ?_
  refine decB_split (fun h => ?_) (fun h => ?_)
  · have := of_decide_eq_true h
    omega
  repeat first | refine opsStep ?_ | refine codeStep ?_ | refine drawStep ?_
  refine guardE_of ⟨by omega, by omega, by show (8 : Int) * (n : Int) ≤ 281474976710656; omega, by omega⟩ ?_
  repeat first | refine opsStep ?_ | refine codeStep ?_ | refine drawStep ?_
  refine loopE_of (ι := {t : Nat // t ≤ l.length})
    (fun t => (fr [(0, aIs k l), (6, .hs 0 0 0 n 1), (23, aIs k l), (24, .int .i64 l.length), (25, .int .i64 t.1)], [.cells 0 ((encW (l.take t.1) n).map (.int .i64))]))
    (fun t => l.length - t.1) ⟨0, by omega⟩ (Ent.fr' ⟨(by kernel_rfl), (by kernel_rfl), (by kernel_rfl), (by kernel_rfl), (by kernel_rfl), trivial⟩ ?_) ?_
  · refine Eq.trans (b := [Blk.cells 0 (reps [.int .i64 0] n)]) (by kernel_rfl) ?_
    show _ = [Blk.cells 0 ((encW [] n).map (.int .i64))]
    rw [reps_one, encW_nil, List.map_replicate]
  rintro ⟨t, ht⟩
  repeat first | refine opsStep ?_ | refine codeStep ?_ | refine drawStep ?_
  refine decB_dec (fun h => ?_) (fun h => ?_)
  · have hta : t < l.length := by have := h; simp at this; omega
    have htk : l.take (t + 1) = l.take t ++ [l[t]] := List.take_succ_eq_append_getElem hta
    have htl : (l.take t).length = t := by simp; omega
    repeat first | refine opsStep ?_ | refine codeStep ?_ | refine drawStep ?_
    refine guardE_of (by simp; omega) ?_
    repeat first | refine opsStep ?_ | refine codeStep ?_ | refine drawStep ?_
    refine optE_of (c := .int .i64 l[t]) (by simp [Value.cells, hta]) ?_
    repeat first | refine opsStep ?_ | refine codeStep ?_ | refine drawStep ?_
    refine loopE_of (ι := {i : Nat // i ≤ n})
      (fun i => (fr [(0, aIs k l), (6, .hs 0 0 0 n 1), (7, .int .i64 t), (8, .int .i64 l[t]), (23, aIs k l), (24, .int .i64 l.length), (25, .int .i64 t), (31, .int .i64 n), (32, .int .i64 i.1)], [.cells 0 ((mixW l t n i.1).map (.int .i64))]))
      (fun i => n - i.1) ⟨0, by omega⟩ (Ent.fr' ⟨(by kernel_rfl), (by kernel_rfl), (by kernel_rfl), (by kernel_rfl), (by kernel_rfl), (by kernel_rfl), (by kernel_rfl), (by kernel_rfl), (by kernel_rfl), trivial⟩ ?_) ?_
    · refine Eq.trans (b := [Blk.cells 0 ((encW (l.take t) n).map (.int .i64))]) (by kernel_rfl) ?_
      rw [← mixW_zero l t n]
    rintro ⟨i, hi⟩
    repeat first | refine opsStep ?_ | refine codeStep ?_ | refine drawStep ?_
    refine decB_dec (fun g => ?_) (fun g => ?_)
    · have hia : i < n := by have := g; simp at this; omega
      have hml := mixW_length l t n i
      have hlt := encN_lt i (l.take t)
      rw [htl] at hlt
      repeat first | refine opsStep ?_ | refine codeStep ?_ | refine drawStep ?_
      refine SW.drawn rfl (by kernel_rfl) ?_
      repeat first | refine opsStep ?_ | refine codeStep ?_ | refine drawStep ?_
      refine guardE_of (by simp; omega) ?_
      repeat first | refine opsStep ?_ | refine codeStep ?_ | refine drawStep ?_
      refine optE_of (c := .int .i64 (encN (l.take t) i : Nat)) (by
        show ((mixW l t n i).map (AV.int .i64))[0 + i * 1]? = _
        rw [Nat.zero_add, Nat.mul_one, List.getElem?_map, mixW_at hia]; rfl) ?_
      repeat first | refine opsStep ?_ | refine codeStep ?_ | refine drawStep ?_
      refine guardE_of (by simp; omega) ?_
      repeat first | refine opsStep ?_ | refine codeStep ?_ | refine drawStep ?_
      refine guardE_of ⟨rfl, by decide, by show 0 + i * 1 + 1 ≤ ((mixW l t n i).map (AV.int .i64)).length; rw [List.length_map, hml]; omega⟩ ?_
      repeat first | refine opsStep ?_ | refine codeStep ?_ | refine drawStep ?_
      refine ⟨by kernel_rfl, ?_⟩
      repeat first | refine opsStep ?_ | refine codeStep ?_ | refine drawStep ?_
      refine ⟨⟨i + 1, by omega⟩, (by show n - (i + 1) < n - i; omega), Ent.fr' ⟨(by kernel_rfl), (by kernel_rfl), (by kernel_rfl), (by kernel_rfl), (by kernel_rfl), (by kernel_rfl), (by kernel_rfl), (by kernel_rfl), inc_slot (i := i) (by omega), trivial⟩ ?_⟩
      refine Eq.trans (b := [Blk.cells 0 (over ((mixW l t n i).map (AV.int .i64)) (0 + i * 1) [.int .i64 (IntKind.wrap .i64 ((BitVec.ofInt 64 ((encN (l.take t) i : Nat) : Int) ||| BitVec.ofInt 64 (IntKind.wrap .i64 (IntKind.wrap .i64 ((BitVec.ofInt 64 (l[t].fdiv (2 ^ (min (i : Int).toNat 64))) &&& BitVec.ofInt 64 1).toNat) * 2 ^ (min (t : Int).toNat 64)))).toNat))])]) (by kernel_rfl) ?_
      rw [bitZ_eq, or_shift _ _ _ hlt (bitZ_le _ _) (by omega), Nat.zero_add, Nat.mul_one, over_one (by rw [List.length_map, hml]; omega)]
      have e : encN (l.take t) i + bitZ l[t] i * 2 ^ t = encN (l.take (t + 1)) i := by rw [htk, encN_snoc, htl]
      show _ = [Blk.cells 0 ((mixW l t n (i + 1)).map (.int .i64))]
      rw [e, ← mixW_step hia, List.map_set]
    · have hin : i = n := by have := g; simp at this; omega
      subst hin
      repeat first | refine opsStep ?_ | refine codeStep ?_ | refine drawStep ?_
      refine ⟨⟨t + 1, by omega⟩, (by show l.length - (t + 1) < l.length - t; omega), Ent.fr' ⟨(by kernel_rfl), (by kernel_rfl), (by kernel_rfl), (by kernel_rfl), inc_slot (i := t) (by omega), trivial⟩ ?_⟩
      refine Eq.trans (b := [Blk.cells 0 ((mixW l t i i).map (.int .i64))]) (by kernel_rfl) ?_
      rw [mixW_full]
  · repeat first | refine opsStep ?_ | refine codeStep ?_ | refine drawStep ?_
    have htt : t = l.length := by have := h; simp at this; omega
    subst htt
    have hf : l.take l.length = l := List.take_length
    refine finR (l := [(4, .hs 0 0 0 n 1), (5, .int .i64 0)]) (H₁ := [.cells 0 ((encW (l.take l.length) n).map (.int .i64))]) (v := .tup [.hs 0 0 0 n 1, .int .i64 0]) ⟨(by kernel_rfl), (by kernel_rfl), trivial⟩ (by kernel_rfl) (Ent.refl _ _ _) (by kernel_rfl) ?_
    rw [hf]
    exact ⟨rfl, rfl⟩

end Tab
