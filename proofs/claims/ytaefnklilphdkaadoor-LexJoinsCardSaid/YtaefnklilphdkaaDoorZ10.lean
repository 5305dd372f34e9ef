/- Lemmas for this claim: part 10. No condition. -/
import Derived.Test.YtaefnklilphdkaaDoorZ9
import Derived.Laws.BitsLemmas
/- Decoding of a text's first character, by the tables. -/
namespace Tab
open Go Go.Proofs
set_option maxRecDepth 10000
set_option linter.unusedVariables false
set_option linter.unusedSimpArgs false
set_option linter.unusedSectionVars false

theorem byt_at {f : Nat → Int} {c : Nat} (h : c < 256) : ((bytZ ((List.range 256).map f)).drop (((c : Nat) : Int).toNat * 1))[0]? = some (.int .u8 (f c)) := by
  rw [Int.toNat_natCast, Nat.mul_one, bytZ, List.map_map, List.getElem?_drop, Nat.add_zero, List.getElem?_map, List.getElem?_range h]
  rfl

theorem or2 (a b : Nat) (ha : a < 256) (hb : b < 256) : bits .or .i32 (IntKind.wrap .i32 (IntKind.wrap .i32 (bits .and .u8 a 31) * 2 ^ 6)) (IntKind.wrap .i32 (bits .and .u8 b 63)) = ((a % 32 * 64 + b % 64 : Nat) : Int) := by
  rw [u8_and31 _ (by omega) (by omega), u8_and63 _ (by omega) (by omega)]
  rw [IntWalk.i32_in ((a : Int) % 32) (by omega), IntWalk.i32_in ((b : Int) % 64) (by omega), IntWalk.i32_in _ (by omega), i32_or6 _ _ (by omega) (by omega) (by omega) (by omega) (by omega)]
  omega
theorem or3 (a b c : Nat) (ha : a < 256) (hb : b < 256) (hc : c < 256) : bits .or .i32 (bits .or .i32 (IntKind.wrap .i32 (IntKind.wrap .i32 (bits .and .u8 a 15) * 2 ^ 12)) (IntKind.wrap .i32 (IntKind.wrap .i32 (bits .and .u8 b 63) * 2 ^ 6))) (IntKind.wrap .i32 (bits .and .u8 c 63)) = ((a % 16 * 4096 + b % 64 * 64 + c % 64 : Nat) : Int) := by
  rw [u8_and15 _ (by omega) (by omega), u8_and63 _ (by omega) (by omega), u8_and63 _ (by omega) (by omega)]
  rw [IntWalk.i32_in ((a : Int) % 16) (by omega), IntWalk.i32_in ((b : Int) % 64) (by omega), IntWalk.i32_in ((c : Int) % 64) (by omega), IntWalk.i32_in _ (by omega), IntWalk.i32_in _ (by omega),
    i32_or12 ((a : Int) % 16 * 2 ^ 12) ((b : Int) % 64 * 2 ^ 6) (by omega) (by omega) (by omega) (by omega) (by omega), i32_or6 _ _ (by omega) (by omega) (by omega) (by omega) (by omega)]
  omega
theorem or4 (a b c d : Nat) (ha : a < 256) (hb : b < 256) (hc : c < 256) (hd : d < 256) : bits .or .i32 (bits .or .i32 (bits .or .i32 (IntKind.wrap .i32 (IntKind.wrap .i32 (bits .and .u8 a 7) * 2 ^ 18)) (IntKind.wrap .i32 (IntKind.wrap .i32 (bits .and .u8 b 63) * 2 ^ 12))) (IntKind.wrap .i32 (IntKind.wrap .i32 (bits .and .u8 c 63) * 2 ^ 6))) (IntKind.wrap .i32 (bits .and .u8 d 63)) = ((a % 8 * 262144 + b % 64 * 4096 + c % 64 * 64 + d % 64 : Nat) : Int) := by
  rw [u8_and7 _ (by omega) (by omega), u8_and63 _ (by omega) (by omega), u8_and63 _ (by omega) (by omega), u8_and63 _ (by omega) (by omega)]
  rw [IntWalk.i32_in ((a : Int) % 8) (by omega), IntWalk.i32_in ((b : Int) % 64) (by omega), IntWalk.i32_in ((c : Int) % 64) (by omega), IntWalk.i32_in ((d : Int) % 64) (by omega), IntWalk.i32_in _ (by omega), IntWalk.i32_in _ (by omega), IntWalk.i32_in _ (by omega),
    i32_or18 ((a : Int) % 8 * 2 ^ 18) ((b : Int) % 64 * 2 ^ 12) (by omega) (by omega) (by omega) (by omega) (by omega), i32_or12 ((a : Int) % 8 * 2 ^ 18 + (b : Int) % 64 * 2 ^ 12) ((c : Int) % 64 * 2 ^ 6) (by omega) (by omega) (by omega) (by omega) (by omega), i32_or6 _ _ (by omega) (by omega) (by omega) (by omega) (by omega)]
  omega

theorem d2 {s : Str} (h1 : 194 ≤ bt s 0) (h2 : bt s 0 < 224) : dec s 0 = if 1 < s.length ∧ 128 ≤ bt s 1 ∧ bt s 1 ≤ 191 then (bt s 0 % 32 * 64 + bt s 1 % 64, 2) else (65533, 1) := by
  have hb1 := bt_lt s 1
  rw [dec_def]
  simp only [Bool.and_eq_true, ctb_iff, beq_iff_eq, decide_eq_true_eq, okc_iff, ge_iff_le, Nat.zero_add]
  rw [if_neg (by omega)]
  by_cases hc : 1 < s.length ∧ 128 ≤ bt s 1 ∧ bt s 1 ≤ 191
  · rw [if_pos hc, if_pos (by omega), if_pos (by omega)]
  · rw [if_neg hc, if_neg (by omega), if_neg (by omega), if_neg (by omega)]
theorem d3 {s : Str} {lo hi : Nat} (h1 : 224 ≤ bt s 0) (h2 : bt s 0 < 240) (hlo : lo = if bt s 0 = 224 then 160 else 128) (hhi : hi = if bt s 0 = 237 then 159 else 191) :
    dec s 0 = if 2 < s.length ∧ lo ≤ bt s 1 ∧ bt s 1 ≤ hi ∧ 128 ≤ bt s 2 ∧ bt s 2 ≤ 191 then (bt s 0 % 16 * 4096 + bt s 1 % 64 * 64 + bt s 2 % 64, 3) else (65533, 1) := by
  have hb1 := bt_lt s 1
  have hb2 := bt_lt s 2
  rw [dec_def]
  simp only [Bool.and_eq_true, ctb_iff, beq_iff_eq, decide_eq_true_eq, okc_iff, ge_iff_le, Nat.zero_add]
  rw [if_neg (by omega), if_neg (by omega)]
  by_cases hc : 2 < s.length ∧ lo ≤ bt s 1 ∧ bt s 1 ≤ hi ∧ 128 ≤ bt s 2 ∧ bt s 2 ≤ 191
  · rw [if_pos hc]
    split at hlo <;> split at hhi <;> (rw [if_pos (by omega), if_pos (by omega)])
  · rw [if_neg hc]
    split at hlo <;> split at hhi <;> (repeat' split) <;> first | rfl | omega
theorem d4 {s : Str} {lo hi : Nat} (h1 : 240 ≤ bt s 0) (h2 : bt s 0 < 245) (hlo : lo = if bt s 0 = 240 then 144 else 128) (hhi : hi = if bt s 0 = 244 then 143 else 191) :
    dec s 0 = if 3 < s.length ∧ lo ≤ bt s 1 ∧ bt s 1 ≤ hi ∧ 128 ≤ bt s 2 ∧ bt s 2 ≤ 191 ∧ 128 ≤ bt s 3 ∧ bt s 3 ≤ 191 then (bt s 0 % 8 * 262144 + bt s 1 % 64 * 4096 + bt s 2 % 64 * 64 + bt s 3 % 64, 4) else (65533, 1) := by
  have hb1 := bt_lt s 1
  have hb2 := bt_lt s 2
  have hb3 := bt_lt s 3
  rw [dec_def]
  simp only [Bool.and_eq_true, ctb_iff, beq_iff_eq, decide_eq_true_eq, okc_iff, ge_iff_le, Nat.zero_add]
  rw [if_neg (by omega), if_neg (by omega), if_neg (by omega)]
  by_cases hc : 3 < s.length ∧ lo ≤ bt s 1 ∧ bt s 1 ≤ hi ∧ 128 ≤ bt s 2 ∧ bt s 2 ≤ 191 ∧ 128 ≤ bt s 3 ∧ bt s 3 ≤ 191
  · rw [if_pos hc]
    split at hlo <;> split at hhi <;> (rw [if_pos (by omega), if_pos (by omega)])
  · rw [if_neg hc]
    split at hlo <;> split at hhi <;> (repeat' split) <;> first | rfl | omega

end Tab

/- Decoding of a text's first character: the walk, characters of two bytes. -/
namespace Tab
open Go Go.Proofs
set_option maxRecDepth 10000
set_option linter.unusedVariables false
set_option linter.unusedSimpArgs false
set_option linter.unusedSectionVars false
set_option maxHeartbeats 1000000

theorem slow_x (s : Str) (h1 : (128 ≤ bt s 0 ∧ bt s 0 < 194) ∨ 245 ≤ bt s 0) (hp : 0 < s.length) (hl : s.length < 2^62) : Pure Tryd.prog 26 [.str s] (.tup [.int .i32 (dec s 0).1, .int .i64 (dec s 0).2]) := by
  have hb := bt_lt s 0
  have hx : fstV (bt s 0) = 241 := by unfold fstV; (repeat' split) <;> first | rfl | omega
  rw [decX h1]
  have hm : ∀ c : Nat, c < 256 → bits .or .i32 (bits .andNot .i32 (IntKind.wrap .i32 (c : Int)) (-1)) (bits .and .i32 65533 (-1)) = 65533 := by
    have : (List.range 256).all (fun c => decide (bits .or .i32 (bits .andNot .i32 (IntKind.wrap .i32 ((c : Nat) : Int)) (-1)) (bits .and .i32 65533 (-1)) = 65533)) = true := by kernel_rfl
    intro c hc
    simpa using List.all_eq_true.1 this c (List.mem_range.2 hc)
  refine Pure.of_sw 117 Tryd.func26 rfl Tryd.ntmps26 (by kernel_rfl) (Nat.le_of_ble_eq_true (by kernel_rfl)) (by simp [closeds, AV.closed, aSs_closed, aIs_closed, aBs_closed, aRs_closed, aDen_closed]) (by simp [AV.closed, closeds, aSs_closed, aIs_closed, aBs_closed, aRs_closed, aDen_closed]) ?_; refine SW.of_vc ?_
  repeat first | refine opsStep ?_ | refine codeStep ?_ | refine drawStep ?_
  refine decB_dec (fun h0 => ?_) (fun h0 => ?_)
  · exfalso; have : (s.length : Int) < 1 := h0; omega
  repeat first | refine opsStep ?_ | refine codeStep ?_ | refine drawStep ?_
  refine optE_of (c := s[0]) (by simp [hp]) ?_
  repeat first | refine opsStep ?_ | refine codeStep ?_ | refine drawStep ?_
  rw [bt_at hp]
  refine guardE_of ⟨by omega, by show (bt s 0 : Int) < 256; omega⟩ ?_
  repeat first | refine opsStep ?_ | refine codeStep ?_ | refine drawStep ?_
  refine optE_of (c := .int .u8 241) ((byt_at (by omega)).trans (by rw [hx])) ?_
  iterate 2 refine opsStep ?_
  refine VCode.ent (Ent.fr' (l := [(0, .str s), (4, .int .i64 s.length), (5, .int .u8 (bt s 0)), (6, .int .u8 241)]) (H' := []) ⟨(by kernel_rfl), (by kernel_rfl), (by kernel_rfl), (by kernel_rfl), trivial⟩ (by kernel_rfl)) ?_
  repeat first | refine opsStep ?_ | refine codeStep ?_ | refine drawStep ?_
  refine optE_of (c := s[0]) (by simp [hp]) ?_
  repeat first | refine opsStep ?_ | refine codeStep ?_ | refine drawStep ?_
  rw [bt_at hp]
  exact finV (v' := .tup [.int .i32 (bits .or .i32 (bits .andNot .i32 (IntKind.wrap .i32 (bt s 0 : Int)) (-1)) (bits .and .i32 65533 (-1))), .int .i64 1]) (by kernel_rfl) (by rw [hm _ hb]; rfl)

theorem slow_2 (s : Str) (h1 : 194 ≤ bt s 0) (h2 : bt s 0 < 224) (hp : 0 < s.length) (hl : s.length < 2^62) : Pure Tryd.prog 26 [.str s] (.tup [.int .i32 (dec s 0).1, .int .i64 (dec s 0).2]) := by
  have hb := bt_lt s 0
  have hb1 := bt_lt s 1
  have hx : fstV (bt s 0) = 2 := by unfold fstV; (repeat' split) <;> first | rfl | omega
  have hd := d2 h1 h2
  refine Pure.of_sw 117 Tryd.func26 rfl Tryd.ntmps26 (by kernel_rfl) (Nat.le_of_ble_eq_true (by kernel_rfl)) (by simp [closeds, AV.closed, aSs_closed, aIs_closed, aBs_closed, aRs_closed, aDen_closed]) (by simp [AV.closed, closeds, aSs_closed, aIs_closed, aBs_closed, aRs_closed, aDen_closed]) ?_; refine SW.of_vc ?_
  repeat first | refine opsStep ?_ | refine codeStep ?_ | refine drawStep ?_
  refine decB_dec (fun h0 => ?_) (fun h0 => ?_)
  · exfalso; have : (s.length : Int) < 1 := h0; omega
  repeat first | refine opsStep ?_ | refine codeStep ?_ | refine drawStep ?_
  refine optE_of (c := s[0]) (by simp [hp]) ?_
  repeat first | refine opsStep ?_ | refine codeStep ?_ | refine drawStep ?_
  rw [bt_at hp]
  refine guardE_of ⟨by omega, by show (bt s 0 : Int) < 256; omega⟩ ?_
  repeat first | refine opsStep ?_ | refine codeStep ?_ | refine drawStep ?_
  refine optE_of (c := .int .u8 2) ((byt_at (by omega)).trans (by rw [hx])) ?_
  iterate 2 refine opsStep ?_
  refine VCode.ent (Ent.fr' (l := [(0, .str s), (4, .int .i64 s.length), (5, .int .u8 (bt s 0)), (6, .int .u8 2)]) (H' := []) ⟨(by kernel_rfl), (by kernel_rfl), (by kernel_rfl), (by kernel_rfl), trivial⟩ (by kernel_rfl)) ?_
  repeat first | refine opsStep ?_ | refine codeStep ?_ | refine drawStep ?_
  refine decB_dec (fun h1 => ?_) (fun h1 => ?_)
  · have hl1 : (s.length : Int) < 2 := h1
    clear h1
    repeat first | refine opsStep ?_ | refine codeStep ?_ | refine drawStep ?_
    exact finV (v' := .tup [.int .i32 65533, .int .i64 1]) (by kernel_rfl) (by rw [hd, if_neg (by omega)] <;> rfl)
  have hl1 : ¬ (s.length : Int) < 2 := h1
  clear h1
  refine VCode.ent (Ent.fr' (l := [(0, .str s), (4, .int .i64 s.length), (5, .int .u8 (bt s 0)), (8, .int .i64 2), (9, .ref 0 0 0)]) (H' := [.cells 0 [.int .u8 128, .int .u8 191]]) ⟨(by kernel_rfl), (by kernel_rfl), (by kernel_rfl), (by kernel_rfl), (by kernel_rfl), trivial⟩ (by kernel_rfl)) ?_
  repeat first | refine opsStep ?_ | refine codeStep ?_ | refine drawStep ?_
  refine optE_of (c := s[1]) (by simp <;> omega) ?_
  rw [bt_at (show 1 < s.length by omega)]
  iterate 2 refine opsStep ?_
  refine VCode.ent (Ent.fr' (l := [(0, .str s), (4, .int .i64 s.length), (5, .int .u8 (bt s 0)), (8, .int .i64 2), (9, .ref 0 0 0), (10, .int .u8 (bt s 1))]) (H' := [.cells 0 [.int .u8 128, .int .u8 191]]) ⟨(by kernel_rfl), (by kernel_rfl), (by kernel_rfl), (by kernel_rfl), (by kernel_rfl), (by kernel_rfl), trivial⟩ (by kernel_rfl)) ?_
  repeat first | refine opsStep ?_ | refine codeStep ?_ | refine drawStep ?_
  refine decB_dec (fun k1 => ?_) (fun k1 => ?_)
  · have l1 : (bt s 1 : Int) < 128 := k1
    clear k1
    repeat first | refine opsStep ?_ | refine codeStep ?_ | refine drawStep ?_
    exact finV (v' := .tup [.int .i32 65533, .int .i64 1]) (by kernel_rfl) (by rw [hd, if_neg (by omega)] <;> rfl)
  have l1 : ¬ (bt s 1 : Int) < 128 := k1
  clear k1
  repeat first | refine opsStep ?_ | refine codeStep ?_ | refine drawStep ?_
  refine decB_dec (fun k2 => ?_) (fun k2 => ?_)
  · have l2 : (191 : Int) < bt s 1 := k2
    clear k2
    repeat first | refine opsStep ?_ | refine codeStep ?_ | refine drawStep ?_
    exact finV (v' := .tup [.int .i32 65533, .int .i64 1]) (by kernel_rfl) (by rw [hd, if_neg (by omega)] <;> rfl)
  have l2 : ¬ (191 : Int) < bt s 1 := k2
  clear k2
  refine VCode.ent (Ent.fr' (l := [(0, .str s), (4, .int .i64 s.length), (5, .int .u8 (bt s 0)), (8, .int .i64 2), (9, .ref 0 0 0), (10, .int .u8 (bt s 1))]) (H' := [.cells 0 [.int .u8 128, .int .u8 191]]) ⟨(by kernel_rfl), (by kernel_rfl), (by kernel_rfl), (by kernel_rfl), (by kernel_rfl), (by kernel_rfl), trivial⟩ (by kernel_rfl)) ?_
  repeat first | refine opsStep ?_ | refine codeStep ?_ | refine drawStep ?_
  exact finV (v' := .tup [.int .i32 (bits .or .i32 (IntKind.wrap .i32 (IntKind.wrap .i32 (bits .and .u8 (bt s 0 : Int) 31) * 2 ^ 6)) (IntKind.wrap .i32 (bits .and .u8 (bt s 1 : Int) 63))), .int .i64 2]) (by kernel_rfl) (by rw [hd, if_pos (by omega), or2 _ _ hb hb1] <;> rfl)

end Tab

/- Decoding of a text's first character: the walk, characters of three bytes. -/
namespace Tab
open Go Go.Proofs
set_option maxRecDepth 10000
set_option linter.unusedVariables false
set_option linter.unusedSimpArgs false
set_option linter.unusedSectionVars false
set_option maxHeartbeats 1000000

theorem slow_3a (s : Str) (h1 : 224 ≤ bt s 0) (h2 : bt s 0 < 240) (hc : bt s 0 = 224) (hp : 0 < s.length) (hl : s.length < 2^62) : Pure Tryd.prog 26 [.str s] (.tup [.int .i32 (dec s 0).1, .int .i64 (dec s 0).2]) := by
  have hb := bt_lt s 0
  have hb1 := bt_lt s 1
  have hb2 := bt_lt s 2
  have hx : fstV (bt s 0) = 19 := by unfold fstV; (repeat' split) <;> first | rfl | omega
  have hd := d3 (lo := 160) (hi := 191) h1 h2 (by split <;> first | rfl | omega) (by split <;> first | rfl | omega)
  refine Pure.of_sw 117 Tryd.func26 rfl Tryd.ntmps26 (by kernel_rfl) (Nat.le_of_ble_eq_true (by kernel_rfl)) (by simp [closeds, AV.closed, aSs_closed, aIs_closed, aBs_closed, aRs_closed, aDen_closed]) (by simp [AV.closed, closeds, aSs_closed, aIs_closed, aBs_closed, aRs_closed, aDen_closed]) ?_; refine SW.of_vc ?_
  repeat first | refine opsStep ?_ | refine codeStep ?_ | refine drawStep ?_
  refine decB_dec (fun h0 => ?_) (fun h0 => ?_)
  · exfalso; have : (s.length : Int) < 1 := h0; omega
  repeat first | refine opsStep ?_ | refine codeStep ?_ | refine drawStep ?_
  refine optE_of (c := s[0]) (by simp [hp]) ?_
  repeat first | refine opsStep ?_ | refine codeStep ?_ | refine drawStep ?_
  rw [bt_at hp]
  refine guardE_of ⟨by omega, by show (bt s 0 : Int) < 256; omega⟩ ?_
  repeat first | refine opsStep ?_ | refine codeStep ?_ | refine drawStep ?_
  refine optE_of (c := .int .u8 19) ((byt_at (by omega)).trans (by rw [hx])) ?_
  iterate 2 refine opsStep ?_
  refine VCode.ent (Ent.fr' (l := [(0, .str s), (4, .int .i64 s.length), (5, .int .u8 (bt s 0)), (6, .int .u8 19)]) (H' := []) ⟨(by kernel_rfl), (by kernel_rfl), (by kernel_rfl), (by kernel_rfl), trivial⟩ (by kernel_rfl)) ?_
  repeat first | refine opsStep ?_ | refine codeStep ?_ | refine drawStep ?_
  refine decB_dec (fun h1 => ?_) (fun h1 => ?_)
  · have hl1 : (s.length : Int) < 3 := h1
    clear h1
    repeat first | refine opsStep ?_ | refine codeStep ?_ | refine drawStep ?_
    exact finV (v' := .tup [.int .i32 65533, .int .i64 1]) (by kernel_rfl) (by rw [hd, if_neg (by omega)] <;> rfl)
  have hl1 : ¬ (s.length : Int) < 3 := h1
  clear h1
  refine VCode.ent (Ent.fr' (l := [(0, .str s), (4, .int .i64 s.length), (5, .int .u8 (bt s 0)), (8, .int .i64 3), (9, .ref 0 0 0)]) (H' := [.cells 0 [.int .u8 160, .int .u8 191]]) ⟨(by kernel_rfl), (by kernel_rfl), (by kernel_rfl), (by kernel_rfl), (by kernel_rfl), trivial⟩ (by kernel_rfl)) ?_
  repeat first | refine opsStep ?_ | refine codeStep ?_ | refine drawStep ?_
  refine optE_of (c := s[1]) (by simp <;> omega) ?_
  rw [bt_at (show 1 < s.length by omega)]
  iterate 2 refine opsStep ?_
  refine VCode.ent (Ent.fr' (l := [(0, .str s), (4, .int .i64 s.length), (5, .int .u8 (bt s 0)), (8, .int .i64 3), (9, .ref 0 0 0), (10, .int .u8 (bt s 1))]) (H' := [.cells 0 [.int .u8 160, .int .u8 191]]) ⟨(by kernel_rfl), (by kernel_rfl), (by kernel_rfl), (by kernel_rfl), (by kernel_rfl), (by kernel_rfl), trivial⟩ (by kernel_rfl)) ?_
  repeat first | refine opsStep ?_ | refine codeStep ?_ | refine drawStep ?_
  refine decB_dec (fun k1 => ?_) (fun k1 => ?_)
  · have l1 : (bt s 1 : Int) < 160 := k1
    clear k1
    repeat first | refine opsStep ?_ | refine codeStep ?_ | refine drawStep ?_
    exact finV (v' := .tup [.int .i32 65533, .int .i64 1]) (by kernel_rfl) (by rw [hd, if_neg (by omega)] <;> rfl)
  have l1 : ¬ (bt s 1 : Int) < 160 := k1
  clear k1
  repeat first | refine opsStep ?_ | refine codeStep ?_ | refine drawStep ?_
  refine decB_dec (fun k2 => ?_) (fun k2 => ?_)
  · have l2 : (191 : Int) < bt s 1 := k2
    clear k2
    repeat first | refine opsStep ?_ | refine codeStep ?_ | refine drawStep ?_
    exact finV (v' := .tup [.int .i32 65533, .int .i64 1]) (by kernel_rfl) (by rw [hd, if_neg (by omega)] <;> rfl)
  have l2 : ¬ (191 : Int) < bt s 1 := k2
  clear k2
  refine VCode.ent (Ent.fr' (l := [(0, .str s), (4, .int .i64 s.length), (5, .int .u8 (bt s 0)), (8, .int .i64 3), (9, .ref 0 0 0), (10, .int .u8 (bt s 1))]) (H' := [.cells 0 [.int .u8 160, .int .u8 191]]) ⟨(by kernel_rfl), (by kernel_rfl), (by kernel_rfl), (by kernel_rfl), (by kernel_rfl), (by kernel_rfl), trivial⟩ (by kernel_rfl)) ?_
  repeat first | refine opsStep ?_ | refine codeStep ?_ | refine drawStep ?_
  refine optE_of (c := s[2]) (by simp <;> omega) ?_
  rw [bt_at (show 2 < s.length by omega)]
  iterate 2 refine opsStep ?_
  refine VCode.ent (Ent.fr' (l := [(0, .str s), (4, .int .i64 s.length), (5, .int .u8 (bt s 0)), (8, .int .i64 3), (10, .int .u8 (bt s 1)), (11, .int .u8 (bt s 2))]) (H' := [.cells 0 [.int .u8 160, .int .u8 191]]) (by refine ⟨(by kernel_rfl), (by kernel_rfl), (by kernel_rfl), (by kernel_rfl), (by kernel_rfl), ?_⟩; first | exact ⟨(by kernel_rfl), trivial⟩ | exact ⟨(by kernel_rfl), (by kernel_rfl), trivial⟩) (by kernel_rfl)) ?_
  repeat first | refine opsStep ?_ | refine codeStep ?_ | refine drawStep ?_
  refine decB_dec (fun k3 => ?_) (fun k3 => ?_)
  · have l1 : (bt s 2 : Int) < 128 := k3
    clear k3
    repeat first | refine opsStep ?_ | refine codeStep ?_ | refine drawStep ?_
    exact finV (v' := .tup [.int .i32 65533, .int .i64 1]) (by kernel_rfl) (by rw [hd, if_neg (by omega)] <;> rfl)
  have l1 : ¬ (bt s 2 : Int) < 128 := k3
  clear k3
  repeat first | refine opsStep ?_ | refine codeStep ?_ | refine drawStep ?_
  refine decB_dec (fun k4 => ?_) (fun k4 => ?_)
  · have l2 : (191 : Int) < bt s 2 := k4
    clear k4
    repeat first | refine opsStep ?_ | refine codeStep ?_ | refine drawStep ?_
    exact finV (v' := .tup [.int .i32 65533, .int .i64 1]) (by kernel_rfl) (by rw [hd, if_neg (by omega)] <;> rfl)
  have l2 : ¬ (191 : Int) < bt s 2 := k4
  clear k4
  repeat first | refine opsStep ?_ | refine codeStep ?_ | refine drawStep ?_
  exact finV (v' := .tup [.int .i32 (bits .or .i32 (bits .or .i32 (IntKind.wrap .i32 (IntKind.wrap .i32 (bits .and .u8 (bt s 0 : Int) 15) * 2 ^ 12)) (IntKind.wrap .i32 (IntKind.wrap .i32 (bits .and .u8 (bt s 1 : Int) 63) * 2 ^ 6))) (IntKind.wrap .i32 (bits .and .u8 (bt s 2 : Int) 63))), .int .i64 3]) (by kernel_rfl) (by rw [hd, if_pos (by omega), or3 _ _ _ hb hb1 hb2] <;> rfl)
theorem slow_3b (s : Str) (h1 : 224 ≤ bt s 0) (h2 : bt s 0 < 240) (hc : bt s 0 = 237) (hp : 0 < s.length) (hl : s.length < 2^62) : Pure Tryd.prog 26 [.str s] (.tup [.int .i32 (dec s 0).1, .int .i64 (dec s 0).2]) := by
  have hb := bt_lt s 0
  have hb1 := bt_lt s 1
  have hb2 := bt_lt s 2
  have hx : fstV (bt s 0) = 35 := by unfold fstV; (repeat' split) <;> first | rfl | omega
  have hd := d3 (lo := 128) (hi := 159) h1 h2 (by split <;> first | rfl | omega) (by split <;> first | rfl | omega)
  refine Pure.of_sw 117 Tryd.func26 rfl Tryd.ntmps26 (by kernel_rfl) (Nat.le_of_ble_eq_true (by kernel_rfl)) (by simp [closeds, AV.closed, aSs_closed, aIs_closed, aBs_closed, aRs_closed, aDen_closed]) (by simp [AV.closed, closeds, aSs_closed, aIs_closed, aBs_closed, aRs_closed, aDen_closed]) ?_; refine SW.of_vc ?_
  repeat first | refine opsStep ?_ | refine codeStep ?_ | refine drawStep ?_
  refine decB_dec (fun h0 => ?_) (fun h0 => ?_)
  · exfalso; have : (s.length : Int) < 1 := h0; omega
  repeat first | refine opsStep ?_ | refine codeStep ?_ | refine drawStep ?_
  refine optE_of (c := s[0]) (by simp [hp]) ?_
  repeat first | refine opsStep ?_ | refine codeStep ?_ | refine drawStep ?_
  rw [bt_at hp]
  refine guardE_of ⟨by omega, by show (bt s 0 : Int) < 256; omega⟩ ?_
  repeat first | refine opsStep ?_ | refine codeStep ?_ | refine drawStep ?_
  refine optE_of (c := .int .u8 35) ((byt_at (by omega)).trans (by rw [hx])) ?_
  iterate 2 refine opsStep ?_
  refine VCode.ent (Ent.fr' (l := [(0, .str s), (4, .int .i64 s.length), (5, .int .u8 (bt s 0)), (6, .int .u8 35)]) (H' := []) ⟨(by kernel_rfl), (by kernel_rfl), (by kernel_rfl), (by kernel_rfl), trivial⟩ (by kernel_rfl)) ?_
  repeat first | refine opsStep ?_ | refine codeStep ?_ | refine drawStep ?_
  refine decB_dec (fun h1 => ?_) (fun h1 => ?_)
  · have hl1 : (s.length : Int) < 3 := h1
    clear h1
    repeat first | refine opsStep ?_ | refine codeStep ?_ | refine drawStep ?_
    exact finV (v' := .tup [.int .i32 65533, .int .i64 1]) (by kernel_rfl) (by rw [hd, if_neg (by omega)] <;> rfl)
  have hl1 : ¬ (s.length : Int) < 3 := h1
  clear h1
  refine VCode.ent (Ent.fr' (l := [(0, .str s), (4, .int .i64 s.length), (5, .int .u8 (bt s 0)), (8, .int .i64 3), (9, .ref 0 0 0)]) (H' := [.cells 0 [.int .u8 128, .int .u8 159]]) ⟨(by kernel_rfl), (by kernel_rfl), (by kernel_rfl), (by kernel_rfl), (by kernel_rfl), trivial⟩ (by kernel_rfl)) ?_
  repeat first | refine opsStep ?_ | refine codeStep ?_ | refine drawStep ?_
  refine optE_of (c := s[1]) (by simp <;> omega) ?_
  rw [bt_at (show 1 < s.length by omega)]
  iterate 2 refine opsStep ?_
  refine VCode.ent (Ent.fr' (l := [(0, .str s), (4, .int .i64 s.length), (5, .int .u8 (bt s 0)), (8, .int .i64 3), (9, .ref 0 0 0), (10, .int .u8 (bt s 1))]) (H' := [.cells 0 [.int .u8 128, .int .u8 159]]) ⟨(by kernel_rfl), (by kernel_rfl), (by kernel_rfl), (by kernel_rfl), (by kernel_rfl), (by kernel_rfl), trivial⟩ (by kernel_rfl)) ?_
  repeat first | refine opsStep ?_ | refine codeStep ?_ | refine drawStep ?_
  refine decB_dec (fun k1 => ?_) (fun k1 => ?_)
  · have l1 : (bt s 1 : Int) < 128 := k1
    clear k1
    repeat first | refine opsStep ?_ | refine codeStep ?_ | refine drawStep ?_
    exact finV (v' := .tup [.int .i32 65533, .int .i64 1]) (by kernel_rfl) (by rw [hd, if_neg (by omega)] <;> rfl)
  have l1 : ¬ (bt s 1 : Int) < 128 := k1
  clear k1
  repeat first | refine opsStep ?_ | refine codeStep ?_ | refine drawStep ?_
  refine decB_dec (fun k2 => ?_) (fun k2 => ?_)
  · have l2 : (159 : Int) < bt s 1 := k2
    clear k2
    repeat first | refine opsStep ?_ | refine codeStep ?_ | refine drawStep ?_
    exact finV (v' := .tup [.int .i32 65533, .int .i64 1]) (by kernel_rfl) (by rw [hd, if_neg (by omega)] <;> rfl)
  have l2 : ¬ (159 : Int) < bt s 1 := k2
  clear k2
  refine VCode.ent (Ent.fr' (l := [(0, .str s), (4, .int .i64 s.length), (5, .int .u8 (bt s 0)), (8, .int .i64 3), (9, .ref 0 0 0), (10, .int .u8 (bt s 1))]) (H' := [.cells 0 [.int .u8 128, .int .u8 159]]) ⟨(by kernel_rfl), (by kernel_rfl), (by kernel_rfl), (by kernel_rfl), (by kernel_rfl), (by kernel_rfl), trivial⟩ (by kernel_rfl)) ?_
  repeat first | refine opsStep ?_ | refine codeStep ?_ | refine drawStep ?_
  refine optE_of (c := s[2]) (by simp <;> omega) ?_
  rw [bt_at (show 2 < s.length by omega)]
  iterate 2 refine opsStep ?_
  refine VCode.ent (Ent.fr' (l := [(0, .str s), (4, .int .i64 s.length), (5, .int .u8 (bt s 0)), (8, .int .i64 3), (10, .int .u8 (bt s 1)), (11, .int .u8 (bt s 2))]) (H' := [.cells 0 [.int .u8 128, .int .u8 159]]) (by refine ⟨(by kernel_rfl), (by kernel_rfl), (by kernel_rfl), (by kernel_rfl), (by kernel_rfl), ?_⟩; first | exact ⟨(by kernel_rfl), trivial⟩ | exact ⟨(by kernel_rfl), (by kernel_rfl), trivial⟩) (by kernel_rfl)) ?_
  repeat first | refine opsStep ?_ | refine codeStep ?_ | refine drawStep ?_
  refine decB_dec (fun k3 => ?_) (fun k3 => ?_)
  · have l1 : (bt s 2 : Int) < 128 := k3
    clear k3
    repeat first | refine opsStep ?_ | refine codeStep ?_ | refine drawStep ?_
    exact finV (v' := .tup [.int .i32 65533, .int .i64 1]) (by kernel_rfl) (by rw [hd, if_neg (by omega)] <;> rfl)
  have l1 : ¬ (bt s 2 : Int) < 128 := k3
  clear k3
  repeat first | refine opsStep ?_ | refine codeStep ?_ | refine drawStep ?_
  refine decB_dec (fun k4 => ?_) (fun k4 => ?_)
  · have l2 : (191 : Int) < bt s 2 := k4
    clear k4
    repeat first | refine opsStep ?_ | refine codeStep ?_ | refine drawStep ?_
    exact finV (v' := .tup [.int .i32 65533, .int .i64 1]) (by kernel_rfl) (by rw [hd, if_neg (by omega)] <;> rfl)
  have l2 : ¬ (191 : Int) < bt s 2 := k4
  clear k4
  repeat first | refine opsStep ?_ | refine codeStep ?_ | refine drawStep ?_
  exact finV (v' := .tup [.int .i32 (bits .or .i32 (bits .or .i32 (IntKind.wrap .i32 (IntKind.wrap .i32 (bits .and .u8 (bt s 0 : Int) 15) * 2 ^ 12)) (IntKind.wrap .i32 (IntKind.wrap .i32 (bits .and .u8 (bt s 1 : Int) 63) * 2 ^ 6))) (IntKind.wrap .i32 (bits .and .u8 (bt s 2 : Int) 63))), .int .i64 3]) (by kernel_rfl) (by rw [hd, if_pos (by omega), or3 _ _ _ hb hb1 hb2] <;> rfl)
theorem slow_3c (s : Str) (h1 : 224 ≤ bt s 0) (h2 : bt s 0 < 240) (hc : bt s 0 ≠ 224 ∧ bt s 0 ≠ 237) (hp : 0 < s.length) (hl : s.length < 2^62) : Pure Tryd.prog 26 [.str s] (.tup [.int .i32 (dec s 0).1, .int .i64 (dec s 0).2]) := by
  have hb := bt_lt s 0
  have hb1 := bt_lt s 1
  have hb2 := bt_lt s 2
  have hx : fstV (bt s 0) = 3 := by unfold fstV; (repeat' split) <;> first | rfl | omega
  have hd := d3 (lo := 128) (hi := 191) h1 h2 (by split <;> first | rfl | omega) (by split <;> first | rfl | omega)
  refine Pure.of_sw 117 Tryd.func26 rfl Tryd.ntmps26 (by kernel_rfl) (Nat.le_of_ble_eq_true (by kernel_rfl)) (by simp [closeds, AV.closed, aSs_closed, aIs_closed, aBs_closed, aRs_closed, aDen_closed]) (by simp [AV.closed, closeds, aSs_closed, aIs_closed, aBs_closed, aRs_closed, aDen_closed]) ?_; refine SW.of_vc ?_
  repeat first | refine opsStep ?_ | refine codeStep ?_ | refine drawStep ?_
  refine decB_dec (fun h0 => ?_) (fun h0 => ?_)
  · exfalso; have : (s.length : Int) < 1 := h0; omega
  repeat first | refine opsStep ?_ | refine codeStep ?_ | refine drawStep ?_
  refine optE_of (c := s[0]) (by simp [hp]) ?_
  repeat first | refine opsStep ?_ | refine codeStep ?_ | refine drawStep ?_
  rw [bt_at hp]
  refine guardE_of ⟨by omega, by show (bt s 0 : Int) < 256; omega⟩ ?_
  repeat first | refine opsStep ?_ | refine codeStep ?_ | refine drawStep ?_
  refine optE_of (c := .int .u8 3) ((byt_at (by omega)).trans (by rw [hx])) ?_
  iterate 2 refine opsStep ?_
  refine VCode.ent (Ent.fr' (l := [(0, .str s), (4, .int .i64 s.length), (5, .int .u8 (bt s 0)), (6, .int .u8 3)]) (H' := []) ⟨(by kernel_rfl), (by kernel_rfl), (by kernel_rfl), (by kernel_rfl), trivial⟩ (by kernel_rfl)) ?_
  repeat first | refine opsStep ?_ | refine codeStep ?_ | refine drawStep ?_
  refine decB_dec (fun h1 => ?_) (fun h1 => ?_)
  · have hl1 : (s.length : Int) < 3 := h1
    clear h1
    repeat first | refine opsStep ?_ | refine codeStep ?_ | refine drawStep ?_
    exact finV (v' := .tup [.int .i32 65533, .int .i64 1]) (by kernel_rfl) (by rw [hd, if_neg (by omega)] <;> rfl)
  have hl1 : ¬ (s.length : Int) < 3 := h1
  clear h1
  refine VCode.ent (Ent.fr' (l := [(0, .str s), (4, .int .i64 s.length), (5, .int .u8 (bt s 0)), (8, .int .i64 3), (9, .ref 0 0 0)]) (H' := [.cells 0 [.int .u8 128, .int .u8 191]]) ⟨(by kernel_rfl), (by kernel_rfl), (by kernel_rfl), (by kernel_rfl), (by kernel_rfl), trivial⟩ (by kernel_rfl)) ?_
  repeat first | refine opsStep ?_ | refine codeStep ?_ | refine drawStep ?_
  refine optE_of (c := s[1]) (by simp <;> omega) ?_
  rw [bt_at (show 1 < s.length by omega)]
  iterate 2 refine opsStep ?_
  refine VCode.ent (Ent.fr' (l := [(0, .str s), (4, .int .i64 s.length), (5, .int .u8 (bt s 0)), (8, .int .i64 3), (9, .ref 0 0 0), (10, .int .u8 (bt s 1))]) (H' := [.cells 0 [.int .u8 128, .int .u8 191]]) ⟨(by kernel_rfl), (by kernel_rfl), (by kernel_rfl), (by kernel_rfl), (by kernel_rfl), (by kernel_rfl), trivial⟩ (by kernel_rfl)) ?_
  repeat first | refine opsStep ?_ | refine codeStep ?_ | refine drawStep ?_
  refine decB_dec (fun k1 => ?_) (fun k1 => ?_)
  · have l1 : (bt s 1 : Int) < 128 := k1
    clear k1
    repeat first | refine opsStep ?_ | refine codeStep ?_ | refine drawStep ?_
    exact finV (v' := .tup [.int .i32 65533, .int .i64 1]) (by kernel_rfl) (by rw [hd, if_neg (by omega)] <;> rfl)
  have l1 : ¬ (bt s 1 : Int) < 128 := k1
  clear k1
  repeat first | refine opsStep ?_ | refine codeStep ?_ | refine drawStep ?_
  refine decB_dec (fun k2 => ?_) (fun k2 => ?_)
  · have l2 : (191 : Int) < bt s 1 := k2
    clear k2
    repeat first | refine opsStep ?_ | refine codeStep ?_ | refine drawStep ?_
    exact finV (v' := .tup [.int .i32 65533, .int .i64 1]) (by kernel_rfl) (by rw [hd, if_neg (by omega)] <;> rfl)
  have l2 : ¬ (191 : Int) < bt s 1 := k2
  clear k2
  refine VCode.ent (Ent.fr' (l := [(0, .str s), (4, .int .i64 s.length), (5, .int .u8 (bt s 0)), (8, .int .i64 3), (9, .ref 0 0 0), (10, .int .u8 (bt s 1))]) (H' := [.cells 0 [.int .u8 128, .int .u8 191]]) ⟨(by kernel_rfl), (by kernel_rfl), (by kernel_rfl), (by kernel_rfl), (by kernel_rfl), (by kernel_rfl), trivial⟩ (by kernel_rfl)) ?_
  repeat first | refine opsStep ?_ | refine codeStep ?_ | refine drawStep ?_
  refine optE_of (c := s[2]) (by simp <;> omega) ?_
  rw [bt_at (show 2 < s.length by omega)]
  iterate 2 refine opsStep ?_
  refine VCode.ent (Ent.fr' (l := [(0, .str s), (4, .int .i64 s.length), (5, .int .u8 (bt s 0)), (8, .int .i64 3), (10, .int .u8 (bt s 1)), (11, .int .u8 (bt s 2))]) (H' := [.cells 0 [.int .u8 128, .int .u8 191]]) (by refine ⟨(by kernel_rfl), (by kernel_rfl), (by kernel_rfl), (by kernel_rfl), (by kernel_rfl), ?_⟩; first | exact ⟨(by kernel_rfl), trivial⟩ | exact ⟨(by kernel_rfl), (by kernel_rfl), trivial⟩) (by kernel_rfl)) ?_
  repeat first | refine opsStep ?_ | refine codeStep ?_ | refine drawStep ?_
  refine decB_dec (fun k3 => ?_) (fun k3 => ?_)
  · have l1 : (bt s 2 : Int) < 128 := k3
    clear k3
    repeat first | refine opsStep ?_ | refine codeStep ?_ | refine drawStep ?_
    exact finV (v' := .tup [.int .i32 65533, .int .i64 1]) (by kernel_rfl) (by rw [hd, if_neg (by omega)] <;> rfl)
  have l1 : ¬ (bt s 2 : Int) < 128 := k3
  clear k3
  repeat first | refine opsStep ?_ | refine codeStep ?_ | refine drawStep ?_
  refine decB_dec (fun k4 => ?_) (fun k4 => ?_)
  · have l2 : (191 : Int) < bt s 2 := k4
    clear k4
    repeat first | refine opsStep ?_ | refine codeStep ?_ | refine drawStep ?_
    exact finV (v' := .tup [.int .i32 65533, .int .i64 1]) (by kernel_rfl) (by rw [hd, if_neg (by omega)] <;> rfl)
  have l2 : ¬ (191 : Int) < bt s 2 := k4
  clear k4
  repeat first | refine opsStep ?_ | refine codeStep ?_ | refine drawStep ?_
  exact finV (v' := .tup [.int .i32 (bits .or .i32 (bits .or .i32 (IntKind.wrap .i32 (IntKind.wrap .i32 (bits .and .u8 (bt s 0 : Int) 15) * 2 ^ 12)) (IntKind.wrap .i32 (IntKind.wrap .i32 (bits .and .u8 (bt s 1 : Int) 63) * 2 ^ 6))) (IntKind.wrap .i32 (bits .and .u8 (bt s 2 : Int) 63))), .int .i64 3]) (by kernel_rfl) (by rw [hd, if_pos (by omega), or3 _ _ _ hb hb1 hb2] <;> rfl)

end Tab

/- Decoding of a text's first character: the walk, characters of four bytes. -/
namespace Tab
open Go Go.Proofs
set_option maxRecDepth 10000
set_option linter.unusedVariables false
set_option linter.unusedSimpArgs false
set_option linter.unusedSectionVars false
set_option maxHeartbeats 1000000

theorem slow_4a (s : Str) (h1 : 240 ≤ bt s 0) (h2 : bt s 0 < 245) (hc : bt s 0 = 240) (hp : 0 < s.length) (hl : s.length < 2^62) : Pure Tryd.prog 26 [.str s] (.tup [.int .i32 (dec s 0).1, .int .i64 (dec s 0).2]) := by
  have hb := bt_lt s 0
  have hb1 := bt_lt s 1
  have hb2 := bt_lt s 2
  have hb3 := bt_lt s 3
  have hx : fstV (bt s 0) = 52 := by unfold fstV; (repeat' split) <;> first | rfl | omega
  have hd := d4 (lo := 144) (hi := 191) h1 h2 (by split <;> first | rfl | omega) (by split <;> first | rfl | omega)
  refine Pure.of_sw 117 Tryd.func26 rfl Tryd.ntmps26 (by kernel_rfl) (Nat.le_of_ble_eq_true (by kernel_rfl)) (by simp [closeds, AV.closed, aSs_closed, aIs_closed, aBs_closed, aRs_closed, aDen_closed]) (by simp [AV.closed, closeds, aSs_closed, aIs_closed, aBs_closed, aRs_closed, aDen_closed]) ?_; refine SW.of_vc ?_
  repeat first | refine opsStep ?_ | refine codeStep ?_ | refine drawStep ?_
  refine decB_dec (fun h0 => ?_) (fun h0 => ?_)
  · exfalso; have : (s.length : Int) < 1 := h0; omega
  repeat first | refine opsStep ?_ | refine codeStep ?_ | refine drawStep ?_
  refine optE_of (c := s[0]) (by simp [hp]) ?_
  repeat first | refine opsStep ?_ | refine codeStep ?_ | refine drawStep ?_
  rw [bt_at hp]
  refine guardE_of ⟨by omega, by show (bt s 0 : Int) < 256; omega⟩ ?_
  repeat first | refine opsStep ?_ | refine codeStep ?_ | refine drawStep ?_
  refine optE_of (c := .int .u8 52) ((byt_at (by omega)).trans (by rw [hx])) ?_
  iterate 2 refine opsStep ?_
  refine VCode.ent (Ent.fr' (l := [(0, .str s), (4, .int .i64 s.length), (5, .int .u8 (bt s 0)), (6, .int .u8 52)]) (H' := []) ⟨(by kernel_rfl), (by kernel_rfl), (by kernel_rfl), (by kernel_rfl), trivial⟩ (by kernel_rfl)) ?_
  repeat first | refine opsStep ?_ | refine codeStep ?_ | refine drawStep ?_
  refine decB_dec (fun h1 => ?_) (fun h1 => ?_)
  · have hl1 : (s.length : Int) < 4 := h1
    clear h1
    repeat first | refine opsStep ?_ | refine codeStep ?_ | refine drawStep ?_
    exact finV (v' := .tup [.int .i32 65533, .int .i64 1]) (by kernel_rfl) (by rw [hd, if_neg (by omega)] <;> rfl)
  have hl1 : ¬ (s.length : Int) < 4 := h1
  clear h1
  refine VCode.ent (Ent.fr' (l := [(0, .str s), (4, .int .i64 s.length), (5, .int .u8 (bt s 0)), (8, .int .i64 4), (9, .ref 0 0 0)]) (H' := [.cells 0 [.int .u8 144, .int .u8 191]]) ⟨(by kernel_rfl), (by kernel_rfl), (by kernel_rfl), (by kernel_rfl), (by kernel_rfl), trivial⟩ (by kernel_rfl)) ?_
  repeat first | refine opsStep ?_ | refine codeStep ?_ | refine drawStep ?_
  refine optE_of (c := s[1]) (by simp <;> omega) ?_
  rw [bt_at (show 1 < s.length by omega)]
  iterate 2 refine opsStep ?_
  refine VCode.ent (Ent.fr' (l := [(0, .str s), (4, .int .i64 s.length), (5, .int .u8 (bt s 0)), (8, .int .i64 4), (9, .ref 0 0 0), (10, .int .u8 (bt s 1))]) (H' := [.cells 0 [.int .u8 144, .int .u8 191]]) ⟨(by kernel_rfl), (by kernel_rfl), (by kernel_rfl), (by kernel_rfl), (by kernel_rfl), (by kernel_rfl), trivial⟩ (by kernel_rfl)) ?_
  repeat first | refine opsStep ?_ | refine codeStep ?_ | refine drawStep ?_
  refine decB_dec (fun k1 => ?_) (fun k1 => ?_)
  · have l1 : (bt s 1 : Int) < 144 := k1
    clear k1
    repeat first | refine opsStep ?_ | refine codeStep ?_ | refine drawStep ?_
    exact finV (v' := .tup [.int .i32 65533, .int .i64 1]) (by kernel_rfl) (by rw [hd, if_neg (by omega)] <;> rfl)
  have l1 : ¬ (bt s 1 : Int) < 144 := k1
  clear k1
  repeat first | refine opsStep ?_ | refine codeStep ?_ | refine drawStep ?_
  refine decB_dec (fun k2 => ?_) (fun k2 => ?_)
  · have l2 : (191 : Int) < bt s 1 := k2
    clear k2
    repeat first | refine opsStep ?_ | refine codeStep ?_ | refine drawStep ?_
    exact finV (v' := .tup [.int .i32 65533, .int .i64 1]) (by kernel_rfl) (by rw [hd, if_neg (by omega)] <;> rfl)
  have l2 : ¬ (191 : Int) < bt s 1 := k2
  clear k2
  refine VCode.ent (Ent.fr' (l := [(0, .str s), (4, .int .i64 s.length), (5, .int .u8 (bt s 0)), (8, .int .i64 4), (9, .ref 0 0 0), (10, .int .u8 (bt s 1))]) (H' := [.cells 0 [.int .u8 144, .int .u8 191]]) ⟨(by kernel_rfl), (by kernel_rfl), (by kernel_rfl), (by kernel_rfl), (by kernel_rfl), (by kernel_rfl), trivial⟩ (by kernel_rfl)) ?_
  repeat first | refine opsStep ?_ | refine codeStep ?_ | refine drawStep ?_
  refine optE_of (c := s[2]) (by simp <;> omega) ?_
  rw [bt_at (show 2 < s.length by omega)]
  iterate 2 refine opsStep ?_
  refine VCode.ent (Ent.fr' (l := [(0, .str s), (4, .int .i64 s.length), (5, .int .u8 (bt s 0)), (8, .int .i64 4), (10, .int .u8 (bt s 1)), (11, .int .u8 (bt s 2))]) (H' := [.cells 0 [.int .u8 144, .int .u8 191]]) (by refine ⟨(by kernel_rfl), (by kernel_rfl), (by kernel_rfl), (by kernel_rfl), (by kernel_rfl), ?_⟩; first | exact ⟨(by kernel_rfl), trivial⟩ | exact ⟨(by kernel_rfl), (by kernel_rfl), trivial⟩) (by kernel_rfl)) ?_
  repeat first | refine opsStep ?_ | refine codeStep ?_ | refine drawStep ?_
  refine decB_dec (fun k3 => ?_) (fun k3 => ?_)
  · have l1 : (bt s 2 : Int) < 128 := k3
    clear k3
    repeat first | refine opsStep ?_ | refine codeStep ?_ | refine drawStep ?_
    exact finV (v' := .tup [.int .i32 65533, .int .i64 1]) (by kernel_rfl) (by rw [hd, if_neg (by omega)] <;> rfl)
  have l1 : ¬ (bt s 2 : Int) < 128 := k3
  clear k3
  repeat first | refine opsStep ?_ | refine codeStep ?_ | refine drawStep ?_
  refine decB_dec (fun k4 => ?_) (fun k4 => ?_)
  · have l2 : (191 : Int) < bt s 2 := k4
    clear k4
    repeat first | refine opsStep ?_ | refine codeStep ?_ | refine drawStep ?_
    exact finV (v' := .tup [.int .i32 65533, .int .i64 1]) (by kernel_rfl) (by rw [hd, if_neg (by omega)] <;> rfl)
  have l2 : ¬ (191 : Int) < bt s 2 := k4
  clear k4
  repeat first | refine opsStep ?_ | refine codeStep ?_ | refine drawStep ?_
  refine optE_of (c := s[3]) (by simp <;> omega) ?_
  rw [bt_at (show 3 < s.length by omega)]
  iterate 2 refine opsStep ?_
  refine VCode.ent (Ent.fr' (l := [(0, .str s), (4, .int .i64 s.length), (5, .int .u8 (bt s 0)), (8, .int .i64 4), (10, .int .u8 (bt s 1)), (11, .int .u8 (bt s 2)), (12, .int .u8 (bt s 3))]) (H' := [.cells 0 [.int .u8 144, .int .u8 191]]) (by refine ⟨(by kernel_rfl), (by kernel_rfl), (by kernel_rfl), (by kernel_rfl), (by kernel_rfl), ?_⟩; first | exact ⟨(by kernel_rfl), trivial⟩ | exact ⟨(by kernel_rfl), (by kernel_rfl), trivial⟩) (by kernel_rfl)) ?_
  repeat first | refine opsStep ?_ | refine codeStep ?_ | refine drawStep ?_
  refine decB_dec (fun k5 => ?_) (fun k5 => ?_)
  · have l1 : (bt s 3 : Int) < 128 := k5
    clear k5
    repeat first | refine opsStep ?_ | refine codeStep ?_ | refine drawStep ?_
    exact finV (v' := .tup [.int .i32 65533, .int .i64 1]) (by kernel_rfl) (by rw [hd, if_neg (by omega)] <;> rfl)
  have l1 : ¬ (bt s 3 : Int) < 128 := k5
  clear k5
  repeat first | refine opsStep ?_ | refine codeStep ?_ | refine drawStep ?_
  refine decB_dec (fun k6 => ?_) (fun k6 => ?_)
  · have l2 : (191 : Int) < bt s 3 := k6
    clear k6
    repeat first | refine opsStep ?_ | refine codeStep ?_ | refine drawStep ?_
    exact finV (v' := .tup [.int .i32 65533, .int .i64 1]) (by kernel_rfl) (by rw [hd, if_neg (by omega)] <;> rfl)
  have l2 : ¬ (191 : Int) < bt s 3 := k6
  clear k6
  repeat first | refine opsStep ?_ | refine codeStep ?_ | refine drawStep ?_
  exact finV (v' := .tup [.int .i32 (bits .or .i32 (bits .or .i32 (bits .or .i32 (IntKind.wrap .i32 (IntKind.wrap .i32 (bits .and .u8 (bt s 0 : Int) 7) * 2 ^ 18)) (IntKind.wrap .i32 (IntKind.wrap .i32 (bits .and .u8 (bt s 1 : Int) 63) * 2 ^ 12))) (IntKind.wrap .i32 (IntKind.wrap .i32 (bits .and .u8 (bt s 2 : Int) 63) * 2 ^ 6))) (IntKind.wrap .i32 (bits .and .u8 (bt s 3 : Int) 63))), .int .i64 4]) (by kernel_rfl) (by rw [hd, if_pos (by omega), or4 _ _ _ _ hb hb1 hb2 hb3] <;> rfl)
theorem slow_4b (s : Str) (h1 : 240 ≤ bt s 0) (h2 : bt s 0 < 245) (hc : bt s 0 = 244) (hp : 0 < s.length) (hl : s.length < 2^62) : Pure Tryd.prog 26 [.str s] (.tup [.int .i32 (dec s 0).1, .int .i64 (dec s 0).2]) := by
  have hb := bt_lt s 0
  have hb1 := bt_lt s 1
  have hb2 := bt_lt s 2
  have hb3 := bt_lt s 3
  have hx : fstV (bt s 0) = 68 := by unfold fstV; (repeat' split) <;> first | rfl | omega
  have hd := d4 (lo := 128) (hi := 143) h1 h2 (by split <;> first | rfl | omega) (by split <;> first | rfl | omega)
  refine Pure.of_sw 117 Tryd.func26 rfl Tryd.ntmps26 (by kernel_rfl) (Nat.le_of_ble_eq_true (by kernel_rfl)) (by simp [closeds, AV.closed, aSs_closed, aIs_closed, aBs_closed, aRs_closed, aDen_closed]) (by simp [AV.closed, closeds, aSs_closed, aIs_closed, aBs_closed, aRs_closed, aDen_closed]) ?_; refine SW.of_vc ?_
  repeat first | refine opsStep ?_ | refine codeStep ?_ | refine drawStep ?_
  refine decB_dec (fun h0 => ?_) (fun h0 => ?_)
  · exfalso; have : (s.length : Int) < 1 := h0; omega
  repeat first | refine opsStep ?_ | refine codeStep ?_ | refine drawStep ?_
  refine optE_of (c := s[0]) (by simp [hp]) ?_
  repeat first | refine opsStep ?_ | refine codeStep ?_ | refine drawStep ?_
  rw [bt_at hp]
  refine guardE_of ⟨by omega, by show (bt s 0 : Int) < 256; omega⟩ ?_
  repeat first | refine opsStep ?_ | refine codeStep ?_ | refine drawStep ?_
  refine optE_of (c := .int .u8 68) ((byt_at (by omega)).trans (by rw [hx])) ?_
  iterate 2 refine opsStep ?_
  refine VCode.ent (Ent.fr' (l := [(0, .str s), (4, .int .i64 s.length), (5, .int .u8 (bt s 0)), (6, .int .u8 68)]) (H' := []) ⟨(by kernel_rfl), (by kernel_rfl), (by kernel_rfl), (by kernel_rfl), trivial⟩ (by kernel_rfl)) ?_
  repeat first | refine opsStep ?_ | refine codeStep ?_ | refine drawStep ?_
  refine decB_dec (fun h1 => ?_) (fun h1 => ?_)
  · have hl1 : (s.length : Int) < 4 := h1
    clear h1
    repeat first | refine opsStep ?_ | refine codeStep ?_ | refine drawStep ?_
    exact finV (v' := .tup [.int .i32 65533, .int .i64 1]) (by kernel_rfl) (by rw [hd, if_neg (by omega)] <;> rfl)
  have hl1 : ¬ (s.length : Int) < 4 := h1
  clear h1
  refine VCode.ent (Ent.fr' (l := [(0, .str s), (4, .int .i64 s.length), (5, .int .u8 (bt s 0)), (8, .int .i64 4), (9, .ref 0 0 0)]) (H' := [.cells 0 [.int .u8 128, .int .u8 143]]) ⟨(by kernel_rfl), (by kernel_rfl), (by kernel_rfl), (by kernel_rfl), (by kernel_rfl), trivial⟩ (by kernel_rfl)) ?_
  repeat first | refine opsStep ?_ | refine codeStep ?_ | refine drawStep ?_
  refine optE_of (c := s[1]) (by simp <;> omega) ?_
  rw [bt_at (show 1 < s.length by omega)]
  iterate 2 refine opsStep ?_
  refine VCode.ent (Ent.fr' (l := [(0, .str s), (4, .int .i64 s.length), (5, .int .u8 (bt s 0)), (8, .int .i64 4), (9, .ref 0 0 0), (10, .int .u8 (bt s 1))]) (H' := [.cells 0 [.int .u8 128, .int .u8 143]]) ⟨(by kernel_rfl), (by kernel_rfl), (by kernel_rfl), (by kernel_rfl), (by kernel_rfl), (by kernel_rfl), trivial⟩ (by kernel_rfl)) ?_
  repeat first | refine opsStep ?_ | refine codeStep ?_ | refine drawStep ?_
  refine decB_dec (fun k1 => ?_) (fun k1 => ?_)
  · have l1 : (bt s 1 : Int) < 128 := k1
    clear k1
    repeat first | refine opsStep ?_ | refine codeStep ?_ | refine drawStep ?_
    exact finV (v' := .tup [.int .i32 65533, .int .i64 1]) (by kernel_rfl) (by rw [hd, if_neg (by omega)] <;> rfl)
  have l1 : ¬ (bt s 1 : Int) < 128 := k1
  clear k1
  repeat first | refine opsStep ?_ | refine codeStep ?_ | refine drawStep ?_
  refine decB_dec (fun k2 => ?_) (fun k2 => ?_)
  · have l2 : (143 : Int) < bt s 1 := k2
    clear k2
    repeat first | refine opsStep ?_ | refine codeStep ?_ | refine drawStep ?_
    exact finV (v' := .tup [.int .i32 65533, .int .i64 1]) (by kernel_rfl) (by rw [hd, if_neg (by omega)] <;> rfl)
  have l2 : ¬ (143 : Int) < bt s 1 := k2
  clear k2
  refine VCode.ent (Ent.fr' (l := [(0, .str s), (4, .int .i64 s.length), (5, .int .u8 (bt s 0)), (8, .int .i64 4), (9, .ref 0 0 0), (10, .int .u8 (bt s 1))]) (H' := [.cells 0 [.int .u8 128, .int .u8 143]]) ⟨(by kernel_rfl), (by kernel_rfl), (by kernel_rfl), (by kernel_rfl), (by kernel_rfl), (by kernel_rfl), trivial⟩ (by kernel_rfl)) ?_
  repeat first | refine opsStep ?_ | refine codeStep ?_ | refine drawStep ?_
  refine optE_of (c := s[2]) (by simp <;> omega) ?_
  rw [bt_at (show 2 < s.length by omega)]
  iterate 2 refine opsStep ?_
  refine VCode.ent (Ent.fr' (l := [(0, .str s), (4, .int .i64 s.length), (5, .int .u8 (bt s 0)), (8, .int .i64 4), (10, .int .u8 (bt s 1)), (11, .int .u8 (bt s 2))]) (H' := [.cells 0 [.int .u8 128, .int .u8 143]]) (by refine ⟨(by kernel_rfl), (by kernel_rfl), (by kernel_rfl), (by kernel_rfl), (by kernel_rfl), ?_⟩; first | exact ⟨(by kernel_rfl), trivial⟩ | exact ⟨(by kernel_rfl), (by kernel_rfl), trivial⟩) (by kernel_rfl)) ?_
  repeat first | refine opsStep ?_ | refine codeStep ?_ | refine drawStep ?_
  refine decB_dec (fun k3 => ?_) (fun k3 => ?_)
  · have l1 : (bt s 2 : Int) < 128 := k3
    clear k3
    repeat first | refine opsStep ?_ | refine codeStep ?_ | refine drawStep ?_
    exact finV (v' := .tup [.int .i32 65533, .int .i64 1]) (by kernel_rfl) (by rw [hd, if_neg (by omega)] <;> rfl)
  have l1 : ¬ (bt s 2 : Int) < 128 := k3
  clear k3
  repeat first | refine opsStep ?_ | refine codeStep ?_ | refine drawStep ?_
  refine decB_dec (fun k4 => ?_) (fun k4 => ?_)
  · have l2 : (191 : Int) < bt s 2 := k4
    clear k4
    repeat first | refine opsStep ?_ | refine codeStep ?_ | refine drawStep ?_
    exact finV (v' := .tup [.int .i32 65533, .int .i64 1]) (by kernel_rfl) (by rw [hd, if_neg (by omega)] <;> rfl)
  have l2 : ¬ (191 : Int) < bt s 2 := k4
  clear k4
  repeat first | refine opsStep ?_ | refine codeStep ?_ | refine drawStep ?_
  refine optE_of (c := s[3]) (by simp <;> omega) ?_
  rw [bt_at (show 3 < s.length by omega)]
  iterate 2 refine opsStep ?_
  refine VCode.ent (Ent.fr' (l := [(0, .str s), (4, .int .i64 s.length), (5, .int .u8 (bt s 0)), (8, .int .i64 4), (10, .int .u8 (bt s 1)), (11, .int .u8 (bt s 2)), (12, .int .u8 (bt s 3))]) (H' := [.cells 0 [.int .u8 128, .int .u8 143]]) (by refine ⟨(by kernel_rfl), (by kernel_rfl), (by kernel_rfl), (by kernel_rfl), (by kernel_rfl), ?_⟩; first | exact ⟨(by kernel_rfl), trivial⟩ | exact ⟨(by kernel_rfl), (by kernel_rfl), trivial⟩) (by kernel_rfl)) ?_
  repeat first | refine opsStep ?_ | refine codeStep ?_ | refine drawStep ?_
  refine decB_dec (fun k5 => ?_) (fun k5 => ?_)
  · have l1 : (bt s 3 : Int) < 128 := k5
    clear k5
    repeat first | refine opsStep ?_ | refine codeStep ?_ | refine drawStep ?_
    exact finV (v' := .tup [.int .i32 65533, .int .i64 1]) (by kernel_rfl) (by rw [hd, if_neg (by omega)] <;> rfl)
  have l1 : ¬ (bt s 3 : Int) < 128 := k5
  clear k5
  repeat first | refine opsStep ?_ | refine codeStep ?_ | refine drawStep ?_
  refine decB_dec (fun k6 => ?_) (fun k6 => ?_)
  · have l2 : (191 : Int) < bt s 3 := k6
    clear k6
    repeat first | refine opsStep ?_ | refine codeStep ?_ | refine drawStep ?_
    exact finV (v' := .tup [.int .i32 65533, .int .i64 1]) (by kernel_rfl) (by rw [hd, if_neg (by omega)] <;> rfl)
  have l2 : ¬ (191 : Int) < bt s 3 := k6
  clear k6
  repeat first | refine opsStep ?_ | refine codeStep ?_ | refine drawStep ?_
  exact finV (v' := .tup [.int .i32 (bits .or .i32 (bits .or .i32 (bits .or .i32 (IntKind.wrap .i32 (IntKind.wrap .i32 (bits .and .u8 (bt s 0 : Int) 7) * 2 ^ 18)) (IntKind.wrap .i32 (IntKind.wrap .i32 (bits .and .u8 (bt s 1 : Int) 63) * 2 ^ 12))) (IntKind.wrap .i32 (IntKind.wrap .i32 (bits .and .u8 (bt s 2 : Int) 63) * 2 ^ 6))) (IntKind.wrap .i32 (bits .and .u8 (bt s 3 : Int) 63))), .int .i64 4]) (by kernel_rfl) (by rw [hd, if_pos (by omega), or4 _ _ _ _ hb hb1 hb2 hb3] <;> rfl)
theorem slow_4c (s : Str) (h1 : 240 ≤ bt s 0) (h2 : bt s 0 < 245) (hc : bt s 0 ≠ 240 ∧ bt s 0 ≠ 244) (hp : 0 < s.length) (hl : s.length < 2^62) : Pure Tryd.prog 26 [.str s] (.tup [.int .i32 (dec s 0).1, .int .i64 (dec s 0).2]) := by
  have hb := bt_lt s 0
  have hb1 := bt_lt s 1
  have hb2 := bt_lt s 2
  have hb3 := bt_lt s 3
  have hx : fstV (bt s 0) = 4 := by unfold fstV; (repeat' split) <;> first | rfl | omega
  have hd := d4 (lo := 128) (hi := 191) h1 h2 (by split <;> first | rfl | omega) (by split <;> first | rfl | omega)
  refine Pure.of_sw 117 Tryd.func26 rfl Tryd.ntmps26 (by kernel_rfl) (Nat.le_of_ble_eq_true (by kernel_rfl)) (by simp [closeds, AV.closed, aSs_closed, aIs_closed, aBs_closed, aRs_closed, aDen_closed]) (by simp [AV.closed, closeds, aSs_closed, aIs_closed, aBs_closed, aRs_closed, aDen_closed]) ?_; refine SW.of_vc ?_
  repeat first | refine opsStep ?_ | refine codeStep ?_ | refine drawStep ?_
  refine decB_dec (fun h0 => ?_) (fun h0 => ?_)
  · exfalso; have : (s.length : Int) < 1 := h0; omega
  repeat first | refine opsStep ?_ | refine codeStep ?_ | refine drawStep ?_
  refine optE_of (c := s[0]) (by simp [hp]) ?_
  repeat first | refine opsStep ?_ | refine codeStep ?_ | refine drawStep ?_
  rw [bt_at hp]
  refine guardE_of ⟨by omega, by show (bt s 0 : Int) < 256; omega⟩ ?_
  repeat first | refine opsStep ?_ | refine codeStep ?_ | refine drawStep ?_
  refine optE_of (c := .int .u8 4) ((byt_at (by omega)).trans (by rw [hx])) ?_
  iterate 2 refine opsStep ?_
  refine VCode.ent (Ent.fr' (l := [(0, .str s), (4, .int .i64 s.length), (5, .int .u8 (bt s 0)), (6, .int .u8 4)]) (H' := []) ⟨(by kernel_rfl), (by kernel_rfl), (by kernel_rfl), (by kernel_rfl), trivial⟩ (by kernel_rfl)) ?_
  repeat first | refine opsStep ?_ | refine codeStep ?_ | refine drawStep ?_
  refine decB_dec (fun h1 => ?_) (fun h1 => ?_)
  · have hl1 : (s.length : Int) < 4 := h1
    clear h1
    repeat first | refine opsStep ?_ | refine codeStep ?_ | refine drawStep ?_
    exact finV (v' := .tup [.int .i32 65533, .int .i64 1]) (by kernel_rfl) (by rw [hd, if_neg (by omega)] <;> rfl)
  have hl1 : ¬ (s.length : Int) < 4 := h1
  clear h1
  refine VCode.ent (Ent.fr' (l := [(0, .str s), (4, .int .i64 s.length), (5, .int .u8 (bt s 0)), (8, .int .i64 4), (9, .ref 0 0 0)]) (H' := [.cells 0 [.int .u8 128, .int .u8 191]]) ⟨(by kernel_rfl), (by kernel_rfl), (by kernel_rfl), (by kernel_rfl), (by kernel_rfl), trivial⟩ (by kernel_rfl)) ?_
  repeat first | refine opsStep ?_ | refine codeStep ?_ | refine drawStep ?_
  refine optE_of (c := s[1]) (by simp <;> omega) ?_
  rw [bt_at (show 1 < s.length by omega)]
  iterate 2 refine opsStep ?_
  refine VCode.ent (Ent.fr' (l := [(0, .str s), (4, .int .i64 s.length), (5, .int .u8 (bt s 0)), (8, .int .i64 4), (9, .ref 0 0 0), (10, .int .u8 (bt s 1))]) (H' := [.cells 0 [.int .u8 128, .int .u8 191]]) ⟨(by kernel_rfl), (by kernel_rfl), (by kernel_rfl), (by kernel_rfl), (by kernel_rfl), (by kernel_rfl), trivial⟩ (by kernel_rfl)) ?_
  repeat first | refine opsStep ?_ | refine codeStep ?_ | refine drawStep ?_
  refine decB_dec (fun k1 => ?_) (fun k1 => ?_)
  · have l1 : (bt s 1 : Int) < 128 := k1
    clear k1
    repeat first | refine opsStep ?_ | refine codeStep ?_ | refine drawStep ?_
    exact finV (v' := .tup [.int .i32 65533, .int .i64 1]) (by kernel_rfl) (by rw [hd, if_neg (by omega)] <;> rfl)
  have l1 : ¬ (bt s 1 : Int) < 128 := k1
  clear k1
  repeat first | refine opsStep ?_ | refine codeStep ?_ | refine drawStep ?_
  refine decB_dec (fun k2 => ?_) (fun k2 => ?_)
  · have l2 : (191 : Int) < bt s 1 := k2
    clear k2
    repeat first | refine opsStep ?_ | refine codeStep ?_ | refine drawStep ?_
    exact finV (v' := .tup [.int .i32 65533, .int .i64 1]) (by kernel_rfl) (by rw [hd, if_neg (by omega)] <;> rfl)
  have l2 : ¬ (191 : Int) < bt s 1 := k2
  clear k2
  refine VCode.ent (Ent.fr' (l := [(0, .str s), (4, .int .i64 s.length), (5, .int .u8 (bt s 0)), (8, .int .i64 4), (9, .ref 0 0 0), (10, .int .u8 (bt s 1))]) (H' := [.cells 0 [.int .u8 128, .int .u8 191]]) ⟨(by kernel_rfl), (by kernel_rfl), (by kernel_rfl), (by kernel_rfl), (by kernel_rfl), (by kernel_rfl), trivial⟩ (by kernel_rfl)) ?_
  repeat first | refine opsStep ?_ | refine codeStep ?_ | refine drawStep ?_
  refine optE_of (c := s[2]) (by simp <;> omega) ?_
  rw [bt_at (show 2 < s.length by omega)]
  iterate 2 refine opsStep ?_
  refine VCode.ent (Ent.fr' (l := [(0, .str s), (4, .int .i64 s.length), (5, .int .u8 (bt s 0)), (8, .int .i64 4), (10, .int .u8 (bt s 1)), (11, .int .u8 (bt s 2))]) (H' := [.cells 0 [.int .u8 128, .int .u8 191]]) (by refine ⟨(by kernel_rfl), (by kernel_rfl), (by kernel_rfl), (by kernel_rfl), (by kernel_rfl), ?_⟩; first | exact ⟨(by kernel_rfl), trivial⟩ | exact ⟨(by kernel_rfl), (by kernel_rfl), trivial⟩) (by kernel_rfl)) ?_
  repeat first | refine opsStep ?_ | refine codeStep ?_ | refine drawStep ?_
  refine decB_dec (fun k3 => ?_) (fun k3 => ?_)
  · have l1 : (bt s 2 : Int) < 128 := k3
    clear k3
    repeat first | refine opsStep ?_ | refine codeStep ?_ | refine drawStep ?_
    exact finV (v' := .tup [.int .i32 65533, .int .i64 1]) (by kernel_rfl) (by rw [hd, if_neg (by omega)] <;> rfl)
  have l1 : ¬ (bt s 2 : Int) < 128 := k3
  clear k3
  repeat first | refine opsStep ?_ | refine codeStep ?_ | refine drawStep ?_
  refine decB_dec (fun k4 => ?_) (fun k4 => ?_)
  · have l2 : (191 : Int) < bt s 2 := k4
    clear k4
    repeat first | refine opsStep ?_ | refine codeStep ?_ | refine drawStep ?_
    exact finV (v' := .tup [.int .i32 65533, .int .i64 1]) (by kernel_rfl) (by rw [hd, if_neg (by omega)] <;> rfl)
  have l2 : ¬ (191 : Int) < bt s 2 := k4
  clear k4
  repeat first | refine opsStep ?_ | refine codeStep ?_ | refine drawStep ?_
  refine optE_of (c := s[3]) (by simp <;> omega) ?_
  rw [bt_at (show 3 < s.length by omega)]
  iterate 2 refine opsStep ?_
  refine VCode.ent (Ent.fr' (l := [(0, .str s), (4, .int .i64 s.length), (5, .int .u8 (bt s 0)), (8, .int .i64 4), (10, .int .u8 (bt s 1)), (11, .int .u8 (bt s 2)), (12, .int .u8 (bt s 3))]) (H' := [.cells 0 [.int .u8 128, .int .u8 191]]) (by refine ⟨(by kernel_rfl), (by kernel_rfl), (by kernel_rfl), (by kernel_rfl), (by kernel_rfl), ?_⟩; first | exact ⟨(by kernel_rfl), trivial⟩ | exact ⟨(by kernel_rfl), (by kernel_rfl), trivial⟩) (by kernel_rfl)) ?_
  repeat first | refine opsStep ?_ | refine codeStep ?_ | refine drawStep ?_
  refine decB_dec (fun k5 => ?_) (fun k5 => ?_)
  · have l1 : (bt s 3 : Int) < 128 := k5
    clear k5
    repeat first | refine opsStep ?_ | refine codeStep ?_ | refine drawStep ?_
    exact finV (v' := .tup [.int .i32 65533, .int .i64 1]) (by kernel_rfl) (by rw [hd, if_neg (by omega)] <;> rfl)
  have l1 : ¬ (bt s 3 : Int) < 128 := k5
  clear k5
  repeat first | refine opsStep ?_ | refine codeStep ?_ | refine drawStep ?_
  refine decB_dec (fun k6 => ?_) (fun k6 => ?_)
  · have l2 : (191 : Int) < bt s 3 := k6
    clear k6
    repeat first | refine opsStep ?_ | refine codeStep ?_ | refine drawStep ?_
    exact finV (v' := .tup [.int .i32 65533, .int .i64 1]) (by kernel_rfl) (by rw [hd, if_neg (by omega)] <;> rfl)
  have l2 : ¬ (191 : Int) < bt s 3 := k6
  clear k6
  repeat first | refine opsStep ?_ | refine codeStep ?_ | refine drawStep ?_
  exact finV (v' := .tup [.int .i32 (bits .or .i32 (bits .or .i32 (bits .or .i32 (IntKind.wrap .i32 (IntKind.wrap .i32 (bits .and .u8 (bt s 0 : Int) 7) * 2 ^ 18)) (IntKind.wrap .i32 (IntKind.wrap .i32 (bits .and .u8 (bt s 1 : Int) 63) * 2 ^ 12))) (IntKind.wrap .i32 (IntKind.wrap .i32 (bits .and .u8 (bt s 2 : Int) 63) * 2 ^ 6))) (IntKind.wrap .i32 (bits .and .u8 (bt s 3 : Int) 63))), .int .i64 4]) (by kernel_rfl) (by rw [hd, if_pos (by omega), or4 _ _ _ _ hb hb1 hb2 hb3] <;> rfl)

end Tab

/- Decoding of a text's first character. -/
namespace Tab
open Go Go.Proofs
set_option maxRecDepth 10000
set_option linter.unusedVariables false
set_option linter.unusedSimpArgs false
set_option linter.unusedSectionVars false

theorem slow (s : Str) (h : 128 ≤ bt s 0) (hp : 0 < s.length) (hl : s.length < 2^62) : Pure Tryd.prog 26 [.str s] (.tup [.int .i32 (dec s 0).1, .int .i64 (dec s 0).2]) := by
  by_cases c1 : (128 ≤ bt s 0 ∧ bt s 0 < 194) ∨ 245 ≤ bt s 0
  · exact slow_x s c1 hp hl
  by_cases c2 : bt s 0 < 224
  · exact slow_2 s (by omega) c2 hp hl
  by_cases c3 : bt s 0 < 240
  · by_cases e1 : bt s 0 = 224
    · exact slow_3a s (by omega) c3 e1 hp hl
    by_cases e2 : bt s 0 = 237
    · exact slow_3b s (by omega) c3 e2 hp hl
    exact slow_3c s (by omega) c3 ⟨e1, e2⟩ hp hl
  by_cases e1 : bt s 0 = 240
  · exact slow_4a s (by omega) (by omega) e1 hp hl
  by_cases e2 : bt s 0 = 244
  · exact slow_4b s (by omega) (by omega) e2 hp hl
  exact slow_4c s (by omega) (by omega) ⟨e1, e2⟩ hp hl

theorem decodeS (s : Str) (hp : 0 < s.length) (hl : s.length < 2^62) : Pure Tryd.prog 17 [.str s] (.tup [.int .i32 (dec s 0).1, .int .i64 (dec s 0).2]) := by
  have hb := bt_lt s 0
  have hne : decide (s ≠ []) = true := by cases s with
    | nil => simp at hp
    | cons _ _ => simp
  refine Pure.of_sw 19 Tryd.func17 rfl Tryd.ntmps17 (by kernel_rfl) (Nat.le_of_ble_eq_true (by kernel_rfl)) (by simp [closeds, AV.closed, aSs_closed, aIs_closed, aBs_closed, aRs_closed, aDen_closed]) (by simp [AV.closed, closeds, aSs_closed, aIs_closed, aBs_closed, aRs_closed, aDen_closed]) ?_; refine SW.of_vc ?_
  repeat first | refine opsStep ?_ | refine codeStep ?_ | refine drawStep ?_
  refine decB_true (b := decide (s ≠ [])) hne ?_
  repeat first | refine opsStep ?_ | refine codeStep ?_ | refine drawStep ?_
  refine optE_of (c := s[0]) (by simp [hp]) ?_
  repeat first | refine opsStep ?_ | refine codeStep ?_ | refine drawStep ?_
  rw [bt_at hp]
  refine decB_dec (fun h1 => ?_) (fun h1 => ?_)
  · have l1 : (bt s 0 : Int) < 128 := h1
    repeat first | refine opsStep ?_ | refine codeStep ?_ | refine drawStep ?_
    refine optE_of (c := s[0]) (by simp [hp]) ?_
    repeat first | refine opsStep ?_ | refine codeStep ?_ | refine drawStep ?_
    rw [bt_at hp]
    exact finV (v' := .tup [.int .i32 (IntKind.wrap .i32 (bt s 0 : Int)), .int .i64 1]) (by kernel_rfl) (by rw [dec_ascii (by omega), IntWalk.i32_in _ (by omega)]; rfl)
  · have l1 : ¬ (bt s 0 : Int) < 128 := h1
    repeat first | refine opsStep ?_ | refine codeStep ?_ | refine drawStep ?_
    refine callP (slow s (by omega) hp hl) ?_
    repeat first | refine opsStep ?_ | refine codeStep ?_ | refine drawStep ?_
    exact finV (v' := .tup [.int .i32 (dec s 0).1, .int .i64 (dec s 0).2]) (by kernel_rfl) rfl

end Tab

/- A number's digits, a name. -/
namespace Tab
open Go Go.Proofs
set_option maxRecDepth 10000
set_option linter.unusedVariables false
set_option linter.unusedSimpArgs false
set_option linter.unusedSectionVars false

theorem lex_number (t : Str) (hl : t.length < 2^62) (hd : ∀ i, i < t.length → 48 ≤ bt t i ∧ bt t i ≤ 57) : Pure Tryd.prog 22 [.str t] (.tup [.int .i64 ((numS t).getD 0 : Nat), .bool (numS t).isSome]) := by
  refine Pure.of_sw 27 Tryd.func22 rfl Tryd.ntmps22 (by kernel_rfl) (Nat.le_of_ble_eq_true (by kernel_rfl)) (by simp [closeds, AV.closed, aSs_closed, aIs_closed, aBs_closed, aRs_closed, aDen_closed]) (by simp [AV.closed, closeds, aSs_closed, aIs_closed, aBs_closed, aRs_closed, aDen_closed]) ?_; refine SW.of_vc ?_
  repeat first | refine opsStep ?_ | refine codeStep ?_ | refine drawStep ?_
  refine loopE_of (ι := {x : Nat × Nat // numS t = numL x.2 (t.drop x.1) ∧ x.1 ≤ t.length ∧ x.2 < 2^63}) (fun x => (fr [(0, .str t), (4, .int .u64 x.1.2), (9, .ref 0 0 0)], [.siter t x.1.1])) (fun x => t.length - x.1.1)
    ⟨(0, 0), by simp [numS], Nat.zero_le _, by decide⟩ (Ent.fr' ⟨(by kernel_rfl), (by kernel_rfl), (by kernel_rfl), trivial⟩ (by kernel_rfl)) ?_
  rintro ⟨⟨a, n⟩, h1, h2, h3⟩
  simp only at h1 h2 h3
  repeat first | refine opsStep ?_ | refine codeStep ?_ | refine drawStep ?_
  refine decB_dec (fun hp => ?_) (fun hp => ?_)
  · have hp' : a < t.length := hp
    clear hp
    obtain ⟨b1, b2⟩ := hd a hp'
    have e0 : dec t a = (bt t a, 1) := dec_ascii (by omega)
    rw [e0]
    have hc : t.drop a = t[a] :: t.drop (a + 1) := List.drop_eq_getElem_cons hp'
    have hcb : (t[a]).toNat = bt t a := bt_at hp'
    have w1 : IntKind.wrap .u64 (IntKind.wrap .i32 ((bt t a : Int) - 48)) = ((bt t a - 48 : Nat) : Int) := by
      rw [IntWalk.i32_in _ (by omega), IntWalk.u64_in _ (by omega)]; omega
    have w2 : IntKind.wrap .u64 ((IntKind.wrap .u64 (9223372036854775807 - ((bt t a - 48 : Nat) : Int))).tdiv 10) = (((9223372036854775807 - (bt t a - 48)) / 10 : Nat) : Int) := by
      rw [IntWalk.u64_in (9223372036854775807 - ((bt t a - 48 : Nat) : Int)) (by omega)]
      have : (9223372036854775807 - ((bt t a - 48 : Nat) : Int)) = ((9223372036854775807 - (bt t a - 48) : Nat) : Int) := by omega
      rw [this, show ((10 : Int)) = ((10 : Nat) : Int) from rfl, ← Int.ofNat_tdiv]
      exact IntWalk.u64_in _ (by omega)
    rw [hc, numL, hcb] at h1
    repeat first | refine opsStep ?_ | refine codeStep ?_ | refine drawStep ?_
    refine decB_dec (p := (n : Int) > IntKind.wrap .u64 ((IntKind.wrap .u64 (9223372036854775807 - IntKind.wrap .u64 (IntKind.wrap .i32 ((bt t a : Int) - 48)))).tdiv 10)) (fun k => ?_) (fun k => ?_)
    · rw [w1, w2] at k
      repeat first | refine opsStep ?_ | refine codeStep ?_ | refine drawStep ?_
      exact finV (v' := .tup [.int .i64 0, .bool false]) (by kernel_rfl) (by rw [h1, if_pos (by omega)]; rfl)
    · rw [w1, w2] at k
      rw [if_neg (by omega)] at h1
      repeat first | refine opsStep ?_ | refine codeStep ?_ | refine drawStep ?_
      refine ⟨⟨(a + 1, 10 * n + (bt t a - 48)), h1, hp', by simp only; omega⟩, (by show t.length - (a + 1) < t.length - a; omega), Ent.fr' ⟨(by kernel_rfl), ?_, (by kernel_rfl), trivial⟩ (by kernel_rfl)⟩
      show AV.int .u64 (IntKind.wrap .u64 (IntKind.wrap .u64 (10 * (n : Int)) + IntKind.wrap .u64 (IntKind.wrap .i32 ((bt t a : Int) - 48)))) = AV.int .u64 ((10 * n + (bt t a - 48) : Nat) : Int)
      rw [w1, IntWalk.u64_in (10 * (n : Int)) (by omega), IntWalk.u64_in _ (by omega)]
      congr 1
  · have hp' : ¬ a < t.length := hp
    repeat first | refine opsStep ?_ | refine codeStep ?_ | refine drawStep ?_
    exact finV (v' := .tup [.int .i64 (IntKind.wrap .i64 (n : Int)), .bool true]) (by kernel_rfl) (by rw [h1, List.drop_eq_nil_of_le (by omega), numL, IntWalk.i64_in _ (by omega)]; rfl)

abbrev tokC (T : Tok) : List AV := [.int .i64 T.kind, .str T.text, .int .i64 T.num, .int .i64 0, .int .i64 0]
theorem lex_name (t : Str) (n : Nat) (hl : t.length < 2^62) : Pure Tryd.prog 20 [.str t] (.tup [.agg (tokC (nameT t n)), .int .i64 (nameT t n).err]) := by
  refine Pure.of_sw 16 Tryd.func20 rfl Tryd.ntmps20 (by kernel_rfl) (Nat.le_of_ble_eq_true (by kernel_rfl)) (by simp [closeds, AV.closed, aSs_closed, aIs_closed, aBs_closed, aRs_closed, aDen_closed]) (by simp [AV.closed, closeds, aSs_closed, aIs_closed, aBs_closed, aRs_closed, aDen_closed]) ?_; refine SW.of_vc ?_
  repeat first | refine opsStep ?_ | refine codeStep ?_ | refine drawStep ?_
  refine callP (glyph_Reserved t) ?_
  repeat first | refine opsStep ?_ | refine codeStep ?_ | refine drawStep ?_
  refine decB_split (fun h => ?_) (fun h => ?_)
  · repeat first | refine opsStep ?_ | refine codeStep ?_ | refine drawStep ?_
    exact finV (v' := .tup [.agg [.int .i64 2, .str t, .int .i64 0, .int .i64 0, .int .i64 0], .int .i64 0]) (by kernel_rfl) (by rw [nameT, if_pos h]; rfl)
  · repeat first | refine opsStep ?_ | refine codeStep ?_ | refine drawStep ?_
    refine callP (runeCount t hl) ?_
    repeat first | refine opsStep ?_ | refine codeStep ?_ | refine drawStep ?_
    refine decB_dec (fun k => ?_) (fun k => ?_)
    · have k' : (chS t : Int) > 16 := k
      repeat first | refine opsStep ?_ | refine codeStep ?_ | refine drawStep ?_
      exact finV (v' := .tup [.agg [.int .i64 0, .str [], .int .i64 0, .int .i64 0, .int .i64 0], .int .i64 6]) (by kernel_rfl) (by rw [nameT, if_neg (by simp [h]), if_pos (by omega)]; rfl)
    · have k' : ¬ (chS t : Int) > 16 := k
      repeat first | refine opsStep ?_ | refine codeStep ?_ | refine drawStep ?_
      exact finV (v' := .tup [.agg [.int .i64 0, .str t, .int .i64 0, .int .i64 0, .int .i64 0], .int .i64 0]) (by kernel_rfl) (by rw [nameT, if_neg (by simp [h]), if_neg (by omega)]; rfl)

end Tab

/- The signs, cut at blanks. -/
namespace Tab
open Go Go.Proofs
set_option maxRecDepth 10000
set_option linter.unusedVariables false
set_option linter.unusedSimpArgs false
set_option linter.unusedSectionVars false
set_option maxHeartbeats 1000000

def sgB : Str := [60, 45, 62, 32, 60, 61, 32, 62, 61, 32, 33, 61, 32, 45, 62, 32, 40, 32, 41, 32, 91, 32, 93, 32, 44, 32, 46, 32, 43, 32, 45, 32, 42, 32, 61, 32, 60, 32, 62, 32, 126]
def cc (i : Nat) : UInt8 := sgB.getD i 0
def wsA : Nat → Int
  | 0 => 1
  | i + 1 => IntKind.wrap .i64 (spcV (cc i).toNat)
def cnA : Nat → Int
  | 0 => 0
  | i + 1 => IntKind.wrap .i64 (cnA i + IntKind.wrap .i64 ((BitVec.ofInt 64 (wsA i) &&& BitVec.ofInt 64 (IntKind.wrap .i64 ((BitVec.ofInt 64 (-1) ^^^ BitVec.ofInt 64 (wsA (i + 1))).toNat))).toNat))
def sbA : Nat → Int
  | 0 => 0
  | i + 1 => IntKind.wrap .u8 ((BitVec.ofInt 8 (sbA i) ||| BitVec.ofInt 8 ((cc i).toNat : Int)).toNat)
/-- How many signs stand ahead; where the last one began. -/
def naA (i : Nat) : Nat := (sgB.take i).count 32
def fsA : Nat → Nat
  | 0 => 0
  | i + 1 => if cc i = 32 then i + 1 else fsA i
def clL (k : Nat) : List Str := signL.take k ++ List.replicate (18 - k) []
def clA (k : Nat) : List AV := (clL k).map .str

theorem sg_get {i : Nat} (h : i < 41) : sgB[i]? = some (cc i) := by
  have : i < sgB.length := h
  rw [List.getElem?_eq_getElem this, cc, List.getD_eq_getElem?_getD, List.getElem?_eq_getElem this]
  rfl
theorem cc_lt (i : Nat) : (cc i).toNat < 256 := (cc i).toNat_lt
theorem sg_no {i : Nat} (h : i < 41) (e : spcV (cc i).toNat = 0) : naA (i + 1) = naA i ∧ fsA (i + 1) = fsA i := by
  have k : (List.range 41).all (fun i => !decide (spcV (cc i).toNat = 0) || (decide (naA (i + 1) = naA i) && decide (fsA (i + 1) = fsA i))) = true := by kernel_rfl
  have := List.all_eq_true.1 k i (List.mem_range.2 h)
  simpa [e] using this
theorem sg_yes {i : Nat} (h : i < 41) (e : ¬ spcV (cc i).toNat = 0) : naA (i + 1) = naA i + 1 ∧ fsA (i + 1) = i + 1 ∧ fsA i ≤ i ∧ i + 1 < 41 ∧ spcV (cc (i + 1)).toNat = 0 ∧ naA i < 17 ∧ (sgB.drop (fsA i)).take (i - fsA i) = signL.getD (naA i) [] := by
  have k : (List.range 41).all (fun i => decide (spcV (cc i).toNat = 0) || decide (naA (i + 1) = naA i + 1 ∧ fsA (i + 1) = i + 1 ∧ fsA i ≤ i ∧ i + 1 < 41 ∧ spcV (cc (i + 1)).toNat = 0 ∧ naA i < 17 ∧ (sgB.drop (fsA i)).take (i - fsA i) = signL.getD (naA i) [])) = true := by kernel_rfl
  have := List.all_eq_true.1 k i (List.mem_range.2 h)
  simpa only [e, decide_false, Bool.false_or, decide_eq_true_eq] using this
theorem cl_next {k : Nat} (h : k < 18) : over (clA k) k [.str (signL.getD k [])] = clA (k + 1) := by
  have q : (List.range 18).all (fun k => decide ((clL k).set k (signL.getD k []) = clL (k + 1)) && decide (k < (clL k).length)) = true := by kernel_rfl
  have := List.all_eq_true.1 q k (List.mem_range.2 h)
  simp only [Bool.and_eq_true, decide_eq_true_eq] at this
  rw [over_one (by rw [clA, List.length_map]; exact this.2), clA, clA, ← this.1, List.map_set]

theorem cl_len {k : Nat} (h : k ≤ 18) : (clA k).length = 18 := by
  have q : (List.range 19).all (fun k => decide ((clL k).length = 18)) = true := by kernel_rfl
  have := List.all_eq_true.1 q k (List.mem_range.2 (by omega))
  rw [clA, List.length_map]
  simpa using this

theorem fields : Pure Tryd.prog 24 [.str sgB] (aSs .any signL) := by
  refine Pure.of_sw 106 Tryd.func24 rfl Tryd.ntmps24 (by kernel_rfl) (Nat.le_of_ble_eq_true (by kernel_rfl)) (by simp [closeds, AV.closed, aSs_closed, aIs_closed, aBs_closed, aRs_closed, aDen_closed]) (by simp [AV.closed, closeds, aSs_closed, aIs_closed, aBs_closed, aRs_closed, aDen_closed]) ?_; refine SW.of_vc ?_
  repeat first | refine opsStep ?_ | refine codeStep ?_ | refine drawStep ?_
  refine loopE_of (ι := {i : Nat // i ≤ 41}) (fun i => (fr [(0, .str sgB), (3, .int .i64 (cnA i.1)), (4, .int .i64 (wsA i.1)), (5, .int .u8 (sbA i.1)), (6, .int .i64 i.1)], [])) (fun i => 41 - i.1)
    ⟨0, by omega⟩ (Ent.fr' ⟨(by kernel_rfl), (by kernel_rfl), (by kernel_rfl), (by kernel_rfl), (by kernel_rfl), trivial⟩ (by kernel_rfl)) ?_
  rintro ⟨i, hi⟩
  have hcl := cc_lt i
  repeat first | refine opsStep ?_ | refine codeStep ?_ | refine drawStep ?_
  refine decB_dec (fun h => ?_) (fun h => ?_)
  · have hi' : i < 41 := by have : (i : Int) < (41 : Nat) := h; omega
    clear h
    repeat first | refine opsStep ?_ | refine codeStep ?_ | refine drawStep ?_
    refine optE_of (c := cc i) (sg_get hi') ?_
    repeat first | refine opsStep ?_ | refine codeStep ?_ | refine drawStep ?_
    refine guardE_of ⟨by omega, by show ((cc i).toNat : Int) < 256; omega⟩ ?_
    repeat first | refine opsStep ?_ | refine codeStep ?_ | refine drawStep ?_
    refine optE_of (c := .int .u8 (spcV (cc i).toNat)) (byt_at (cc_lt i)) ?_
    repeat first | refine opsStep ?_ | refine codeStep ?_ | refine drawStep ?_
    exact ⟨⟨i + 1, by omega⟩, (by show 41 - (i + 1) < 41 - i; omega), Ent.fr' ⟨(by kernel_rfl), (by kernel_rfl), (by kernel_rfl), (by kernel_rfl), inc_slot (i := i) (by omega), trivial⟩ (by kernel_rfl)⟩
  · have hi' : i = 41 := by have : ¬ (i : Int) < (41 : Nat) := h; omega
    clear h
    subst hi'
    refine VCode.ent (Ent.fr' (l := [(0, .str sgB), (3, .int .i64 18), (5, .int .u8 127)]) (H' := []) ⟨(by kernel_rfl), (by kernel_rfl), (by kernel_rfl), trivial⟩ (by kernel_rfl)) ?_
    repeat first | refine opsStep ?_ | refine codeStep ?_ | refine drawStep ?_
    refine loopE_of (ι := Unit) (fun _ => (fr [(0, .str sgB), (9, .hs 0 0 0 18 1), (10, .int .i64 0), (11, .int .i64 0), (12, .int .i64 0)], [.cells 0 (clA 0)])) (fun _ => 0)
      () (Ent.fr' ⟨(by kernel_rfl), (by kernel_rfl), (by kernel_rfl), (by kernel_rfl), (by kernel_rfl), trivial⟩ (by kernel_rfl)) ?_
    rintro ⟨⟩
    repeat first | refine opsStep ?_ | refine codeStep ?_ | refine drawStep ?_
    refine loopE_of (ι := {i : Nat // i ≤ 41}) (fun i => (fr [(0, .str sgB), (9, .hs 0 0 0 18 1), (10, .int .i64 (naA i.1)), (11, .int .i64 (fsA i.1)), (12, .int .i64 i.1)], [.cells 0 (clA (naA i.1))])) (fun i => 41 - i.1)
      ⟨0, by omega⟩ (Ent.fr' ⟨(by kernel_rfl), (by kernel_rfl), (by kernel_rfl), (by kernel_rfl), (by kernel_rfl), trivial⟩ (by kernel_rfl)) ?_
    rintro ⟨i, hi⟩
    have hcl := cc_lt i
    have hlen : sgB.length = 41 := rfl
    repeat first | refine opsStep ?_ | refine codeStep ?_ | refine drawStep ?_
    refine decB_dec (fun h => ?_) (fun h => ?_)
    · have hi' : i < 41 := by have : (i : Int) < (41 : Nat) := h; omega
      clear h
      repeat first | refine opsStep ?_ | refine codeStep ?_ | refine drawStep ?_
      refine optE_of (c := cc i) (sg_get hi') ?_
      repeat first | refine opsStep ?_ | refine codeStep ?_ | refine drawStep ?_
      refine guardE_of ⟨by omega, by show ((cc i).toNat : Int) < 256; omega⟩ ?_
      repeat first | refine opsStep ?_ | refine codeStep ?_ | refine drawStep ?_
      refine optE_of (c := .int .u8 (spcV (cc i).toNat)) (byt_at (cc_lt i)) ?_
      repeat first | refine opsStep ?_ | refine codeStep ?_ | refine drawStep ?_
      refine decB_dec (fun e => ?_) (fun e => ?_)
      · obtain ⟨e1, e2⟩ := sg_no hi' e
        repeat first | refine opsStep ?_ | refine codeStep ?_ | refine drawStep ?_
        exact ⟨⟨i + 1, by omega⟩, (by show 41 - (i + 1) < 41 - i; omega), Ent.fr' ⟨(by kernel_rfl), (by kernel_rfl), by show AV.int .i64 (naA i : Nat) = AV.int .i64 (naA (i + 1) : Nat); rw [e1], by show AV.int .i64 (fsA i : Nat) = AV.int .i64 (fsA (i + 1) : Nat); rw [e2], inc_slot (i := i) (by omega), trivial⟩ (by show [Blk.cells 0 (clA (naA i))] = [Blk.cells 0 (clA (naA (i + 1)))]; rw [e1])⟩
      · obtain ⟨e1, e2, e3, e4, e5, e6, e7⟩ := sg_yes hi' e
        repeat first | refine opsStep ?_ | refine codeStep ?_ | refine drawStep ?_
        refine guardE_of (by simp; omega) ?_
        repeat first | refine opsStep ?_ | refine codeStep ?_ | refine drawStep ?_
        refine guardE_of ⟨by omega, by show (naA i : Int) < (18 : Nat); omega⟩ ?_
        repeat first | refine opsStep ?_ | refine codeStep ?_ | refine drawStep ?_
        refine guardE_of ⟨rfl, by decide, by show 0 + naA i * 1 + 1 ≤ (clA (naA i)).length; rw [cl_len (by omega)]; omega⟩ ?_
        repeat first | refine opsStep ?_ | refine codeStep ?_ | refine drawStep ?_
        have hov : over (clA (naA i)) (0 + (naA i : Int).toNat * 1) [.str ((sgB.drop (fsA i)).take (i - fsA i))] = clA (naA i + 1) := by
          rw [e7, Int.toNat_natCast, Nat.zero_add, Nat.mul_one]; exact cl_next (by omega)
        refine loopE_of (ι := Unit) (fun _ => (fr [(0, .str sgB), (9, .hs 0 0 0 18 1), (10, .int .i64 ((naA i + 1 : Nat))), (12, .int .i64 ((i + 1 : Nat)))], [.cells 0 (clA (naA i + 1))])) (fun _ => 0)
          () (Ent.fr' ⟨(by kernel_rfl), (by kernel_rfl), inc_slot (i := naA i) (by omega), inc_slot (i := i) (by omega), trivial⟩ (Eq.trans (b := [Blk.cells 0 (over (clA (naA i)) (0 + (naA i : Int).toNat * 1) [.str ((sgB.drop (fsA i)).take (i - fsA i))])]) (by kernel_rfl) (by rw [hov]))) ?_
        rintro ⟨⟩
        have hcl' := cc_lt (i + 1)
        repeat first | refine opsStep ?_ | refine codeStep ?_ | refine drawStep ?_
        refine decB_true (b := decide (((i + 1 : Nat) : Int) < (41 : Nat))) (by simp; omega) ?_
        repeat first | refine opsStep ?_ | refine codeStep ?_ | refine drawStep ?_
        refine optE_of (c := cc (i + 1)) (sg_get e4) ?_
        repeat first | refine opsStep ?_ | refine codeStep ?_ | refine drawStep ?_
        refine guardE_of ⟨by omega, by show ((cc (i + 1)).toNat : Int) < 256; omega⟩ ?_
        repeat first | refine opsStep ?_ | refine codeStep ?_ | refine drawStep ?_
        refine optE_of (c := .int .u8 (spcV (cc (i + 1)).toNat)) (byt_at (cc_lt (i + 1))) ?_
        repeat first | refine opsStep ?_ | refine codeStep ?_ | refine drawStep ?_
        refine decB_false (b := decide (spcV (cc (i + 1)).toNat ≠ 0)) (by simp [e5]) ?_
        repeat first | refine opsStep ?_ | refine codeStep ?_ | refine drawStep ?_
        exact ⟨⟨i + 1, by omega⟩, (by show 41 - (i + 1) < 41 - i; omega), Ent.fr' ⟨(by kernel_rfl), (by kernel_rfl), by show AV.int .i64 (naA i + 1 : Nat) = AV.int .i64 (naA (i + 1) : Nat); rw [e1], by show AV.int .i64 (i + 1 : Nat) = AV.int .i64 (fsA (i + 1) : Nat); rw [e2], (by kernel_rfl), trivial⟩ (by show [Blk.cells 0 (clA (naA i + 1))] = [Blk.cells 0 (clA (naA (i + 1)))]; rw [e1])⟩
    · have hi' : i = 41 := by have : ¬ (i : Int) < (41 : Nat) := h; omega
      clear h
      subst hi'
      refine VCode.ent (Ent.fr' (l := [(0, .str sgB), (9, .hs 0 0 0 18 1), (10, .int .i64 17), (11, .int .i64 40), (12, .int .i64 41)]) (H' := [.cells 0 (clA 17)]) ⟨(by kernel_rfl), (by kernel_rfl), (by kernel_rfl), (by kernel_rfl), (by kernel_rfl), trivial⟩ (by kernel_rfl)) ?_
      repeat first | refine opsStep ?_ | refine codeStep ?_ | refine drawStep ?_
      exact finFrz 2 (g := 0) (b := 0) (es := 1) (by kernel_rfl) (by kernel_rfl) (by kernel_rfl) (by kernel_rfl)

end Tab

/- One word of a text. -/
namespace Tab
open Go Go.Proofs
set_option maxRecDepth 10000
set_option linter.unusedVariables false
set_option linter.unusedSimpArgs false
set_option linter.unusedSectionVars false
set_option maxHeartbeats 1000000

theorem run_dig : ∀ (n : Nat) (s : Str), s.length = n → ∀ i, i < runS digR s → 48 ≤ bt s i ∧ bt s i ≤ 57 := by
  intro n
  induction n using Nat.strongRecOn with
  | _ n ih =>
    intro s hn i hi
    by_cases hs : s.length = 0
    · rw [runS_nil hs] at hi; omega
    cases h : digR (dec s 0).1 with
    | false => rw [runS_no h] at hi; omega
    | true =>
      have hd : 48 ≤ (dec s 0).1 ∧ (dec s 0).1 ≤ 57 := by simp [digR] at h; omega
      have hb := dec_small (s := s) (p := 0) (by omega)
      have e0 := dec_ascii hb
      rw [e0] at hd
      cases i with
      | zero => exact hd
      | succ i =>
        rw [runS_yes hs h, e0] at hi
        have := ih (s.drop 1).length (by rw [List.length_drop]; omega) (s.drop 1) rfl i (by simp only at hi; omega)
        rw [bt_drop, Nat.add_comm 1 i] at this
        exact this
theorem bt_takeN {s : Str} {n i : Nat} (h : i < n) : bt (s.take n) i = bt s i := by
  simp [bt, List.getD_eq_getElem?_getD, List.getElem?_take, h]
theorem find_mid {s t : Str} {L A B : List Str} (hL : L = A ++ t :: B) (hn : (A.find? fun t => t.isPrefixOf s) = none) (h : t.isPrefixOf s = true) : (L.find? fun t => t.isPrefixOf s) = some t := by
  rw [hL, List.find?_append, hn, List.find?_cons, h]
  rfl
theorem signT_some {s t : Str} (h : (signL.find? fun t => t.isPrefixOf s) = some t) : signT s = ⟨2, t, 0, t.length, 0⟩ := by rw [signT, h]
theorem signT_none {s : Str} (h : (signL.find? fun t => t.isPrefixOf s) = none) : signT s = tokBad 51 := by rw [signT, h]


theorem sign_len : ∀ t ∈ signL, t.length ≤ 3 := by
  have : signL.all (fun t => decide (t.length ≤ 3)) = true := by kernel_rfl
  intro t ht
  simpa using List.all_eq_true.1 this t ht

theorem lex_word (s : Str) (hp : 0 < s.length) (hl : s.length < 2^62) : Pure Tryd.prog 15 [.str s] (.tup [.agg (tokC (tokS s)), .int .i64 (tokS s).n, .int .i64 (tokS s).err]) := by
  have hw := dec_width s 0
  refine Pure.of_sw 84 Tryd.func15 rfl Tryd.ntmps15 (by kernel_rfl) (Nat.le_of_ble_eq_true (by kernel_rfl)) (by simp [closeds, AV.closed, aSs_closed, aIs_closed, aBs_closed, aRs_closed, aDen_closed]) (by simp [AV.closed, closeds, aSs_closed, aIs_closed, aBs_closed, aRs_closed, aDen_closed]) ?_; refine SW.of_vc ?_
  repeat first | refine opsStep ?_ | refine codeStep ?_ | refine drawStep ?_
  refine callP (decodeS s hp hl) ?_
  repeat first | refine opsStep ?_ | refine codeStep ?_ | refine drawStep ?_
  refine decB_dec (fun c1 => ?_) (fun c1 => ?_)
  · have c1' : ((dec s 0).1 : Int) = 65533 := c1
    clear c1
    have c1 : (dec s 0).1 = 65533 := by omega
    clear c1'
    repeat first | refine opsStep ?_ | refine codeStep ?_ | refine drawStep ?_
    refine decB_dec (fun c2 => ?_) (fun c2 => ?_)
    · have c2' : ((dec s 0).2 : Int) ≤ 1 := c2
      repeat first | refine opsStep ?_ | refine codeStep ?_ | refine drawStep ?_
      exact finV (v' := .tup [.agg [.int .i64 0, .str [], .int .i64 0, .int .i64 0, .int .i64 0], .int .i64 0, .int .i64 50]) (by kernel_rfl) (by rw [tokS, if_pos ⟨c1, by omega⟩]; rfl)
    · have c2' : ¬ ((dec s 0).2 : Int) ≤ 1 := c2
      clear c2
      have f1 : startR (dec s 0).1 = false := by rw [c1]; unfold startR; decide
      have f2 : digR (dec s 0).1 = false := by rw [c1]; decide
      have f3 : plainS (dec s 0).1 = [] := by rw [c1]; decide
      have hS : tokS s = signT s := by rw [tokS, if_neg (by omega), if_neg (by rw [f1]; simp), if_neg (by rw [f2]; simp), if_neg (by rw [f3]; simp)]
      repeat first | refine opsStep ?_ | refine codeStep ?_ | refine drawStep ?_
      refine callP (glyph_Start _) ?_
      repeat first | refine opsStep ?_ | refine codeStep ?_ | refine drawStep ?_
      refine decB_false (b := startR (dec s 0).1) f1 ?_
      repeat first | refine opsStep ?_ | refine codeStep ?_ | refine drawStep ?_
      refine callP (lex_digit _) ?_
      repeat first | refine opsStep ?_ | refine codeStep ?_ | refine drawStep ?_
      refine decB_false (b := digR (dec s 0).1) f2 ?_
      repeat first | refine opsStep ?_ | refine codeStep ?_ | refine drawStep ?_
      refine callP (glyph_Plain _) ?_
      repeat first | refine opsStep ?_ | refine codeStep ?_ | refine drawStep ?_
      refine decB_false (b := decide (plainS (dec s 0).1 ≠ [])) (by simp [f3]) ?_
      repeat first | refine opsStep ?_ | refine codeStep ?_ | refine drawStep ?_
      refine callP fields ?_
      repeat first | refine opsStep ?_ | refine codeStep ?_ | refine drawStep ?_
      refine loopE_of (ι := {i : Nat // i ≤ 18 ∧ ((signL.take i).find? fun t => t.isPrefixOf s) = none}) (fun i => (fr [(0, .str s), (2, .ref 0 0 0), (69, aSs .any signL), (70, .int .i64 18), (71, .int .i64 i.1)], [.cells 0 (tokC (tokBad 0))])) (fun i => 18 - i.1)
        ⟨0, by omega, rfl⟩ (Ent.fr' ⟨(by kernel_rfl), (by kernel_rfl), (by kernel_rfl), (by kernel_rfl), (by kernel_rfl), trivial⟩ (by kernel_rfl)) ?_
      rintro ⟨i, hi, hn⟩
      repeat first | refine opsStep ?_ | refine codeStep ?_ | refine drawStep ?_
      refine decB_dec (fun h => ?_) (fun h => ?_)
      · have hi' : i < signL.length := by have : (i : Int) < 18 := h; have : signL.length = 18 := rfl; omega
        have hi18 : i < 18 := hi'
        clear h
        have hsp : signL = signL.take i ++ signL[i]'hi' :: signL.drop (i + 1) := by rw [← List.drop_eq_getElem_cons hi', List.take_append_drop]
        have hlen : (signL[i]'hi').length < 2^62 := Nat.lt_of_le_of_lt (sign_len _ (List.getElem_mem hi')) (by decide)
        repeat first | refine opsStep ?_ | refine codeStep ?_ | refine drawStep ?_
        refine guardE_of ⟨by omega, by show (i : Int) < (18 : Nat); omega⟩ ?_
        repeat first | refine opsStep ?_ | refine codeStep ?_ | refine drawStep ?_
        refine optE_of (c := .str (signL[i]'hi')) (by simp [Value.cells, hi']) ?_
        repeat first | refine opsStep ?_ | refine codeStep ?_ | refine drawStep ?_
        refine callP (hasPrefix s (signL[i]'hi') hl hlen) ?_
        repeat first | refine opsStep ?_ | refine codeStep ?_ | refine drawStep ?_
        refine decB_split (fun h => ?_) (fun h => ?_)
        · have hts : tokS s = ⟨2, signL[i]'hi', 0, (signL[i]'hi').length, 0⟩ := hS.trans (signT_some (find_mid hsp hn h))
          repeat first | refine opsStep ?_ | refine codeStep ?_ | refine drawStep ?_
          exact finV (v' := .tup [.agg [.int .i64 2, .str (signL[i]'hi'), .int .i64 0, .int .i64 0, .int .i64 0], .int .i64 (signL[i]'hi').length, .int .i64 0]) (by kernel_rfl) (by rw [hts]; rfl)
        · repeat first | refine opsStep ?_ | refine codeStep ?_ | refine drawStep ?_
          refine ⟨⟨i + 1, by omega, ?_⟩, (by show 18 - (i + 1) < 18 - i; omega), Ent.fr' ⟨(by kernel_rfl), (by kernel_rfl), (by kernel_rfl), (by kernel_rfl), inc_slot (i := i) (by omega), trivial⟩ (by kernel_rfl)⟩
          rw [List.take_succ_eq_append_getElem hi', List.find?_append, hn]
          simp [h]
      · have hi' : i = 18 := by have : ¬ (i : Int) < 18 := h; omega
        clear h
        subst hi'
        have hts : tokS s = tokBad 51 := hS.trans (signT_none (by rw [show signL.take 18 = signL from rfl] at hn; exact hn))
        repeat first | refine opsStep ?_ | refine codeStep ?_ | refine drawStep ?_
        exact finV (v' := .tup [.agg [.int .i64 0, .str [], .int .i64 0, .int .i64 0, .int .i64 0], .int .i64 0, .int .i64 51]) (by kernel_rfl) (by rw [hts]; rfl)
  · have c1' : ¬ ((dec s 0).1 : Int) = 65533 := c1
    clear c1
    have hbad : ¬ ((dec s 0).1 = 65533 ∧ (dec s 0).2 ≤ 1) := by omega
    repeat first | refine opsStep ?_ | refine codeStep ?_ | refine drawStep ?_
    refine callP (glyph_Start _) ?_
    repeat first | refine opsStep ?_ | refine codeStep ?_ | refine drawStep ?_
    refine decB_split (fun h => ?_) (fun h => ?_)
    · have f1 : startR (dec s 0).1 = true := h
      clear h
      have hrl := runS_le restR _ s rfl
      have hT : tokS s = nameT (s.take (runS restR s)) (runS restR s) := by rw [tokS, if_neg hbad, if_pos f1]
      rw [hT]
      have hn : (nameT (s.take (runS restR s)) (runS restR s)).n = runS restR s := by unfold nameT; (repeat' split) <;> rfl
      rw [hn]
      repeat first | refine opsStep ?_ | refine codeStep ?_ | refine drawStep ?_
      refine callP (lex_run s _ restR hl glyph_Rest) ?_
      repeat first | refine opsStep ?_ | refine codeStep ?_ | refine drawStep ?_
      refine guardE_of (by simp; omega) ?_
      repeat first | refine opsStep ?_ | refine codeStep ?_ | refine drawStep ?_
      refine callP (lex_name (s.take (runS restR s)) (runS restR s) (by rw [List.length_take]; omega)) ?_
      generalize nameT (s.take (runS restR s)) (runS restR s) = T
      repeat first | refine opsStep ?_ | refine codeStep ?_ | refine drawStep ?_
      exact finV (v' := .tup [.agg (tokC T), .int .i64 (runS restR s), .int .i64 T.err]) (by kernel_rfl) rfl
    · have f1 : startR (dec s 0).1 = false := h
      clear h
      repeat first | refine opsStep ?_ | refine codeStep ?_ | refine drawStep ?_
      refine callP (lex_digit _) ?_
      repeat first | refine opsStep ?_ | refine codeStep ?_ | refine drawStep ?_
      refine decB_split (fun h => ?_) (fun h => ?_)
      · have f2 : digR (dec s 0).1 = true := h
        clear h
        have hrl := runS_le digR _ s rfl
        have hT : tokS s = (match numS (s.take (runS digR s)) with | some v => ⟨1, [], v, runS digR s, 0⟩ | none => tokBad 52) := by rw [tokS, if_neg hbad, if_neg (by rw [f1]; simp), if_pos f2] <;> rfl
        have hlt : (s.take (runS digR s)).length < 2^62 := by rw [List.length_take]; omega
        have hdg : ∀ i, i < (s.take (runS digR s)).length → 48 ≤ bt (s.take (runS digR s)) i ∧ bt (s.take (runS digR s)) i ≤ 57 := by
          intro i hi
          have hi2 : i < runS digR s := by rw [List.length_take] at hi; omega
          rw [bt_takeN hi2]
          exact run_dig _ s rfl i hi2
        have hcall := lex_number (s.take (runS digR s)) hlt hdg
        cases hv : numS (s.take (runS digR s)) with
        | none =>
          rw [hv] at hcall hT
          repeat first | refine opsStep ?_ | refine codeStep ?_ | refine drawStep ?_
          refine callP (lex_run s _ digR hl lex_digit) ?_
          repeat first | refine opsStep ?_ | refine codeStep ?_ | refine drawStep ?_
          refine guardE_of (by simp; omega) ?_
          repeat first | refine opsStep ?_ | refine codeStep ?_ | refine drawStep ?_
          refine callP hcall ?_
          repeat first | refine opsStep ?_ | refine codeStep ?_ | refine drawStep ?_
          exact finV (v' := .tup [.agg [.int .i64 0, .str [], .int .i64 0, .int .i64 0, .int .i64 0], .int .i64 0, .int .i64 52]) (by kernel_rfl) (by rw [hT]; rfl)
        | some v =>
          rw [hv] at hcall hT
          repeat first | refine opsStep ?_ | refine codeStep ?_ | refine drawStep ?_
          refine callP (lex_run s _ digR hl lex_digit) ?_
          repeat first | refine opsStep ?_ | refine codeStep ?_ | refine drawStep ?_
          refine guardE_of (by simp; omega) ?_
          repeat first | refine opsStep ?_ | refine codeStep ?_ | refine drawStep ?_
          refine callP hcall ?_
          repeat first | refine opsStep ?_ | refine codeStep ?_ | refine drawStep ?_
          exact finV (v' := .tup [.agg [.int .i64 1, .str [], .int .i64 v, .int .i64 0, .int .i64 0], .int .i64 (runS digR s), .int .i64 0]) (by kernel_rfl) (by rw [hT] <;> rfl)
      · have f2 : digR (dec s 0).1 = false := h
        clear h
        repeat first | refine opsStep ?_ | refine codeStep ?_ | refine drawStep ?_
        refine callP (glyph_Plain _) ?_
        repeat first | refine opsStep ?_ | refine codeStep ?_ | refine drawStep ?_
        refine decB_dec (fun f3 => ?_) (fun f3 => ?_)
        · have f3' : plainS (dec s 0).1 ≠ [] := f3
          have hT : tokS s = ⟨2, plainS (dec s 0).1, 0, (dec s 0).2, 0⟩ := by rw [tokS, if_neg hbad, if_neg (by rw [f1]; simp), if_neg (by rw [f2]; simp), if_pos f3']
          repeat first | refine opsStep ?_ | refine codeStep ?_ | refine drawStep ?_
          refine callP (glyph_Plain _) ?_
          repeat first | refine opsStep ?_ | refine codeStep ?_ | refine drawStep ?_
          exact finV (v' := .tup [.agg [.int .i64 2, .str (plainS (dec s 0).1), .int .i64 0, .int .i64 0, .int .i64 0], .int .i64 (dec s 0).2, .int .i64 0]) (by kernel_rfl) (by rw [hT] <;> rfl)
        · have hS : tokS s = signT s := by rw [tokS, if_neg hbad, if_neg (by rw [f1]; simp), if_neg (by rw [f2]; simp), if_neg f3]
          repeat first | refine opsStep ?_ | refine codeStep ?_ | refine drawStep ?_
          refine callP fields ?_
          repeat first | refine opsStep ?_ | refine codeStep ?_ | refine drawStep ?_
          refine loopE_of (ι := {i : Nat // i ≤ 18 ∧ ((signL.take i).find? fun t => t.isPrefixOf s) = none}) (fun i => (fr [(0, .str s), (2, .ref 0 0 0), (69, aSs .any signL), (70, .int .i64 18), (71, .int .i64 i.1)], [.cells 0 (tokC (tokBad 0))])) (fun i => 18 - i.1)
            ⟨0, by omega, rfl⟩ (Ent.fr' ⟨(by kernel_rfl), (by kernel_rfl), (by kernel_rfl), (by kernel_rfl), (by kernel_rfl), trivial⟩ (by kernel_rfl)) ?_
          rintro ⟨i, hi, hn⟩
          repeat first | refine opsStep ?_ | refine codeStep ?_ | refine drawStep ?_
          refine decB_dec (fun h => ?_) (fun h => ?_)
          · have hi' : i < signL.length := by have : (i : Int) < 18 := h; have : signL.length = 18 := rfl; omega
            have hi18 : i < 18 := hi'
            clear h
            have hsp : signL = signL.take i ++ signL[i]'hi' :: signL.drop (i + 1) := by rw [← List.drop_eq_getElem_cons hi', List.take_append_drop]
            have hlen : (signL[i]'hi').length < 2^62 := Nat.lt_of_le_of_lt (sign_len _ (List.getElem_mem hi')) (by decide)
            repeat first | refine opsStep ?_ | refine codeStep ?_ | refine drawStep ?_
            refine guardE_of ⟨by omega, by show (i : Int) < (18 : Nat); omega⟩ ?_
            repeat first | refine opsStep ?_ | refine codeStep ?_ | refine drawStep ?_
            refine optE_of (c := .str (signL[i]'hi')) (by simp [Value.cells, hi']) ?_
            repeat first | refine opsStep ?_ | refine codeStep ?_ | refine drawStep ?_
            refine callP (hasPrefix s (signL[i]'hi') hl hlen) ?_
            repeat first | refine opsStep ?_ | refine codeStep ?_ | refine drawStep ?_
            refine decB_split (fun h => ?_) (fun h => ?_)
            · have hts : tokS s = ⟨2, signL[i]'hi', 0, (signL[i]'hi').length, 0⟩ := hS.trans (signT_some (find_mid hsp hn h))
              repeat first | refine opsStep ?_ | refine codeStep ?_ | refine drawStep ?_
              exact finV (v' := .tup [.agg [.int .i64 2, .str (signL[i]'hi'), .int .i64 0, .int .i64 0, .int .i64 0], .int .i64 (signL[i]'hi').length, .int .i64 0]) (by kernel_rfl) (by rw [hts]; rfl)
            · repeat first | refine opsStep ?_ | refine codeStep ?_ | refine drawStep ?_
              refine ⟨⟨i + 1, by omega, ?_⟩, (by show 18 - (i + 1) < 18 - i; omega), Ent.fr' ⟨(by kernel_rfl), (by kernel_rfl), (by kernel_rfl), (by kernel_rfl), inc_slot (i := i) (by omega), trivial⟩ (by kernel_rfl)⟩
              rw [List.take_succ_eq_append_getElem hi', List.find?_append, hn]
              simp [h]
          · have hi' : i = 18 := by have : ¬ (i : Int) < 18 := h; omega
            clear h
            subst hi'
            have hts : tokS s = tokBad 51 := hS.trans (signT_none (by rw [show signL.take 18 = signL from rfl] at hn; exact hn))
            repeat first | refine opsStep ?_ | refine codeStep ?_ | refine drawStep ?_
            exact finV (v' := .tup [.agg [.int .i64 0, .str [], .int .i64 0, .int .i64 0, .int .i64 0], .int .i64 0, .int .i64 51]) (by kernel_rfl) (by rw [hts]; rfl)

end Tab

/- The words of a text. -/
namespace Tab
open Go Go.Proofs
set_option maxRecDepth 10000
set_option linter.unusedVariables false
set_option linter.unusedSimpArgs false
set_option linter.unusedSectionVars false
set_option maxHeartbeats 1000000

def wdC (w : Wd) : List AV := [.int .i64 w.kind, .str w.text, .int .i64 w.num, .int .i64 w.at', .int .i64 w.ch]
def fltC (f : Flt) : List AV := [.int .i64 f.why, .int .i64 f.at', .int .i64 f.ch]
def wdsC (l : List Wd) : List AV := l.flatMap wdC
def aWs (k : SK) (l : List Wd) : AV := .sl k l.length (wdsC l)
theorem wdsC_len (l : List Wd) : (wdsC l).length = l.length * 5 := by
  induction l with
  | nil => rfl
  | cons w l ih => simp only [wdsC, List.flatMap_cons, List.length_append, List.length_cons, wdC, List.length_nil] at ih ⊢; omega
theorem wdC_closed (w : Wd) : closeds (wdC w) := by simp [wdC, closeds, AV.closed]
theorem wdsC_closed (l : List Wd) : closeds (wdsC l) := closeds_iff.2 fun a h => by
  obtain ⟨w, _, hw⟩ := List.mem_flatMap.1 h
  exact closeds_iff.1 (wdC_closed w) a hw
theorem aWs_closed (k : SK) (l : List Wd) : (aWs k l).closed := by show (AV.sl _ _ _).closed; simp only [AV.closed]; exact wdsC_closed l
theorem fltC_closed (f : Flt) : closeds (fltC f) := by simp [fltC, closeds, AV.closed]

theorem wdsC_bel (n : Nat) (l : List Wd) : bels n (wdsC l) := by
  induction l with
  | nil => simp [wdsC, bels]
  | cons w l ih =>
    rw [wdsC, List.flatMap_cons, bels_append]
    exact ⟨by simp [wdC, bels, AV.bel], ih⟩
def comb (W : List Wd) (r : List Wd × Flt) : List Wd × Flt := if r.2.why ≠ 0 then ([], r.2) else (W ++ r.1, r.2)
def wdT (t : Tok) (a c : Nat) : Wd := ⟨t.kind, t.text, t.num, a, c⟩
structure LxInv (s : Str) (f a ch ct : Nat) (W : List Wd) : Prop where
  eq : lexS s = comb W (lexL s f a ch ct)
  fuel : s.length < f + a
  le : ct ≤ a
  len : a ≤ s.length
  chs : ch ≤ ct
  wds : W.length ≤ a
theorem LxInv.start {s : Str} (hl : s.length ≤ 4096) : LxInv s (s.length + 1) (runS blankR s) 0 0 [] := by
  have := runS_le blankR _ s rfl
  refine ⟨?_, by omega, by omega, by omega, by omega, by simp⟩
  rw [lexS, if_neg (by omega)]
  generalize hr : lexL s (s.length + 1) (runS blankR s) 0 0 = r
  rw [comb]
  by_cases h : r.2.why ≠ 0
  · rw [if_pos h]
    have : ∀ f a ch ct, (lexL s f a ch ct).2.why ≠ 0 → (lexL s f a ch ct).1 = [] := by
      intro f
      induction f with
      | zero => intro a ch ct h; exact absurd rfl h
      | succ f ih =>
        intro a ch ct h
        rw [lexL] at h ⊢
        simp only at h ⊢
        split at h
        · exact absurd rfl h
        · rename_i h1
          rw [if_neg h1]
          split at h
          · rename_i h2; rw [if_pos h2]
          · rename_i h2
            rw [if_neg h2]
            split at h
            · rename_i h3; rw [if_pos h3]
            · rename_i h3; exact absurd h h3
    rw [← hr] at h ⊢
    exact Prod.ext (this _ _ _ _ h) rfl
  · rw [if_neg h]; rfl
theorem LxInv.stop {s : Str} {f a ch ct W} (h : LxInv s f a ch ct W) (ha : ¬ a < s.length) : lexS s = (W, flt0) := by
  have := h.fuel
  have := h.len
  obtain ⟨g, rfl⟩ : ∃ g, f = g + 1 := ⟨f - 1, by omega⟩
  rw [h.eq, lexL, if_pos (by omega), comb, if_neg (by simp [flt0])]
  simp
def chA (s : Str) (a ch ct : Nat) : Nat := ch + chS ((s.drop ct).take (a - ct))
theorem LxInv.ch_le {s : Str} {f a ch ct W} (h : LxInv s f a ch ct W) : chA s a ch ct ≤ a := by
  have h1 := h.chs
  have h2 := h.le
  have := chS_le _ ((s.drop ct).take (a - ct)) rfl
  rw [List.length_take] at this
  rw [chA]
  omega
theorem LxInv.bad {s : Str} {f a ch ct W} (h : LxInv s f a ch ct W) (ha : a < s.length) (he : (tokS (s.drop a)).err ≠ 0) : lexS s = ([], ⟨(tokS (s.drop a)).err, a, chA s a ch ct⟩) := by
  have := h.fuel
  obtain ⟨g, rfl⟩ : ∃ g, f = g + 1 := ⟨f - 1, by omega⟩
  rw [h.eq, lexL, if_neg (by omega)]
  simp only [take_drop']
  rw [if_pos he, comb, if_pos he]
  rfl
theorem lexL_go {s : Str} {g a ch ct : Nat} (ha : ¬ s.length ≤ a) (he : (tokS (s.drop a)).err = 0) : lexL s (g + 1) a ch ct =
    if (lexL s g (a + (tokS (s.drop a)).n + runS blankR (s.drop (a + (tokS (s.drop a)).n))) (chA s a ch ct) a).2.why ≠ 0 then ([], (lexL s g (a + (tokS (s.drop a)).n + runS blankR (s.drop (a + (tokS (s.drop a)).n))) (chA s a ch ct) a).2)
    else (wdT (tokS (s.drop a)) a (chA s a ch ct) :: (lexL s g (a + (tokS (s.drop a)).n + runS blankR (s.drop (a + (tokS (s.drop a)).n))) (chA s a ch ct) a).1, (lexL s g (a + (tokS (s.drop a)).n + runS blankR (s.drop (a + (tokS (s.drop a)).n))) (chA s a ch ct) a).2) := by
  rw [lexL, if_neg ha]
  simp only [take_drop']
  rw [if_neg (by rw [he]; simp)]
  rfl
theorem LxInv.next {s : Str} {f a ch ct W} (h : LxInv s f a ch ct W) (ha : a < s.length) (he : (tokS (s.drop a)).err = 0) :
    1 ≤ (tokS (s.drop a)).n ∧ a + (tokS (s.drop a)).n ≤ s.length ∧ LxInv s (f - 1) (a + (tokS (s.drop a)).n + runS blankR (s.drop (a + (tokS (s.drop a)).n))) (chA s a ch ct) a (W ++ [wdT (tokS (s.drop a)) a (chA s a ch ct)]) := by
  have hf := h.fuel
  have hc := h.ch_le
  have hw := h.wds
  have hle := h.le
  obtain ⟨k1, k2, _⟩ := tok_cut (x := s.drop a) (by rw [List.length_drop]; omega) he
  have k3 := k1.le
  rw [List.length_drop] at k3
  have hr := runS_le blankR _ (s.drop (a + (tokS (s.drop a)).n)) rfl
  rw [List.length_drop] at hr
  refine ⟨k2, by omega, ?_, by omega, by omega, by omega, by omega, by simp; omega⟩
  obtain ⟨g, rfl⟩ : ∃ g, f = g + 1 := ⟨f - 1, by omega⟩
  rw [h.eq, lexL_go (by omega) he, Nat.add_sub_cancel]
  generalize lexL s g (a + (tokS (s.drop a)).n + runS blankR (s.drop (a + (tokS (s.drop a)).n))) (chA s a ch ct) a = r
  by_cases hr : r.2.why ≠ 0
  · rw [if_pos hr, comb, comb, if_pos hr, if_pos hr]
  · rw [if_neg hr, comb, comb, if_neg hr, if_neg hr, List.append_assoc]
    rfl

theorem lex_Words (s : Str) (hl : s.length < 2^62) : Pure Tryd.prog 8 [.str s] (.tup [aWs .any (lexS s).1, .agg (fltC (lexS s).2)]) := by
  refine Pure.of_sw 63 Tryd.func8 rfl Tryd.ntmps8 (by kernel_rfl) (Nat.le_of_ble_eq_true (by kernel_rfl)) (by simp [closeds, AV.closed]) (by simp only [AV.closed, closeds]; exact ⟨aWs_closed _ _, fltC_closed _, trivial⟩) ?_
  refine SW.of_vc ?_
  repeat first | refine opsStep ?_ | refine codeStep ?_ | refine drawStep ?_
  refine decB_dec (fun h0 => ?_) (fun h0 => ?_)
  · have h0' : (s.length : Int) > 4096 := h0
    clear h0
    repeat first | refine opsStep ?_ | refine codeStep ?_ | refine drawStep ?_
    refine ⟨_, _, (Ent.fr' (l := [(2, .sl .nil 0 []), (3, .ref 0 0 0)]) (H' := [.cells 0 (fltC ⟨70, 0, 0⟩)]) ⟨(by kernel_rfl), (by kernel_rfl), trivial⟩ (by kernel_rfl)).trans (Ent.slotTo (y := .sl .any 0 []) 2 rfl (fun _ _ _ _ h => sl_any h)), ?_⟩
    rw [lexS, if_pos (by omega)]
    kernel_rfl
  have h0' : ¬ (s.length : Int) > 4096 := h0
  clear h0
  have hlen : s.length ≤ 4096 := by omega
  repeat first | refine opsStep ?_ | refine codeStep ?_ | refine drawStep ?_
  refine callP (lex_run s _ blankR hl glyph_Blank) ?_
  repeat first | refine opsStep ?_ | refine codeStep ?_ | refine drawStep ?_
  refine loopE_of (ι := {x : Nat × Nat × Nat × Nat × List Wd // LxInv s x.1 x.2.1 x.2.2.1 x.2.2.2.1 x.2.2.2.2}) (fun x => (fr [(0, .str s), (3, .ref 0 0 0), (4, .hs 1 x.1.2.2.2.2.length 0 x.1.2.2.2.2.length 5), (5, .int .i64 x.1.2.2.1), (6, .int .i64 x.1.2.2.2.1), (7, .int .i64 x.1.2.1)], [.cells 0 (fltC flt0), .cells x.1.2.2.2.2.length (wdsC x.1.2.2.2.2)])) (fun x => s.length - x.1.2.1)
    ⟨(s.length + 1, runS blankR s, 0, 0, []), LxInv.start hlen⟩ (((Ent.fr' (l := [(0, .str s), (3, .ref 0 0 0), (4, .sl .nil 0 []), (5, .int .i64 0), (6, .int .i64 0), (7, .int .i64 (runS blankR s))]) (H' := [.cells 0 (fltC flt0)]) ⟨(by kernel_rfl), (by kernel_rfl), (by kernel_rfl), (by kernel_rfl), (by kernel_rfl), (by kernel_rfl), trivial⟩ (by kernel_rfl)).trans (Ent.nil 4 5 rfl)).trans (Ent.fr' ⟨(by kernel_rfl), (by kernel_rfl), (by kernel_rfl), (by kernel_rfl), (by kernel_rfl), (by kernel_rfl), trivial⟩ (by kernel_rfl))) ?_
  rintro ⟨⟨f, a, ch, ct, W⟩, hi⟩
  simp only at hi
  have h1 := hi.le
  have h2 := hi.len
  have h3 := hi.chs
  have h4 := hi.wds
  have h5 := hi.ch_le
  repeat first | refine opsStep ?_ | refine codeStep ?_ | refine drawStep ?_
  refine decB_dec (fun h => ?_) (fun h => ?_)
  · have ha : a < s.length := by have : (a : Int) < s.length := h; omega
    clear h
    have hcr : IntKind.wrap .i64 ((ch : Int) + (chS ((s.drop ct).take (a - ct)) : Nat)) = ((chA s a ch ct : Nat) : Int) := by
      rw [IntWalk.i64_in _ (by rw [chA] at h5; omega)]; rfl
    have hd0 : 0 < (s.drop a).length := by rw [List.length_drop]; omega
    have hd1 : (s.drop a).length < 2^62 := by rw [List.length_drop]; omega
    repeat first | refine opsStep ?_ | refine codeStep ?_ | refine drawStep ?_
    refine guardE_of (by simp; omega) ?_
    repeat first | refine opsStep ?_ | refine codeStep ?_ | refine drawStep ?_
    refine callP (runeCount ((s.drop ct).take (a - ct)) (by rw [List.length_take]; omega)) ?_
    repeat first | refine opsStep ?_ | refine codeStep ?_ | refine drawStep ?_
    refine guardE_of (by simp; omega) ?_
    have htk : (s.drop a).take (s.length - a) = s.drop a := List.take_of_length_le (by rw [List.length_drop]; omega)
    have hcall : Pure Tryd.prog 15 [.str ((s.drop a).take (s.length - a))] (.tup [.agg (tokC (tokS (s.drop a))), .int .i64 (tokS (s.drop a)).n, .int .i64 (tokS (s.drop a)).err]) := by
      rw [htk]; exact lex_word _ hd0 hd1
    repeat first | refine opsStep ?_ | refine codeStep ?_ | refine drawStep ?_
    refine callP hcall ?_
    repeat first | refine opsStep ?_ | refine codeStep ?_ | refine drawStep ?_
    refine decB_dec (fun he => ?_) (fun he => ?_)
    · have he' : (tokS (s.drop a)).err ≠ 0 := he
      clear he
      refine VCode.ent (Ent.fr' (l := [(3, .ref 0 0 0), (8, .ref 2 0 0), (11, .int .i64 (tokS (s.drop a)).err)]) (H' := [.cells 0 (fltC flt0), .cells W.length (wdsC W), .cells 0 [.int .i64 a, .int .i64 (chA s a ch ct : Nat)], .cells 0 (tokC (tokS (s.drop a)))]) ⟨(by kernel_rfl), (by kernel_rfl), (by kernel_rfl), trivial⟩ (Eq.trans (b := [.cells 0 (fltC flt0), .cells W.length (wdsC W), .cells 0 [.int .i64 a, .int .i64 (IntKind.wrap .i64 ((ch : Int) + (chS ((s.drop ct).take (a - ct)) : Nat)))], .cells 0 (tokC (tokS (s.drop a)))]) (by kernel_rfl) (by rw [hcr]))) ?_
      repeat first | refine opsStep ?_ | refine codeStep ?_ | refine drawStep ?_
      refine SW.drawn rfl (by kernel_rfl) ?_
      repeat first | refine opsStep ?_ | refine codeStep ?_ | refine drawStep ?_
      refine ⟨by kernel_rfl, ?_⟩
      repeat first | refine opsStep ?_ | refine codeStep ?_ | refine drawStep ?_
      have hE := hi.bad ha he'
      refine ⟨_, _, (Ent.fr' (l := [(2, .sl .nil 0 []), (3, .ref 0 0 0)]) (H' := [.cells 0 (fltC ⟨(tokS (s.drop a)).err, a, chA s a ch ct⟩), .cells W.length (wdsC W), .cells 0 [.int .i64 a, .int .i64 (chA s a ch ct : Nat)], .cells 0 (tokC (tokS (s.drop a)))]) ⟨(by kernel_rfl), (by kernel_rfl), trivial⟩ (by kernel_rfl)).trans (Ent.slotTo (y := .sl .any 0 []) 2 rfl (fun _ _ _ _ h => sl_any h)), ?_⟩
      rw [hE]
      kernel_rfl
    · have he' : (tokS (s.drop a)).err = 0 := Decidable.of_not_not he
      clear he
      have hN := hi.next ha he'
      have n1 := hN.1
      have n2 := hN.2.1
      have hnx := hN.2.2
      clear hN
      have htd : ((wdsC W).drop 0).take (W.length * 5) = wdsC W := by rw [List.drop_zero, List.take_of_length_le (by rw [wdsC_len]; omega)]
      have hsn : ∀ x : Wd, wdsC (W ++ [x]) = wdsC W ++ wdC x := fun x => by simp [wdsC]
      have han : IntKind.wrap .i64 ((a : Int) + ((tokS (s.drop a)).n : Nat)) = ((a + (tokS (s.drop a)).n : Nat) : Int) := by rw [IntWalk.i64_in _ (by omega)]; simp
      have hrl := runS_le blankR _ (s.drop (a + (tokS (s.drop a)).n)) rfl
      rw [List.length_drop] at hrl
      have har : IntKind.wrap .i64 (((a + (tokS (s.drop a)).n : Nat) : Int) + (runS blankR (s.drop (a + (tokS (s.drop a)).n)) : Nat)) = ((a + (tokS (s.drop a)).n + runS blankR (s.drop (a + (tokS (s.drop a)).n)) : Nat) : Int) := by rw [IntWalk.i64_in _ (by omega)]; simp
      refine VCode.ent (Ent.fr' (l := [(0, .str s), (3, .ref 0 0 0), (4, .hs 1 W.length 0 W.length 5), (5, .int .i64 (chA s a ch ct : Nat)), (6, .int .i64 a), (7, .int .i64 a), (8, .ref 2 0 0), (9, .ref 3 0 0), (10, .int .i64 (tokS (s.drop a)).n)]) (H' := [.cells 0 (fltC flt0), .cells W.length (wdsC W), .cells 0 [.int .i64 a, .int .i64 (chA s a ch ct : Nat)], .cells 0 (tokC (tokS (s.drop a)))]) ⟨(by kernel_rfl), (by kernel_rfl), (by kernel_rfl), congrArg (AV.int .i64) hcr, (by kernel_rfl), (by kernel_rfl), (by kernel_rfl), (by kernel_rfl), (by kernel_rfl), trivial⟩ (Eq.trans (b := [.cells 0 (fltC flt0), .cells W.length (wdsC W), .cells 0 [.int .i64 a, .int .i64 (IntKind.wrap .i64 ((ch : Int) + (chS ((s.drop ct).take (a - ct)) : Nat)))], .cells 0 (tokC (tokS (s.drop a)))]) (by kernel_rfl) (by rw [hcr]))) ?_
      repeat first | refine opsStep ?_ | refine codeStep ?_ | refine drawStep ?_
      refine guardE_of ⟨rfl, by rw [wdsC_len]; omega⟩ ?_
      refine guardE_of rfl ?_
      refine guardE_of ⟨by show W.length + 1 ≤ 9223372036854775807; omega, by show (W.length + 1) * 48 ≤ 140737488355328; omega⟩ ?_
      iterate 2 refine opsStep ?_
      refine VCode.ent (Ent.frD (l := [(0, .str s), (3, .ref 0 0 0), (4, .hs 1 (W.length + 1) 0 (W.length + 1) 5), (5, .int .i64 (chA s a ch ct : Nat)), (6, .int .i64 a), (7, .int .i64 a), (10, .int .i64 (tokS (s.drop a)).n)])
        (H' := [.cells 0 (fltC flt0), .cells (W.length + 1) (wdsC (W ++ [wdT (tokS (s.drop a)) a (chA s a ch ct)]))])
        (X := [.cells 0 [.int .i64 a, .int .i64 (chA s a ch ct : Nat)], .cells 0 (wdC (wdT (tokS (s.drop a)) a (chA s a ch ct))), .cells 0 (wdC (wdT (tokS (s.drop a)) a (chA s a ch ct)))])
        ⟨(by kernel_rfl), (by kernel_rfl), (by kernel_rfl), (by kernel_rfl), (by kernel_rfl), (by kernel_rfl), (by kernel_rfl), trivial⟩ (Eq.trans (b := [.cells 0 (fltC flt0), .cells (W.length + 1) (((wdsC W).drop 0).take (W.length * 5) ++ wdC (wdT (tokS (s.drop a)) a (chA s a ch ct))), .cells 0 [.int .i64 a, .int .i64 (chA s a ch ct : Nat)], .cells 0 (wdC (wdT (tokS (s.drop a)) a (chA s a ch ct))), .cells 0 (wdC (wdT (tokS (s.drop a)) a (chA s a ch ct)))]) (by kernel_rfl) (by rw [htd, hsn]; rfl)) (Nat.zero_le _)
        (by simp [frBel, AV.bel]) (by simp only [blksBel, Blk.bel, List.length_cons, List.length_nil]; exact ⟨by simp [fltC, bels, AV.bel], wdsC_bel _ _, trivial⟩)) ?_
      repeat first | refine opsStep ?_ | refine codeStep ?_ | refine drawStep ?_
      refine guardE_of (by show (0 : Int) ≤ IntKind.wrap .i64 ((a : Int) + ((tokS (s.drop a)).n : Nat)) ∧ IntKind.wrap .i64 ((a : Int) + ((tokS (s.drop a)).n : Nat)) ≤ (s.length : Int) ∧ (s.length : Int) ≤ s.length; rw [han]; omega) ?_
      have hcall2 : Pure Tryd.prog 13 [.str ((s.drop (IntKind.wrap .i64 ((a : Int) + ((tokS (s.drop a)).n : Nat))).toNat).take (s.length - (IntKind.wrap .i64 ((a : Int) + ((tokS (s.drop a)).n : Nat))).toNat)), .fn (.func 11) [] []] (.int .i64 (runS blankR (s.drop (a + (tokS (s.drop a)).n)))) := by
        rw [han, Int.toNat_natCast, List.take_of_length_le (by rw [List.length_drop]; omega)]
        exact lex_run _ _ blankR (by rw [List.length_drop]; omega) glyph_Blank
      repeat first | refine opsStep ?_ | refine codeStep ?_ | refine drawStep ?_
      refine callP hcall2 ?_
      repeat first | refine opsStep ?_ | refine codeStep ?_ | refine drawStep ?_
      refine ⟨⟨(f - 1, a + (tokS (s.drop a)).n + runS blankR (s.drop (a + (tokS (s.drop a)).n)), chA s a ch ct, a, W ++ [wdT (tokS (s.drop a)) a (chA s a ch ct)]), hnx⟩, (by show s.length - (a + (tokS (s.drop a)).n + runS blankR (s.drop (a + (tokS (s.drop a)).n))) < s.length - a; omega), Ent.fr' ⟨(by kernel_rfl), (by kernel_rfl), ?_, (by kernel_rfl), (by kernel_rfl), ?_, trivial⟩ ?_⟩
      · show AV.hs 1 (W.length + 1) 0 (W.length + 1) 5 = AV.hs 1 (W ++ [wdT (tokS (s.drop a)) a (chA s a ch ct)]).length 0 (W ++ [wdT (tokS (s.drop a)) a (chA s a ch ct)]).length 5
        rw [List.length_append]; rfl
      · show AV.int .i64 (IntKind.wrap .i64 (IntKind.wrap .i64 ((a : Int) + ((tokS (s.drop a)).n : Nat)) + (runS blankR (s.drop (a + (tokS (s.drop a)).n)) : Nat))) = _
        rw [han, har]
      · show [Blk.cells 0 (fltC flt0), .cells (W.length + 1) (wdsC (W ++ [wdT (tokS (s.drop a)) a (chA s a ch ct)]))] = [Blk.cells 0 (fltC flt0), .cells (W ++ [wdT (tokS (s.drop a)) a (chA s a ch ct)]).length (wdsC (W ++ [wdT (tokS (s.drop a)) a (chA s a ch ct)]))]
        rw [List.length_append]; rfl
  · have ha : ¬ a < s.length := by have : ¬ (a : Int) < s.length := h; omega
    clear h
    have hE := hi.stop ha
    repeat first | refine opsStep ?_ | refine codeStep ?_ | refine drawStep ?_
    refine ⟨_, _, (Ent.fr' (l := [(2, .hs 1 W.length 0 W.length 5), (3, .ref 0 0 0)]) (H' := [.cells 0 (fltC flt0), .cells W.length (wdsC W)]) ⟨(by kernel_rfl), (by kernel_rfl), trivial⟩ (by kernel_rfl)).trans (Ent.freeze (n := W.length) (cs := wdsC W) (es := 5) (g := W.length) (b := 1) 2 rfl rfl (wdsC_len W).symm), ?_⟩
    rw [hE]
    kernel_rfl

end Tab

/- Words, places and faults are held against each other. -/
namespace Tab
open Go Go.Proofs
set_option maxRecDepth 10000
set_option linter.unusedVariables false
set_option linter.unusedSimpArgs false
set_option linter.unusedSectionVars false

def okJ (x : Int) : Prop := -9223372036854775808 ≤ x ∧ x ≤ 9223372036854775807
instance (x : Int) : Decidable (okJ x) := inferInstanceAs (Decidable (_ ∧ _))
theorem wfJ {x : Int} (h : okJ x) : (Lit.int .i64 x).wf = true := by
  obtain ⟨h1, h2⟩ := h
  simp only [Lit.wf, Bool.and_eq_true, decide_eq_true_eq, show IntKind.i64.min = -9223372036854775808 from rfl, show IntKind.i64.max = 9223372036854775807 from rfl]
  omega
theorem litI {t : TypeId} (hu : Tryd.prog.underlying t = some (.int .i64)) (n : Nat) {x : Int} (h : okJ x) : Tryd.prog.keyLits (n + 1) t [.int .i64 x] = some [.int .i64 x] := by
  unfold Program.keyLits
  rw [hu]
  exact if_pos ⟨rfl, wfJ h⟩
theorem litS {t : TypeId} (hu : Tryd.prog.underlying t = some .string) (n : Nat) {s : Str} (h : s.length ≤ maxLen) : Tryd.prog.keyLits (n + 1) t [.string ⟨s.toArray⟩] = some [.string s] := by
  unfold Program.keyLits
  rw [hu]
  exact if_pos (by simpa [ByteArray.size] using h)
theorem placeT : Tryd.prog.underlying 27 = some (.struct #[{ name := "Byte", type := 3, offset := 0, embedded := false, tag := "", pkgPath := "", byteOffset := 0 }, { name := "Char", type := 3, offset := 1, embedded := false, tag := "", pkgPath := "", byteOffset := 8 }]) := (by kernel_rfl)
theorem litP (n : Nat) {a b : Int} (ha : okJ a) (hb : okJ b) : Tryd.prog.keyLits (n + 2) 27 [.int .i64 a, .int .i64 b] = some [.int .i64 a, .int .i64 b] := by
  have hc1 : Tryd.prog.cellsOf 3 = 1 := (by kernel_rfl)
  have hcP : Tryd.prog.cellsOf 27 = 2 := (by kernel_rfl)
  unfold Program.keyLits
  rw [placeT]
  simp only
  rw [if_pos ⟨by rw [hcP]; rfl, (by kernel_rfl)⟩]
  simp [hc1, litI (t := 3) (by kernel_rfl) n ha, litI (t := 3) (by kernel_rfl) n hb]
theorem eqlP {a b c d : Int} (h1 : okJ a) (h2 : okJ b) (h3 : okJ c) (h4 : okJ d) : EqlE Tryd.prog 27 [.int .i64 a, .int .i64 b] [.int .i64 c, .int .i64 d] (decide (a = c ∧ b = d)) := by
  have hc : Tryd.prog.cellsOf 27 = 2 := (by kernel_rfl)
  have hf : ∀ x y : Int, Value.formed Tryd.prog 27 (.agg #[.int .i64 x, .int .i64 y]) = true := fun x y => by simp only [Value.formed, placeT, hc]; rfl
  refine .mk (xs := [.int .i64 a, .int .i64 b]) (ys := [.int .i64 c, .int .i64 d]) (la := [.int .i64 a, .int .i64 b]) (lb := [.int .i64 c, .int .i64 d]) (D := 0 + 2) (D' := 0 + 2) (m := 2) ?_ rfl rfl (litP 0 h1 h2) (litP 0 h3 h4) (by kernel_rfl) (by decide) (hf a b) (hf c d) (by kernel_rfl)
  rw [decide_eq_true_eq]
  simp
theorem faultT : Tryd.prog.underlying 29 = some (.struct #[{ name := "Why", type := 25, offset := 0, embedded := false, tag := "", pkgPath := "", byteOffset := 0 }, { name := "At", type := 27, offset := 1, embedded := false, tag := "", pkgPath := "", byteOffset := 8 }]) := (by kernel_rfl)
theorem litF (n : Nat) {w a b : Int} (hw : okJ w) (ha : okJ a) (hb : okJ b) : Tryd.prog.keyLits (n + 3) 29 [.int .i64 w, .int .i64 a, .int .i64 b] = some [.int .i64 w, .int .i64 a, .int .i64 b] := by
  have hc1 : Tryd.prog.cellsOf 25 = 1 := (by kernel_rfl)
  have hc2 : Tryd.prog.cellsOf 27 = 2 := (by kernel_rfl)
  have hcP : Tryd.prog.cellsOf 29 = 3 := (by kernel_rfl)
  unfold Program.keyLits
  rw [faultT]
  simp only
  rw [if_pos ⟨by rw [hcP]; rfl, (by kernel_rfl)⟩]
  simp [hc1, hc2, litI (t := 25) (by kernel_rfl) (n + 1) hw, litP n ha hb]
theorem eqlF {w a b w' c d : Int} (h0 : okJ w) (h1 : okJ a) (h2 : okJ b) (h0' : okJ w') (h3 : okJ c) (h4 : okJ d) : EqlE Tryd.prog 29 [.int .i64 w, .int .i64 a, .int .i64 b] [.int .i64 w', .int .i64 c, .int .i64 d] (decide (w = w' ∧ a = c ∧ b = d)) := by
  have hc : Tryd.prog.cellsOf 29 = 3 := (by kernel_rfl)
  have hf : ∀ z x y : Int, Value.formed Tryd.prog 29 (.agg #[.int .i64 z, .int .i64 x, .int .i64 y]) = true := fun z x y => by simp only [Value.formed, faultT, hc]; rfl
  refine .mk (xs := [.int .i64 w, .int .i64 a, .int .i64 b]) (ys := [.int .i64 w', .int .i64 c, .int .i64 d]) (la := [.int .i64 w, .int .i64 a, .int .i64 b]) (lb := [.int .i64 w', .int .i64 c, .int .i64 d]) (D := 0 + 3) (D' := 0 + 3) (m := 3) ?_ rfl rfl (litF 0 h0 h1 h2) (litF 0 h0' h3 h4) (by kernel_rfl) (by decide) (hf w a b) (hf w' c d) (by kernel_rfl)
  rw [decide_eq_true_eq]
  simp
theorem wordT : Tryd.prog.underlying 35 = some (.struct #[{ name := "Kind", type := 33, offset := 0, embedded := false, tag := "", pkgPath := "", byteOffset := 0 }, { name := "Text", type := 9, offset := 1, embedded := false, tag := "", pkgPath := "", byteOffset := 8 }, { name := "Number", type := 2, offset := 2, embedded := false, tag := "", pkgPath := "", byteOffset := 24 }, { name := "At", type := 27, offset := 3, embedded := false, tag := "", pkgPath := "", byteOffset := 32 }]) := (by kernel_rfl)
structure okW (w : Wd) : Prop where
  kind : okJ w.kind
  text : w.text.length ≤ maxLen
  num : okJ w.num
  at' : okJ w.at'
  ch : okJ w.ch
theorem litW (n : Nat) {w : Wd} (h : okW w) : Tryd.prog.keyLits (n + 3) 35 [.int .i64 w.kind, .string ⟨w.text.toArray⟩, .int .i64 w.num, .int .i64 w.at', .int .i64 w.ch] = some [.int .i64 w.kind, .string w.text, .int .i64 w.num, .int .i64 w.at', .int .i64 w.ch] := by
  have hc1 : Tryd.prog.cellsOf 33 = 1 := (by kernel_rfl)
  have hc2 : Tryd.prog.cellsOf 9 = 1 := (by kernel_rfl)
  have hc3 : Tryd.prog.cellsOf 2 = 1 := (by kernel_rfl)
  have hc4 : Tryd.prog.cellsOf 27 = 2 := (by kernel_rfl)
  have hcP : Tryd.prog.cellsOf 35 = 5 := (by kernel_rfl)
  unfold Program.keyLits
  rw [wordT]
  simp only
  rw [if_pos ⟨by rw [hcP]; rfl, (by kernel_rfl)⟩]
  simp [hc1, hc2, hc3, hc4, litI (t := 33) (by kernel_rfl) (n + 1) h.kind, litS (t := 9) (by kernel_rfl) (n + 1) h.text, litI (t := 2) (by kernel_rfl) (n + 1) h.num, litP n h.at' h.ch]
def wdEq (w v : Wd) : Bool := decide (w.kind = v.kind ∧ w.text = v.text ∧ w.num = v.num ∧ w.at' = v.at' ∧ w.ch = v.ch)
theorem wdEq_iff {w v : Wd} : wdEq w v = true ↔ w = v := by
  obtain ⟨a, b, c, d, e⟩ := w
  obtain ⟨a', b', c', d', e'⟩ := v
  simp [wdEq]
theorem eqlW {w v : Wd} (h : okW w) (h' : okW v) : EqlE Tryd.prog 35 (wdC w) (wdC v) (wdEq w v) := by
  have hc : Tryd.prog.cellsOf 35 = 5 := (by kernel_rfl)
  have hf : ∀ w : Wd, Value.formed Tryd.prog 35 (.agg #[.int .i64 w.kind, .string ⟨w.text.toArray⟩, .int .i64 w.num, .int .i64 w.at', .int .i64 w.ch]) = true := fun w => by simp only [Value.formed, wordT, hc]; rfl
  refine .mk (xs := [.int .i64 w.kind, .string ⟨w.text.toArray⟩, .int .i64 w.num, .int .i64 w.at', .int .i64 w.ch]) (ys := [.int .i64 v.kind, .string ⟨v.text.toArray⟩, .int .i64 v.num, .int .i64 v.at', .int .i64 v.ch]) (D := 0 + 3) (D' := 0 + 3) (m := 3) ?_ rfl rfl (litW 0 h) (litW 0 h') (by kernel_rfl) (by decide) (hf w) (hf v) (by kernel_rfl)
  simp [wdEq]
  omega

end Tab

/- What the document fixes; two lists of words held against each other. -/
namespace Tab
open Go Go.Proofs
set_option maxRecDepth 10000
set_option linter.unusedVariables false
set_option linter.unusedSimpArgs false
set_option linter.unusedSectionVars false
set_option maxHeartbeats 1000000

def fxB : Str := [120, 49, 32, 60, 61, 32, 48, 55]
theorem fx_lex : lexS fxB = ([⟨0, [120, 49], 0, 0, 0⟩, ⟨2, [60, 61], 0, 3, 3⟩, ⟨1, [], 7, 6, 6⟩], flt0) := by kernel_rfl

theorem law_fixed : Pure Tryd.prog 7 [] (.bool true) := by
  have hcall := lex_Words fxB (by decide)
  rw [fx_lex] at hcall
  refine Pure.of_sw 39 Tryd.func7 rfl Tryd.ntmps7 (by kernel_rfl) (Nat.le_of_ble_eq_true (by kernel_rfl)) (by simp [closeds, AV.closed, aSs_closed, aIs_closed, aBs_closed, aRs_closed, aDen_closed]) (by simp [AV.closed, closeds, aSs_closed, aIs_closed, aBs_closed, aRs_closed, aDen_closed]) ?_; refine SW.of_vc ?_
  repeat first | refine opsStep ?_ | refine codeStep ?_ | refine drawStep ?_
  refine callP hcall ?_
  repeat first | refine opsStep ?_ | refine codeStep ?_ | refine drawStep ?_
  refine ⟨true, eqlF (w := 0) (a := 0) (b := 0) (w' := 0) (c := 0) (d := 0) (by decide) (by decide) (by decide) (by decide) (by decide) (by decide), ?_⟩
  repeat first | refine opsStep ?_ | refine codeStep ?_ | refine drawStep ?_
  refine ⟨true, eqlW (w := ⟨2, [60, 61], 0, 3, 3⟩) (v := ⟨2, [60, 61], 0, 3, 3⟩) ⟨by decide, by decide, by decide, by decide, by decide⟩ ⟨by decide, by decide, by decide, by decide, by decide⟩, ?_⟩
  repeat first | refine opsStep ?_ | refine codeStep ?_ | refine drawStep ?_
  exact finB (b' := true) (by kernel_rfl) rfl

end Tab

/- A word written down. -/
namespace Tab
open Go Go.Proofs
set_option maxRecDepth 10000
set_option linter.unusedVariables false
set_option linter.unusedSimpArgs false
set_option linter.unusedSectionVars false
set_option maxHeartbeats 1000000

theorem dg_len : ∀ (k n : Nat), n < 10 ^ (k + 1) → (dgL n).length ≤ k + 1
  | 0, n, h => by rw [dgL_small (by omega)]; simp
  | k + 1, n, h => by
    by_cases h9 : n ≤ 9
    · rw [dgL_small h9]; simp
    · rw [dgL_big h9, List.length_append, List.length_singleton]
      have := dg_len k (n / 10) (by rw [Nat.div_lt_iff_lt_mul (by decide)]; rw [Nat.pow_succ] at h; exact h)
      omega
theorem law_digits (n : Nat) (hn : n ≤ 9223372036854775807) : Pure Tryd.prog 16 [.int .i64 n] (.str (dgL n)) := by
  have hdl := dg_len 18 n (by omega)
  refine Pure.of_sw 23 Tryd.func16 rfl Tryd.ntmps16 (by kernel_rfl) (Nat.le_of_ble_eq_true (by kernel_rfl)) (by simp [closeds, AV.closed, aSs_closed, aIs_closed, aBs_closed, aRs_closed, aDen_closed]) (by simp [AV.closed, closeds, aSs_closed, aIs_closed, aBs_closed, aRs_closed, aDen_closed]) ?_; refine SW.of_vc ?_
  repeat first | refine opsStep ?_ | refine codeStep ?_ | refine drawStep ?_
  refine loopE_of (ι := {x : Nat × Str // dgL n = dgL x.1 ++ x.2 ∧ x.1 ≤ 9223372036854775807}) (fun x => (fr [(0, .int .i64 x.1.1), (3, .str x.1.2)], [])) (fun x => x.1.1)
    ⟨(n, []), by simp, hn⟩ (Ent.fr' ⟨(by kernel_rfl), (by kernel_rfl), trivial⟩ (by kernel_rfl)) ?_
  rintro ⟨⟨m, t⟩, h1, h2⟩
  simp only at h1 h2
  have htl : t.length ≤ 19 := by have := congrArg List.length h1; simp at this; omega
  have w8 : ∀ d : Nat, d ≤ 9 → IntKind.wrap .u8 (IntKind.wrap .i64 (48 + (d : Int))) = ((48 + d : Nat) : Int) := fun d hd => by
    rw [IntWalk.i64_in _ (by omega), IntWalk.u8_in _ (by omega)]; simp
  repeat first | refine opsStep ?_ | refine codeStep ?_ | refine drawStep ?_
  refine decB_dec (fun h => ?_) (fun h => ?_)
  · have h' : 9 < m := by have : (m : Int) > 9 := h; omega
    clear h
    have hr : (m : Int).tmod 10 = ((m % 10 : Nat) : Int) := by
      rw [show ((10 : Int)) = ((10 : Nat) : Int) from rfl, ← Int.ofNat_tmod]
    have hq : IntKind.wrap .i64 ((m : Int).tdiv 10) = ((m / 10 : Nat) : Int) := by
      rw [show ((10 : Int)) = ((10 : Nat) : Int) from rfl, ← Int.ofNat_tdiv]
      exact IntWalk.i64_in _ (by omega)
    have hd : dgL n = dgL (m / 10) ++ ([UInt8.ofNat (48 + m % 10)] ++ t) := by rw [h1, dgL_big (by omega), List.append_assoc]
    repeat first | refine opsStep ?_ | refine codeStep ?_ | refine drawStep ?_
    refine guardE_of (by show 1 + t.length ≤ 9223372036854775807; omega) ?_
    repeat first | refine opsStep ?_ | refine codeStep ?_ | refine drawStep ?_
    refine ⟨⟨(m / 10, [UInt8.ofNat (48 + m % 10)] ++ t), hd, by simp only; omega⟩, (by show m / 10 < m; omega), ?_⟩
    refine Ent.frD (X := [.cells 0 [.int .u8 (IntKind.wrap .u8 (IntKind.wrap .i64 (48 + (m : Int).tmod 10)))]]) (H' := []) ⟨congrArg (AV.int .i64) hq, ?_, trivial⟩ (by kernel_rfl) (Nat.zero_le _) (by simp [frBel, AV.bel]) trivial
    refine Eq.trans (b := AV.str ([UInt8.ofNat (IntKind.wrap .u8 (IntKind.wrap .i64 (48 + (m : Int).tmod 10))).toNat] ++ t)) (by kernel_rfl) ?_
    rw [hr, w8 _ (by omega), Int.toNat_natCast]
  · have h' : m ≤ 9 := by have : ¬ (m : Int) > 9 := h; omega
    clear h
    repeat first | refine opsStep ?_ | refine codeStep ?_ | refine drawStep ?_
    refine guardE_of (by show 1 + t.length ≤ 9223372036854775807; omega) ?_
    repeat first | refine opsStep ?_ | refine codeStep ?_ | refine drawStep ?_
    exact finV (v' := .str ([UInt8.ofNat (IntKind.wrap .u8 (IntKind.wrap .i64 (48 + (m : Int)))).toNat] ++ t)) (by kernel_rfl) (by rw [w8 _ h', Int.toNat_natCast, h1, dgL_small h'])

theorem law_written (w : Wd) (hn : w.num ≤ 9223372036854775807) : Pure Tryd.prog 9 [.agg (wdC w)] (.str (wrT w.kind w.text w.num)) := by
  refine Pure.of_sw 11 Tryd.func9 rfl Tryd.ntmps9 (by kernel_rfl) (Nat.le_of_ble_eq_true (by kernel_rfl)) (by simp only [closeds, AV.closed]; exact ⟨wdC_closed w, trivial⟩) (by simp only [AV.closed]) ?_
  refine SW.of_vc ?_
  repeat first | refine opsStep ?_ | refine codeStep ?_ | refine drawStep ?_
  refine decB_dec (fun h => ?_) (fun h => ?_)
  · have h' : w.kind = 1 := h
    clear h
    repeat first | refine opsStep ?_ | refine codeStep ?_ | refine drawStep ?_
    refine callP (law_digits w.num hn) ?_
    repeat first | refine opsStep ?_ | refine codeStep ?_ | refine drawStep ?_
    exact finV (v' := .str (dgL w.num)) (by kernel_rfl) (by rw [wrT, if_pos h'])
  · have h' : ¬ w.kind = 1 := h
    clear h
    repeat first | refine opsStep ?_ | refine codeStep ?_ | refine drawStep ?_
    exact finV (v' := .str w.text) (by kernel_rfl) (by rw [wrT, if_neg h'])

end Tab

/- What is known of a text's words, plain. -/
namespace Tab
open Go
set_option maxRecDepth 10000
set_option linter.unusedVariables false
set_option linter.unusedSimpArgs false
set_option linter.unusedSectionVars false

theorem plain_len : (plainT.all fun p => decide (p.2.length ≤ 3)) = true := by kernel_rfl
theorem tok_ok (x : Str) : ((tokS x).kind = 0 ∨ (tokS x).kind = 1 ∨ (tokS x).kind = 2) ∧ (tokS x).text.length ≤ x.length + 3 ∧ (tokS x).num ≤ 9223372036854775807 ∧ 0 ≤ (tokS x).err ∧ (tokS x).err ≤ 52 := by
  by_cases h1 : (dec x 0).1 = 65533 ∧ (dec x 0).2 ≤ 1
  · rw [tokS, if_pos h1]; simp [tokBad]
  by_cases h2 : startR (dec x 0).1 = true
  · rw [tokS, if_neg h1, if_pos h2, nameT]
    have : (x.take (runS restR x)).length ≤ x.length := by rw [List.length_take]; omega
    split
    · exact ⟨by simp, by simp only; omega, by simp, by simp, by simp⟩
    · split
      · exact ⟨by simp, by simp, by simp, by simp, by simp⟩
      · exact ⟨by simp, by simp only; omega, by simp, by simp, by simp⟩
  by_cases h3 : digR (dec x 0).1 = true
  · rw [tokS, if_neg h1, if_neg h2, if_pos h3]
    cases e : numS (x.take (runS digR x)) with
    | none => simp [tokBad]
    | some v =>
      have hv : v ≤ 9223372036854775807 := numL_le _ 0 v (by omega) (fun c hc => by
        have := run_chars digR (fun r hr => by simp [digR] at hr; omega) _ x rfl c hc
        simp [digR] at this; omega) e
      exact ⟨by simp, by simp, hv, by simp, by simp⟩
  by_cases h4 : plainS (dec x 0).1 ≠ []
  · rw [tokS, if_neg h1, if_neg h2, if_neg h3, if_pos h4]
    obtain ⟨p, hp, he⟩ := List.mem_map.1 (plain_mem h4)
    have := List.all_eq_true.1 plain_len p hp
    rw [decide_eq_true_eq, he] at this
    exact ⟨by simp, by simp only; omega, by simp, by simp, by simp⟩
  rw [tokS, if_neg h1, if_neg h2, if_neg h3, if_neg h4, signT]
  split
  · rename_i t e
    have := sign_len t (List.mem_of_find?_eq_some e)
    exact ⟨by simp, by simp only; omega, by simp, by simp, by simp⟩
  · simp [tokBad]

structure WdOk (n : Nat) (w : Wd) : Prop where
  kind : w.kind = 0 ∨ w.kind = 1 ∨ w.kind = 2
  text : w.text.length ≤ n + 3
  num : w.num ≤ 9223372036854775807
theorem WdOk.up {n m : Nat} {w : Wd} (h : WdOk n w) (hm : n ≤ m) : WdOk m w := ⟨h.kind, by have := h.text; omega, h.num⟩
theorem lexW_ok : ∀ (n : Nat) (x : Str), x.length = n → ∀ (a ch : Nat), (∀ w ∈ (lexW x a ch).1, WdOk x.length w) ∧ (lexW x a ch).1.length ≤ x.length ∧ ((lexW x a ch).2.why = 0 → (lexW x a ch).2 = flt0) ∧ 0 ≤ (lexW x a ch).2.why ∧ (lexW x a ch).2.why ≤ 52 := by
  intro n
  induction n using Nat.strongRecOn with
  | _ n ih =>
    intro x hn a ch
    rcases part_of x with h | h
    · rw [lexW_nil h]; simp [flt0]
    · obtain ⟨l1, l2⟩ := h.lt
      have hx1 := h.some
      have hbl : (x.drop (runS blankR x)).length ≤ x.length := by rw [List.length_drop]; omega
      generalize hbe : runS blankR x = b at *
      generalize hxe : x.drop b = x1 at *
      have hok := tok_ok x1
      generalize hte : tokS x1 = t at *
      obtain ⟨o1, o2, o3, o4, o5⟩ := hok
      by_cases he : t.err = 0
      · obtain ⟨n1, n2, n3, _⟩ := h.tokN he
        rw [lexW_tok h he]
        obtain ⟨i1, i2, i3, i4, i5⟩ := ih _ (by rw [List.length_drop]; omega) (x1.drop t.n) rfl (a + b + t.n) (ch + chS (x.take b) + chS (x1.take t.n))
        have hdl : (x1.drop t.n).length ≤ x.length - 1 := by rw [List.length_drop]; omega
        refine ⟨fun w hw => ?_, by simp only [List.length_cons]; omega, i3, i4, i5⟩
        rcases List.mem_cons.1 hw with rfl | hw
        · exact ⟨o1, by simp only; omega, o3⟩
        · exact (i1 w hw).up (by omega)
      · rw [lexW_bad h he]
        exact ⟨by simp, by simp, fun h0 => absurd h0 he, o4, o5⟩

structure LexOk (s : Str) (W : List Wd) (F : Flt) : Prop where
  zero : F.why = 0 → F = flt0
  none : F.why ≠ 0 → W = []
  why : okJ F.why
  at' : F.at' ≤ s.length ∧ F.at' ≤ 4096
  ch : F.ch ≤ 4096
  cnt : W.length ≤ 4096
  wd : ∀ w ∈ W, okW w ∧ WdOk 4096 w ∧ w.at' < s.length
theorem chS_take_le {s : Str} {k : Nat} : chS (s.take k) ≤ k := by
  have := chS_le _ (s.take k) rfl
  rw [List.length_take] at this
  omega
theorem lexS_ok (s : Str) : LexOk s (lexS s).1 (lexS s).2 := by
  rw [lexS_eq]
  by_cases hl : 4096 < s.length
  · rw [if_pos hl]
    exact ⟨by simp, by simp, by simp only; decide, by simp, by simp, by simp, by simp⟩
  rw [if_neg hl]
  obtain ⟨i1, i2, i3, i4, i5⟩ := lexW_ok _ s rfl 0 0
  have hpl := (lex_places _ s rfl 0 0).1
  have hcut := lex_cut _ s rfl 0 0
  generalize lexW s 0 0 = r at *
  rw [finL]
  by_cases hw : r.2.why ≠ 0
  · rw [if_pos hw]
    obtain ⟨k, k1, _, k3, k4, _⟩ := hcut hw
    have := chS_take_le (s := s) (k := k)
    exact ⟨i3, by simp, ⟨by simp only; omega, by simp only; omega⟩, ⟨by simp only; omega, by simp only; omega⟩, by simp only; omega, by simp, by simp⟩
  · rw [if_neg hw]
    have hz := i3 (Decidable.of_not_not hw)
    refine ⟨i3, fun h => absurd h hw, ⟨by omega, by omega⟩, by rw [hz]; simp [flt0], by rw [hz]; simp [flt0], by omega, fun w hm => ?_⟩
    obtain ⟨k, k1, _, k3, k4, _⟩ := hpl w hm
    have := chS_take_le (s := s) (k := k)
    have ho := i1 w hm
    refine ⟨⟨?_, ?_, ?_, ?_, ?_⟩, ho.up (by omega), by omega⟩
    · rcases ho.kind with e | e | e <;> rw [e] <;> decide
    · have := ho.text; have : s.length ≤ 4096 := by omega
      exact Nat.le_trans (by omega : w.text.length ≤ 4099) (by decide)
    · have := ho.num; exact ⟨by omega, by omega⟩
    · exact ⟨by omega, by omega⟩
    · exact ⟨by omega, by omega⟩

end Tab

/- The law LexAgain, walked. -/
namespace Tab
open Go Go.Proofs
set_option maxRecDepth 10000
set_option linter.unusedVariables false
set_option linter.unusedSimpArgs false
set_option linter.unusedSectionVars false
set_option maxHeartbeats 1000000

def fltZ (F : Flt) : Bool := decide (F.why = 0 ∧ (F.at' : Int) = 0 ∧ (F.ch : Int) = 0)
theorem eqlFlt {s : Str} {W : List Wd} {F : Flt} (h : LexOk s W F) : EqlE Tryd.prog 29 (fltC F) [.int .i64 0, .int .i64 0, .int .i64 0] (fltZ F) := by
  have h1 := h.at'
  have h2 := h.ch
  exact eqlF h.why ⟨by omega, by omega⟩ ⟨by omega, by omega⟩ (by decide) (by decide) (by decide)
theorem LexOk.zeroB {s : Str} {W : List Wd} {F : Flt} (h : LexOk s W F) : (fltZ F = true → F = flt0) ∧ (fltZ F = false → F.why ≠ 0 ∧ W = []) := by
  constructor
  · intro e
    simp only [fltZ, decide_eq_true_eq] at e
    exact h.zero e.1
  · intro e
    have hw : F.why ≠ 0 := fun k => by
      rw [h.zero k] at e
      simp [fltZ, flt0] at e
    exact ⟨hw, h.none hw⟩

theorem wds_at {l : List Wd} {i : Nat} (h : i < l.length) : ((wdsC l).drop (i * 5)).take 5 = wdC (l[i]'h) := by
  have e : l = l.take i ++ l[i]'h :: l.drop (i + 1) := by rw [← List.drop_eq_getElem_cons h, List.take_append_drop]
  have h2 : wdsC l = wdsC (l.take i) ++ (wdC (l[i]'h) ++ wdsC (l.drop (i + 1))) := by
    conv => lhs; rw [e]
    rw [wdsC, List.flatMap_append, List.flatMap_cons]
    rfl
  have h3 : (wdsC (l.take i)).length = i * 5 := by rw [wdsC_len, List.length_take, Nat.min_eq_left (by omega)]
  rw [h2, List.drop_append_of_le_length (by omega), ← h3, List.drop_length, List.nil_append, List.take_append_of_le_length (by simp [wdC])]
  simp [wdC]
theorem wds_from {l : List Wd} {i : Nat} (h : i < l.length) : (wdsC l).drop ((i : Int).toNat * 5) = wdC (l[i]'h) ++ wdsC (l.drop (i + 1)) := by
  have e : l = l.take i ++ l[i]'h :: l.drop (i + 1) := by rw [← List.drop_eq_getElem_cons h, List.take_append_drop]
  have h2 : wdsC l = wdsC (l.take i) ++ (wdC (l[i]'h) ++ wdsC (l.drop (i + 1))) := by
    conv => lhs; rw [e]
    rw [wdsC, List.flatMap_append, List.flatMap_cons]
    rfl
  have h3 : (wdsC (l.take i)).length = i * 5 := by rw [wdsC_len, List.length_take, Nat.min_eq_left (by omega)]
  rw [Int.toNat_natCast, h2, List.drop_append_of_le_length (by omega), ← h3, List.drop_length, List.nil_append]
theorem wd_kind {l : List Wd} {i : Nat} (h : i < l.length) : (((wdsC l).drop ((i : Int).toNat * 5)).drop 0)[0]? = some (.int .i64 (l[i]'h).kind) := by rw [wds_from h]; rfl
theorem wd_text {l : List Wd} {i : Nat} (h : i < l.length) : (((wdsC l).drop ((i : Int).toNat * 5)).drop 1)[0]? = some (.str (l[i]'h).text) := by rw [wds_from h]; rfl
theorem wd_num {l : List Wd} {i : Nat} (h : i < l.length) : (((wdsC l).drop ((i : Int).toNat * 5)).drop 2)[0]? = some (.int .i64 (l[i]'h).num) := by rw [wds_from h]; rfl
theorem agS_snoc (l : List Wd) (w : Wd) : agS (l ++ [w]) = agS l ++ (wrT w.kind w.text w.num ++ [32]) := by simp [agS]
theorem wr_len {w : Wd} (h : WdOk 4096 w) : (wrT w.kind w.text w.num).length ≤ 4099 := by
  rw [wrT]
  split
  · have := dg_len 18 w.num (by have := h.num; omega)
    omega
  · exact h.text
theorem agS_len {l : List Wd} (h : ∀ w ∈ l, WdOk 4096 w) : (agS l).length ≤ l.length * 4100 := by
  induction l with
  | nil => simp [agS]
  | cons w l ih =>
    have := ih fun v hv => h v (by simp [hv])
    have := wr_len (h w (by simp))
    simp only [agS, List.flatMap_cons, List.length_append, List.length_cons, List.length_nil] at this ⊢
    simp only [agS] at *
    omega

theorem law_LexAgain (s : Str) (hs : s.length < 2^62) : Pure Tryd.prog 4 [.str s] (.bool true) := by
  have hcall := lex_Words s hs
  have hok := lexS_ok s
  have hag : ∀ w ∈ (lexS s).1, Ag w := by
    rw [lexS_eq]
    split
    · simp
    · rw [finL]
      split
      · simp
      · exact lex_ag _ s rfl 0 0
  generalize (lexS s).1 = W at *
  generalize (lexS s).2 = F at *
  have hz := hok.zeroB
  have hcnt := hok.cnt
  refine Pure.of_sw 101 Tryd.func4 rfl Tryd.ntmps4 (by kernel_rfl) (Nat.le_of_ble_eq_true (by kernel_rfl)) (by simp [closeds, AV.closed, aSs_closed, aIs_closed, aBs_closed, aRs_closed, aDen_closed]) (by simp [AV.closed, closeds, aSs_closed, aIs_closed, aBs_closed, aRs_closed, aDen_closed]) ?_; refine SW.of_vc ?_
  repeat first | refine opsStep ?_ | refine codeStep ?_ | refine drawStep ?_
  refine callP law_fixed ?_
  repeat first | refine opsStep ?_ | refine codeStep ?_ | refine drawStep ?_
  refine callP hcall ?_
  repeat first | refine opsStep ?_ | refine codeStep ?_ | refine drawStep ?_
  refine ⟨fltZ F, eqlFlt hok, ?_⟩
  repeat first | refine opsStep ?_ | refine codeStep ?_ | refine drawStep ?_
  refine decB_split (b := !fltZ F) (fun h => ?_) (fun h => ?_)
  · have hf : fltZ F = false := by simpa using h
    clear h
    have hz2 := hz.2 hf
    have hw := hz2.1
    have hW := hz2.2
    subst hW
    repeat first | refine opsStep ?_ | refine codeStep ?_ | refine drawStep ?_
    exact finB (b' := decide (F.why ≠ 0)) (by kernel_rfl) (by simp [hw])
  · have hf : fltZ F = true := by simpa using h
    clear h
    have hF := hz.1 hf
    subst hF
    repeat first | refine opsStep ?_ | refine codeStep ?_ | refine drawStep ?_
    refine loopE_of (ι := {i : Nat // i ≤ W.length}) (fun i => (fr [(3, aWs .any W), (4, .ref 0 0 0), (5, .str (agS (W.take i.1))), (28, aWs .any W), (29, .int .i64 W.length), (30, .int .i64 i.1)], [.cells 0 (fltC flt0)])) (fun i => W.length - i.1)
      ⟨0, Nat.zero_le _⟩ (Ent.fr' ⟨(by kernel_rfl), (by kernel_rfl), (by kernel_rfl), (by kernel_rfl), (by kernel_rfl), (by kernel_rfl), trivial⟩ (by kernel_rfl)) ?_
    rintro ⟨i, hi⟩
    repeat first | refine opsStep ?_ | refine codeStep ?_ | refine drawStep ?_
    refine decB_dec (fun h => ?_) (fun h => ?_)
    · have hi' : i < W.length := by have : (i : Int) < W.length := h; omega
      clear h
      have hwd := (hok.wd _ (List.getElem_mem hi'))
      have hwr := wr_len hwd.2.1
      have hag1 := agS_len (l := W.take i) fun w hw => (hok.wd w (List.mem_of_mem_take hw)).2.1
      rw [List.length_take] at hag1
      repeat first | refine opsStep ?_ | refine codeStep ?_ | refine drawStep ?_
      refine guardE_of ⟨by omega, by show (i : Int) < W.length; omega⟩ ?_
      repeat first | refine opsStep ?_ | refine codeStep ?_ | refine drawStep ?_
      refine guardE_of (by rw [List.length_drop, wdsC_len]; show 5 ≤ W.length * 5 - (i : Int).toNat * 5; rw [Int.toNat_natCast]; omega) ?_
      repeat first | refine opsStep ?_ | refine codeStep ?_ | refine drawStep ?_
      have hld : ((wdsC W).drop ((i : Int).toNat * 5)).take 5 = wdC (W[i]'hi') := by rw [Int.toNat_natCast]; exact wds_at hi'
      have hcw : Pure Tryd.prog 9 [.agg (((wdsC W).drop ((i : Int).toNat * 5)).take 5)] (.str (wrT (W[i]'hi').kind (W[i]'hi').text (W[i]'hi').num)) := by rw [hld]; exact law_written _ hwd.2.1.num
      refine guardE_of ⟨by show (((wdsC W).drop ((i : Int).toNat * 5)).take 5).length = 5; rw [hld]; rfl, by decide, by decide⟩ ?_
      iterate 1 refine opsStep ?_
      refine VCode.ent (Ent.fr' (l := [(3, aWs .any W), (4, .ref 0 0 0), (5, .str (agS (W.take i))), (7, .ref 1 0 0), (28, aWs .any W), (29, .int .i64 W.length), (30, .int .i64 i)]) (H' := [.cells 0 (fltC flt0), .cells 0 (wdC (W[i]'hi'))]) ⟨(by kernel_rfl), (by kernel_rfl), (by kernel_rfl), (by kernel_rfl), (by kernel_rfl), (by kernel_rfl), (by kernel_rfl), trivial⟩ (Eq.trans (b := [.cells 0 (fltC flt0), .cells 0 (over [.int .i64 0, .str [], .int .i64 0, .int .i64 0, .int .i64 0] 0 (((wdsC W).drop ((i : Int).toNat * 5)).take 5))]) (by kernel_rfl) (by rw [hld]; rfl))) ?_
      repeat first | refine opsStep ?_ | refine codeStep ?_ | refine drawStep ?_
      refine callP (law_written (W[i]'hi') hwd.2.1.num) ?_
      repeat first | refine opsStep ?_ | refine codeStep ?_ | refine drawStep ?_
      refine guardE_of (by show (wrT (W[i]'hi').kind (W[i]'hi').text (W[i]'hi').num).length + 1 ≤ 9223372036854775807; omega) ?_
      repeat first | refine opsStep ?_ | refine codeStep ?_ | refine drawStep ?_
      refine guardE_of (by show (agS (W.take i)).length + (wrT (W[i]'hi').kind (W[i]'hi').text (W[i]'hi').num ++ [32]).length ≤ 9223372036854775807; rw [List.length_append, List.length_singleton]; omega) ?_
      repeat first | refine opsStep ?_ | refine codeStep ?_ | refine drawStep ?_
      refine ⟨⟨i + 1, hi'⟩, (by show W.length - (i + 1) < W.length - i; omega), Ent.frD (X := [.cells 0 (wdC (W[i]'hi'))]) ⟨(by kernel_rfl), (by kernel_rfl), ?_, (by kernel_rfl), (by kernel_rfl), inc_slot (i := i) (by omega), trivial⟩ (by kernel_rfl) (Nat.zero_le _) (by simp [frBel, AV.bel, aWs, wdsC_bel]) (by simp [blksBel, Blk.bel, fltC, bels, AV.bel])⟩
      show AV.str (agS (W.take i) ++ (wrT (W[i]'hi').kind (W[i]'hi').text (W[i]'hi').num ++ [32])) = AV.str (agS (W.take (i + 1)))
      rw [List.take_succ_eq_append_getElem hi', agS_snoc]
    · have hi' : i = W.length := by have : ¬ (i : Int) < W.length := h; omega
      clear h
      subst hi'
      have hlen := agS_len (l := W) fun w hw => (hok.wd w hw).2.1
      refine VCode.ent (Ent.fr' (l := [(3, aWs .any W), (4, .ref 0 0 0), (5, .str (agS W))]) (H' := [.cells 0 (fltC flt0)]) ⟨(by kernel_rfl), (by kernel_rfl), congrArg (fun l => AV.str (agS l)) (List.take_length (l := W)), trivial⟩ (by kernel_rfl)) ?_
      have hcall2 := lex_Words (agS W) (by omega)
      have hok2 := lexS_ok (agS W)
      have hres : ¬ (agS W).length > 4096 → (lexS (agS W)).2 = flt0 ∧ (lexS (agS W)).1.map (fun w => (w.kind, w.text, w.num)) = W.map fun w => (w.kind, w.text, w.num) := by
        intro hh
        have := lex_again W hag 0 0
        rw [lexS_eq, if_neg hh, finL, if_neg (by rw [this.1]; simp [flt0])]
        exact this
      generalize agS W = T at *
      generalize lexS T = R at *
      repeat first | refine opsStep ?_ | refine codeStep ?_ | refine drawStep ?_
      refine decB_dec (fun h => ?_) (fun h => ?_)
      · repeat first | refine opsStep ?_ | refine codeStep ?_ | refine drawStep ?_
        exact finB (b' := true) (by kernel_rfl) rfl
      · have h' : ¬ T.length > 4096 := by have : ¬ (T.length : Int) > 4096 := h; omega
        clear h
        have hr := hres h'
        have hr1 := hr.1
        have hr2 := hr.2
        have hll : R.1.length = W.length := by have := congrArg List.length hr2; simpa using this
        obtain ⟨W2, F2⟩ := R
        simp only at hr1 hr2 hll hok2 hcall2
        subst hr1
        repeat first | refine opsStep ?_ | refine codeStep ?_ | refine drawStep ?_
        refine callP hcall2 ?_
        repeat first | refine opsStep ?_ | refine codeStep ?_ | refine drawStep ?_
        refine ⟨fltZ flt0, eqlFlt hok2, ?_⟩
        repeat first | refine opsStep ?_ | refine codeStep ?_ | refine drawStep ?_
        refine decB_false (b := decide ((W.length : Int) ≠ W2.length)) (by simp [hll]) ?_
        repeat first | refine opsStep ?_ | refine codeStep ?_ | refine drawStep ?_
        refine loopE_of (ι := {i : Nat // i ≤ W.length}) (fun i => (fr [(3, aWs .any W), (8, aWs .any W2), (59, .int .i64 W.length), (60, .int .i64 i.1)], [.cells 0 (fltC flt0)])) (fun i => W.length - i.1)
          ⟨0, Nat.zero_le _⟩ (Ent.fr' ⟨(by kernel_rfl), (by kernel_rfl), (by kernel_rfl), (by kernel_rfl), trivial⟩ (by kernel_rfl)) ?_
        rintro ⟨i, hi⟩
        repeat first | refine opsStep ?_ | refine codeStep ?_ | refine drawStep ?_
        refine decB_dec (fun h => ?_) (fun h => ?_)
        · have hi' : i < W.length := by have : (i : Int) < W.length := h; omega
          clear h
          have hi2 : i < W2.length := by omega
          have he : ((W2[i]'hi2).kind, (W2[i]'hi2).text, (W2[i]'hi2).num) = ((W[i]'hi').kind, (W[i]'hi').text, (W[i]'hi').num) := by
            have := congrArg (·[i]?) hr2
            simpa [hi', hi2] using this
          have e1 : (W2[i]'hi2).kind = (W[i]'hi').kind := congrArg (·.1) he
          have e2 : (W2[i]'hi2).text = (W[i]'hi').text := congrArg (·.2.1) he
          have e3 : (W2[i]'hi2).num = (W[i]'hi').num := congrArg (·.2.2) he
          repeat first | refine opsStep ?_ | refine codeStep ?_ | refine drawStep ?_
          refine SW.drawn rfl (by kernel_rfl) ?_
          repeat first | refine opsStep ?_ | refine codeStep ?_ | refine drawStep ?_
          refine guardE_of ⟨by omega, by show (i : Int) < W.length; omega⟩ ?_
          repeat first | refine opsStep ?_ | refine codeStep ?_ | refine drawStep ?_
          refine optE_of (c := .int .i64 (W[i]'hi').kind) (wd_kind hi') ?_
          repeat first | refine opsStep ?_ | refine codeStep ?_ | refine drawStep ?_
          refine guardE_of ⟨by omega, by show (i : Int) < W2.length; omega⟩ ?_
          repeat first | refine opsStep ?_ | refine codeStep ?_ | refine drawStep ?_
          refine optE_of (c := .int .i64 (W2[i]'hi2).kind) (wd_kind hi2) ?_
          repeat first | refine opsStep ?_ | refine codeStep ?_ | refine drawStep ?_
          refine decB_false (b := decide ((W[i]'hi').kind ≠ (W2[i]'hi2).kind)) (by simp [e1]) ?_
          repeat first | refine opsStep ?_ | refine codeStep ?_ | refine drawStep ?_
          refine guardE_of ⟨by omega, by show (i : Int) < W.length; omega⟩ ?_
          repeat first | refine opsStep ?_ | refine codeStep ?_ | refine drawStep ?_
          refine optE_of (c := .str (W[i]'hi').text) (wd_text hi') ?_
          repeat first | refine opsStep ?_ | refine codeStep ?_ | refine drawStep ?_
          refine guardE_of ⟨by omega, by show (i : Int) < W2.length; omega⟩ ?_
          repeat first | refine opsStep ?_ | refine codeStep ?_ | refine drawStep ?_
          refine optE_of (c := .str (W2[i]'hi2).text) (wd_text hi2) ?_
          repeat first | refine opsStep ?_ | refine codeStep ?_ | refine drawStep ?_
          refine decB_false (b := decide ((W[i]'hi').text ≠ (W2[i]'hi2).text)) (by simp [e2]) ?_
          repeat first | refine opsStep ?_ | refine codeStep ?_ | refine drawStep ?_
          refine guardE_of ⟨by omega, by show (i : Int) < W.length; omega⟩ ?_
          repeat first | refine opsStep ?_ | refine codeStep ?_ | refine drawStep ?_
          refine optE_of (c := .int .i64 (W[i]'hi').num) (wd_num hi') ?_
          repeat first | refine opsStep ?_ | refine codeStep ?_ | refine drawStep ?_
          refine guardE_of ⟨by omega, by show (i : Int) < W2.length; omega⟩ ?_
          repeat first | refine opsStep ?_ | refine codeStep ?_ | refine drawStep ?_
          refine optE_of (c := .int .i64 (W2[i]'hi2).num) (wd_num hi2) ?_
          repeat first | refine opsStep ?_ | refine codeStep ?_ | refine drawStep ?_
          refine ⟨by kernel_rfl, ?_⟩
          repeat first | refine opsStep ?_ | refine codeStep ?_ | refine drawStep ?_
          refine decB_false (b := decide (((W[i]'hi').num : Int) ≠ (W2[i]'hi2).num)) (by simp [e3]) ?_
          repeat first | refine opsStep ?_ | refine codeStep ?_ | refine drawStep ?_
          exact ⟨⟨i + 1, hi'⟩, (by show W.length - (i + 1) < W.length - i; omega), Ent.fr' ⟨(by kernel_rfl), (by kernel_rfl), (by kernel_rfl), inc_slot (i := i) (by omega), trivial⟩ (by kernel_rfl)⟩
        · repeat first | refine opsStep ?_ | refine codeStep ?_ | refine drawStep ?_
          exact finB (b' := true) (by kernel_rfl) rfl

end Tab

/- The place of a byte; where words stand. -/
namespace Tab
open Go Go.Proofs
set_option maxRecDepth 10000
set_option linter.unusedVariables false
set_option linter.unusedSimpArgs false
set_option linter.unusedSectionVars false
set_option maxHeartbeats 1000000

theorem glyph_At (s : Str) (k : Nat) (hk : k ≤ s.length) (hs : s.length < 2^62) : Pure Tryd.prog 10 [.str s, .int .i64 k] (.tup [.agg [.int .i64 k, .int .i64 (chS (s.take k))], .int .i64 0]) := by
  have htl : (s.take k).length = k := by rw [List.length_take]; omega
  refine Pure.of_sw 29 Tryd.func10 rfl Tryd.ntmps10 (by kernel_rfl) (Nat.le_of_ble_eq_true (by kernel_rfl)) (by simp [closeds, AV.closed, aSs_closed, aIs_closed, aBs_closed, aRs_closed, aDen_closed]) (by simp [AV.closed, closeds, aSs_closed, aIs_closed, aBs_closed, aRs_closed, aDen_closed]) ?_; refine SW.of_vc ?_
  repeat first | refine opsStep ?_ | refine codeStep ?_ | refine drawStep ?_
  refine decB_false (b := decide ((k : Int) > s.length)) (by simp; omega) ?_
  repeat first | refine opsStep ?_ | refine codeStep ?_ | refine drawStep ?_
  refine guardE_of (by simp; omega) ?_
  repeat first | refine opsStep ?_ | refine codeStep ?_ | refine drawStep ?_
  refine loopE_of (ι := {x : Nat × Nat // chS (s.take k) = x.2 + chS ((s.take k).drop x.1) ∧ x.1 ≤ k ∧ x.2 ≤ x.1}) (fun x => (fr [(4, .ref 0 0 0), (6, .ref 1 0 0), (21, .ref 2 0 0)], [.cells 0 [.int .i64 0, .int .i64 0], .cells 0 [.int .i64 k, .int .i64 x.1.2], .siter (s.take k) x.1.1])) (fun x => k - x.1.1)
    ⟨(0, 0), by simp, Nat.zero_le _, Nat.zero_le _⟩ (Ent.fr' ⟨(by kernel_rfl), (by kernel_rfl), (by kernel_rfl), trivial⟩ (by kernel_rfl)) ?_
  rintro ⟨⟨a, n⟩, h1, h2, h3⟩
  simp only at h1 h2 h3
  have hw := dec_width (s.take k) a
  have e0 : dec ((s.take k).drop a) 0 = dec (s.take k) a := by rw [dec_drop, Nat.add_zero]
  repeat first | refine opsStep ?_ | refine codeStep ?_ | refine drawStep ?_
  refine decB_dec (fun hp => ?_) (fun hp => ?_)
  · have hp' : a < (s.take k).length := hp
    have hfit := dec_fits hp'
    have hne : ((s.take k).drop a).length ≠ 0 := by rw [List.length_drop]; omega
    repeat first | refine opsStep ?_ | refine codeStep ?_ | refine drawStep ?_
    exact ⟨⟨(a + (dec (s.take k) a).2, n + 1), by simp only; rw [h1, chS_step hne, e0, List.drop_drop, Nat.add_assoc], by simp only; omega, by simp only; omega⟩, (by show k - (a + (dec (s.take k) a).2) < k - a; omega), Ent.fr' ⟨(by kernel_rfl), (by kernel_rfl), (by kernel_rfl), trivial⟩ (Eq.trans (b := [.cells 0 [.int .i64 0, .int .i64 0], .cells 0 [.int .i64 k, .int .i64 (IntKind.wrap .i64 ((n : Int) + 1))], .siter (s.take k) (a + (dec (s.take k) a).2)]) (by kernel_rfl) (by rw [inc_slot (i := n) (by omega)]))⟩
  · have hp' : ¬ a < (s.take k).length := hp
    repeat first | refine opsStep ?_ | refine codeStep ?_ | refine drawStep ?_
    exact finV (v' := .tup [.agg [.int .i64 k, .int .i64 n], .int .i64 0]) (by kernel_rfl) (by rw [h1, chS_nil (by rw [List.length_drop]; omega), Nat.add_zero])

end Tab

/- The law LexJoins, walked. -/
namespace Tab
open Go Go.Proofs
set_option maxRecDepth 10000
set_option linter.unusedVariables false
set_option linter.unusedSimpArgs false
set_option linter.unusedSectionVars false
set_option maxHeartbeats 1000000

theorem aWs_drop {l : List Wd} {n : Nat} : ((wdsC l).drop 0).take (n * 5) = wdsC (l.take n) := by
  rw [List.drop_zero]
  have h : wdsC l = wdsC (l.take n) ++ wdsC (l.drop n) := by
    conv => lhs; rw [← List.take_append_drop n l]
    rw [wdsC, List.flatMap_append]
    rfl
  by_cases hn : n ≤ l.length
  · rw [h, List.take_append_of_le_length (by rw [wdsC_len, List.length_take]; omega), List.take_of_length_le (by rw [wdsC_len, List.length_take]; omega)]
  · rw [List.take_of_length_le (by rw [wdsC_len]; omega), List.take_of_length_le (by omega)]

theorem law_same (k k' : SK) (l : List Wd) (hl : l.length < 2^62) (hw : ∀ w ∈ l, okW w) : Pure Tryd.prog 12 [aWs k l, aWs k' l] (.bool true) := by
  refine Pure.of_sw 26 Tryd.func12 rfl Tryd.ntmps12 (by kernel_rfl) (Nat.le_of_ble_eq_true (by kernel_rfl)) (by simp only [closeds]; exact ⟨aWs_closed k l, aWs_closed k' l, trivial⟩) (by simp only [AV.closed]) ?_
  refine SW.of_vc ?_
  repeat first | refine opsStep ?_ | refine codeStep ?_ | refine drawStep ?_
  refine decB_false (b := decide ((l.length : Int) ≠ l.length)) (by simp) ?_
  repeat first | refine opsStep ?_ | refine codeStep ?_ | refine drawStep ?_
  refine loopE_of (ι := {i : Nat // i ≤ l.length}) (fun i => (fr [(0, aWs k l), (1, aWs k' l), (12, .int .i64 l.length), (13, .int .i64 i.1)], [])) (fun i => l.length - i.1)
    ⟨0, Nat.zero_le _⟩ (Ent.fr' ⟨(by kernel_rfl), (by kernel_rfl), (by kernel_rfl), (by kernel_rfl), trivial⟩ (by kernel_rfl)) ?_
  rintro ⟨i, hi⟩
  repeat first | refine opsStep ?_ | refine codeStep ?_ | refine drawStep ?_
  refine decB_dec (fun h => ?_) (fun h => ?_)
  · have hi' : i < l.length := by have : (i : Int) < l.length := h; omega
    clear h
    have hld : ((wdsC l).drop ((i : Int).toNat * 5)).take 5 = wdC (l[i]'hi') := by rw [Int.toNat_natCast]; exact wds_at hi'
    have hfit : 5 ≤ ((wdsC l).drop ((i : Int).toNat * 5)).length := by rw [List.length_drop, wdsC_len, Int.toNat_natCast]; omega
    have he : EqlE Tryd.prog 35 (((wdsC l).drop ((i : Int).toNat * 5)).take 5) (((wdsC l).drop ((i : Int).toNat * 5)).take 5) true := by
      rw [hld]
      have := eqlW (hw _ (List.getElem_mem hi')) (hw _ (List.getElem_mem hi'))
      rwa [wdEq_iff.2 rfl] at this
    repeat first | refine opsStep ?_ | refine codeStep ?_ | refine drawStep ?_
    refine SW.drawn rfl (by kernel_rfl) ?_
    repeat first | refine opsStep ?_ | refine codeStep ?_ | refine drawStep ?_
    refine guardE_of ⟨by omega, by show (i : Int) < l.length; omega⟩ ?_
    repeat first | refine opsStep ?_ | refine codeStep ?_ | refine drawStep ?_
    refine guardE_of hfit ?_
    repeat first | refine opsStep ?_ | refine codeStep ?_ | refine drawStep ?_
    refine guardE_of ⟨by omega, by show (i : Int) < l.length; omega⟩ ?_
    repeat first | refine opsStep ?_ | refine codeStep ?_ | refine drawStep ?_
    refine guardE_of hfit ?_
    repeat first | refine opsStep ?_ | refine codeStep ?_ | refine drawStep ?_
    refine ⟨true, he, ?_⟩
    repeat first | refine opsStep ?_ | refine codeStep ?_ | refine drawStep ?_
    refine ⟨by kernel_rfl, ?_⟩
    repeat first | refine opsStep ?_ | refine codeStep ?_ | refine drawStep ?_
    exact ⟨⟨i + 1, hi'⟩, (by show l.length - (i + 1) < l.length - i; omega), Ent.fr' ⟨(by kernel_rfl), (by kernel_rfl), (by kernel_rfl), inc_slot (i := i) (by omega), trivial⟩ (by kernel_rfl)⟩
  · repeat first | refine opsStep ?_ | refine codeStep ?_ | refine drawStep ?_
    exact finB (b' := true) (by kernel_rfl) rfl

end Tab

/- The law LexJoins, walked: its parts. -/
namespace Tab
open Go Go.Proofs
set_option maxRecDepth 10000
set_option linter.unusedVariables false
set_option linter.unusedSimpArgs false
set_option linter.unusedSectionVars false
set_option maxHeartbeats 1000000

theorem joins_long (s t : Str) (A B : List Wd) (F G : Flt) (hs : s.length ≤ 2^47) (ht : t.length ≤ 2^47) (hl : 4096 < s.length + 1 + t.length)
    (hA : Pure Tryd.prog 8 [.str s] (.tup [aWs .any A, .agg (fltC F)])) (hB : Pure Tryd.prog 8 [.str t] (.tup [aWs .any B, .agg (fltC G)])) (hC : Pure Tryd.prog 8 [.str (s ++ [32] ++ t)] (.tup [aWs .any [], .agg (fltC ⟨70, 0, 0⟩)])) :
    Pure Tryd.prog 6 [.str s, .str t] (.bool true) := by
  have hL : IntKind.wrap .i64 (IntKind.wrap .i64 ((s.length : Int) + 1) + t.length) = ((s.length + 1 + t.length : Nat) : Int) := by
    rw [IntWalk.i64_in ((s.length : Int) + 1) (by omega), IntWalk.i64_in _ (by omega)]; simp
  refine Pure.of_sw 155 Tryd.func6 rfl Tryd.ntmps6 (by kernel_rfl) (Nat.le_of_ble_eq_true (by kernel_rfl)) (by simp [closeds, AV.closed, aSs_closed, aIs_closed, aBs_closed, aRs_closed, aDen_closed]) (by simp [AV.closed, closeds, aSs_closed, aIs_closed, aBs_closed, aRs_closed, aDen_closed]) ?_; refine SW.of_vc ?_
  repeat first | refine opsStep ?_ | refine codeStep ?_ | refine drawStep ?_
  refine callP law_fixed ?_
  repeat first | refine opsStep ?_ | refine codeStep ?_ | refine drawStep ?_
  refine callP hA ?_
  repeat first | refine opsStep ?_ | refine codeStep ?_ | refine drawStep ?_
  refine callP hB ?_
  repeat first | refine opsStep ?_ | refine codeStep ?_ | refine drawStep ?_
  refine guardE_of (by show s.length + 1 ≤ 9223372036854775807; omega) ?_
  repeat first | refine opsStep ?_ | refine codeStep ?_ | refine drawStep ?_
  refine guardE_of (by show (s ++ [32]).length + t.length ≤ 9223372036854775807; rw [List.length_append]; simp only [List.length_singleton]; omega) ?_
  repeat first | refine opsStep ?_ | refine codeStep ?_ | refine drawStep ?_
  refine callP hC ?_
  repeat first | refine opsStep ?_ | refine codeStep ?_ | refine drawStep ?_
  refine decB_true (b := decide (IntKind.wrap .i64 (IntKind.wrap .i64 ((s.length : Int) + 1) + t.length) > 4096)) (by rw [hL]; simp; omega) ?_
  repeat first | refine opsStep ?_ | refine codeStep ?_ | refine drawStep ?_
  refine ⟨true, eqlF (w := 70) (a := 0) (b := 0) (w' := 70) (c := 0) (d := 0) (by decide) (by decide) (by decide) (by decide) (by decide) (by decide), ?_⟩
  repeat first | refine opsStep ?_ | refine codeStep ?_ | refine drawStep ?_
  exact finB (b' := true) (by kernel_rfl) rfl

theorem joins_bad1 (s t : Str) (B : List Wd) (F G : Flt) (hl : s.length + 1 + t.length ≤ 4096) (hok : LexOk s [] F) (hF : F.why ≠ 0)
    (hA : Pure Tryd.prog 8 [.str s] (.tup [aWs .any [], .agg (fltC F)])) (hB : Pure Tryd.prog 8 [.str t] (.tup [aWs .any B, .agg (fltC G)])) (hC : Pure Tryd.prog 8 [.str (s ++ [32] ++ t)] (.tup [aWs .any [], .agg (fltC F)])) :
    Pure Tryd.prog 6 [.str s, .str t] (.bool true) := by
  have hL : IntKind.wrap .i64 (IntKind.wrap .i64 ((s.length : Int) + 1) + t.length) = ((s.length + 1 + t.length : Nat) : Int) := by
    rw [IntWalk.i64_in ((s.length : Int) + 1) (by omega), IntWalk.i64_in _ (by omega)]; simp
  have hz : fltZ F = false := by simp [fltZ, hF]
  have hFF : EqlE Tryd.prog 29 (fltC F) (fltC F) true := by
    have h1 := hok.at'
    have h2 := hok.ch
    have := eqlF (w := F.why) (a := F.at') (b := F.ch) (w' := F.why) (c := F.at') (d := F.ch) hok.why ⟨by omega, by omega⟩ ⟨by omega, by omega⟩ hok.why ⟨by omega, by omega⟩ ⟨by omega, by omega⟩
    rwa [decide_eq_true ⟨rfl, rfl, rfl⟩] at this
  refine Pure.of_sw 155 Tryd.func6 rfl Tryd.ntmps6 (by kernel_rfl) (Nat.le_of_ble_eq_true (by kernel_rfl)) (by simp [closeds, AV.closed, aSs_closed, aIs_closed, aBs_closed, aRs_closed, aDen_closed]) (by simp [AV.closed, closeds, aSs_closed, aIs_closed, aBs_closed, aRs_closed, aDen_closed]) ?_; refine SW.of_vc ?_
  repeat first | refine opsStep ?_ | refine codeStep ?_ | refine drawStep ?_
  refine callP law_fixed ?_
  repeat first | refine opsStep ?_ | refine codeStep ?_ | refine drawStep ?_
  refine callP hA ?_
  repeat first | refine opsStep ?_ | refine codeStep ?_ | refine drawStep ?_
  refine callP hB ?_
  repeat first | refine opsStep ?_ | refine codeStep ?_ | refine drawStep ?_
  refine guardE_of (by show s.length + 1 ≤ 9223372036854775807; omega) ?_
  repeat first | refine opsStep ?_ | refine codeStep ?_ | refine drawStep ?_
  refine guardE_of (by show (s ++ [32]).length + t.length ≤ 9223372036854775807; rw [List.length_append]; simp only [List.length_singleton]; omega) ?_
  repeat first | refine opsStep ?_ | refine codeStep ?_ | refine drawStep ?_
  refine callP hC ?_
  repeat first | refine opsStep ?_ | refine codeStep ?_ | refine drawStep ?_
  refine decB_false (b := decide (IntKind.wrap .i64 (IntKind.wrap .i64 ((s.length : Int) + 1) + t.length) > 4096)) (by rw [hL]; simp; omega) ?_
  repeat first | refine opsStep ?_ | refine codeStep ?_ | refine drawStep ?_
  refine ⟨fltZ F, eqlFlt hok, ?_⟩
  repeat first | refine opsStep ?_ | refine codeStep ?_ | refine drawStep ?_
  refine decB_true (b := !fltZ F) (by rw [hz]; rfl) ?_
  repeat first | refine opsStep ?_ | refine codeStep ?_ | refine drawStep ?_
  refine ⟨true, hFF, ?_⟩
  repeat first | refine opsStep ?_ | refine codeStep ?_ | refine drawStep ?_
  exact finB (b' := true) (by kernel_rfl) rfl

theorem joins_bad2 (s t : Str) (A : List Wd) (G : Flt) (hl : s.length + 1 + t.length ≤ 4096) (hok : LexOk t [] G) (hG : G.why ≠ 0)
    (hA : Pure Tryd.prog 8 [.str s] (.tup [aWs .any A, .agg (fltC flt0)])) (hB : Pure Tryd.prog 8 [.str t] (.tup [aWs .any [], .agg (fltC G)])) (hC : Pure Tryd.prog 8 [.str (s ++ [32] ++ t)] (.tup [aWs .any [], .agg (fltC ⟨G.why, G.at' + (s.length + 1), G.ch + (chS s + 1)⟩)])) :
    Pure Tryd.prog 6 [.str s, .str t] (.bool true) := by
  have hL : IntKind.wrap .i64 (IntKind.wrap .i64 ((s.length : Int) + 1) + t.length) = ((s.length + 1 + t.length : Nat) : Int) := by
    rw [IntWalk.i64_in ((s.length : Int) + 1) (by omega), IntWalk.i64_in _ (by omega)]; simp
  have hz : fltZ G = false := by simp [fltZ, hG]
  have hcs := chS_le _ s rfl
  have h1 := hok.at'
  have h2 := hok.ch
  have hAt : Pure Tryd.prog 10 [.str s, .int .i64 s.length] (.tup [.agg [.int .i64 s.length, .int .i64 (chS s)], .int .i64 0]) := by
    have := glyph_At s s.length (Nat.le_refl _) (by omega)
    rwa [List.take_length] at this
  have hP : EqlE Tryd.prog 27 [.int .i64 (G.at' + (s.length + 1) : Nat), .int .i64 (G.ch + (chS s + 1) : Nat)] [.int .i64 (IntKind.wrap .i64 (IntKind.wrap .i64 ((s.length : Int) + 1) + G.at')), .int .i64 (IntKind.wrap .i64 (IntKind.wrap .i64 ((chS s : Int) + 1) + G.ch))] true := by
    rw [IntWalk.i64_in ((s.length : Int) + 1) (by omega), IntWalk.i64_in ((chS s : Int) + 1) (by omega), IntWalk.i64_in _ (by omega), IntWalk.i64_in _ (by omega)]
    have := eqlP (a := (G.at' + (s.length + 1) : Nat)) (b := (G.ch + (chS s + 1) : Nat)) (c := (s.length : Int) + 1 + G.at') (d := (chS s : Int) + 1 + G.ch) ⟨by omega, by omega⟩ ⟨by omega, by omega⟩ ⟨by omega, by omega⟩ ⟨by omega, by omega⟩
    rwa [decide_eq_true ⟨by omega, by omega⟩] at this
  refine Pure.of_sw 155 Tryd.func6 rfl Tryd.ntmps6 (by kernel_rfl) (Nat.le_of_ble_eq_true (by kernel_rfl)) (by simp [closeds, AV.closed, aSs_closed, aIs_closed, aBs_closed, aRs_closed, aDen_closed]) (by simp [AV.closed, closeds, aSs_closed, aIs_closed, aBs_closed, aRs_closed, aDen_closed]) ?_; refine SW.of_vc ?_
  repeat first | refine opsStep ?_ | refine codeStep ?_ | refine drawStep ?_
  refine callP law_fixed ?_
  repeat first | refine opsStep ?_ | refine codeStep ?_ | refine drawStep ?_
  refine callP hA ?_
  repeat first | refine opsStep ?_ | refine codeStep ?_ | refine drawStep ?_
  refine callP hB ?_
  repeat first | refine opsStep ?_ | refine codeStep ?_ | refine drawStep ?_
  refine guardE_of (by show s.length + 1 ≤ 9223372036854775807; omega) ?_
  repeat first | refine opsStep ?_ | refine codeStep ?_ | refine drawStep ?_
  refine guardE_of (by show (s ++ [32]).length + t.length ≤ 9223372036854775807; rw [List.length_append]; simp only [List.length_singleton]; omega) ?_
  repeat first | refine opsStep ?_ | refine codeStep ?_ | refine drawStep ?_
  refine callP hC ?_
  repeat first | refine opsStep ?_ | refine codeStep ?_ | refine drawStep ?_
  refine decB_false (b := decide (IntKind.wrap .i64 (IntKind.wrap .i64 ((s.length : Int) + 1) + t.length) > 4096)) (by rw [hL]; simp; omega) ?_
  repeat first | refine opsStep ?_ | refine codeStep ?_ | refine drawStep ?_
  refine ⟨true, eqlF (w := 0) (a := 0) (b := 0) (w' := 0) (c := 0) (d := 0) (by decide) (by decide) (by decide) (by decide) (by decide) (by decide), ?_⟩
  repeat first | refine opsStep ?_ | refine codeStep ?_ | refine drawStep ?_
  refine callP hAt ?_
  repeat first | refine opsStep ?_ | refine codeStep ?_ | refine drawStep ?_
  refine ⟨fltZ G, eqlFlt hok, ?_⟩
  repeat first | refine opsStep ?_ | refine codeStep ?_ | refine drawStep ?_
  refine decB_true (b := !fltZ G) (by rw [hz]; rfl) ?_
  repeat first | refine opsStep ?_ | refine codeStep ?_ | refine drawStep ?_
  refine decB_true (b := decide (G.why = G.why)) (by simp) ?_
  repeat first | refine opsStep ?_ | refine codeStep ?_ | refine drawStep ?_
  refine ⟨true, hP, ?_⟩
  repeat first | refine opsStep ?_ | refine codeStep ?_ | refine drawStep ?_
  exact finB (b' := true) (by kernel_rfl) rfl

end Tab

/- The law LexJoins: where both texts are read. -/
namespace Tab
open Go Go.Proofs
set_option maxRecDepth 10000
set_option linter.unusedVariables false
set_option linter.unusedSimpArgs false
set_option linter.unusedSectionVars false
set_option maxHeartbeats 1000000

theorem wds_app_at {A B : List Wd} {i : Nat} (h : i < B.length) : ((wdsC (A ++ B)).drop ((A.length + i) * 5)).take 5 = wdC (B[i]'h) := by
  rw [wds_at (by rw [List.length_append]; omega)]
  congr 1
  rw [List.getElem_append_right (by omega)]
  simp
theorem joins_good (s t : Str) (A B : List Wd) (hl : s.length + 1 + t.length ≤ 4096) (hkA : LexOk s A flt0) (hkB : LexOk t B flt0) (hBch : ∀ i (h : i < B.length), (B[i]'h).ch ≤ 4096)
    (hA : Pure Tryd.prog 8 [.str s] (.tup [aWs .any A, .agg (fltC flt0)])) (hB : Pure Tryd.prog 8 [.str t] (.tup [aWs .any B, .agg (fltC flt0)])) (hC : Pure Tryd.prog 8 [.str (s ++ [32] ++ t)] (.tup [aWs .any (A ++ B.map (mvW (s.length + 1) (chS s + 1))), .agg (fltC flt0)])) :
    Pure Tryd.prog 6 [.str s, .str t] (.bool true) := by
  have hL : IntKind.wrap .i64 (IntKind.wrap .i64 ((s.length : Int) + 1) + t.length) = ((s.length + 1 + t.length : Nat) : Int) := by
    rw [IntWalk.i64_in ((s.length : Int) + 1) (by omega), IntWalk.i64_in _ (by omega)]; simp
  have hcs := chS_le _ s rfl
  have cA := hkA.cnt
  have cB := hkB.cnt
  have hAt : Pure Tryd.prog 10 [.str s, .int .i64 s.length] (.tup [.agg [.int .i64 s.length, .int .i64 (chS s)], .int .i64 0]) := by
    have := glyph_At s s.length (Nat.le_refl _) (by omega)
    rwa [List.take_length] at this
  generalize hBm : B.map (mvW (s.length + 1) (chS s + 1)) = M at *
  have hML : M.length = B.length := by rw [← hBm]; simp
  have hlen : (A ++ M).length = A.length + M.length := List.length_append
  have hwr : IntKind.wrap .i64 ((A.length : Int) + B.length) = ((A.length + B.length : Nat) : Int) := by rw [IntWalk.i64_in _ (by omega)]; simp
  refine Pure.of_sw 155 Tryd.func6 rfl Tryd.ntmps6 (by kernel_rfl) (Nat.le_of_ble_eq_true (by kernel_rfl)) (by simp [closeds, AV.closed, aSs_closed, aIs_closed, aBs_closed, aRs_closed, aDen_closed]) (by simp [AV.closed, closeds, aSs_closed, aIs_closed, aBs_closed, aRs_closed, aDen_closed]) ?_; refine SW.of_vc ?_
  repeat first | refine opsStep ?_ | refine codeStep ?_ | refine drawStep ?_
  refine callP law_fixed ?_
  repeat first | refine opsStep ?_ | refine codeStep ?_ | refine drawStep ?_
  refine callP hA ?_
  repeat first | refine opsStep ?_ | refine codeStep ?_ | refine drawStep ?_
  refine callP hB ?_
  repeat first | refine opsStep ?_ | refine codeStep ?_ | refine drawStep ?_
  refine guardE_of (by show s.length + 1 ≤ 9223372036854775807; omega) ?_
  repeat first | refine opsStep ?_ | refine codeStep ?_ | refine drawStep ?_
  refine guardE_of (by show (s ++ [32]).length + t.length ≤ 9223372036854775807; rw [List.length_append]; simp only [List.length_singleton]; omega) ?_
  repeat first | refine opsStep ?_ | refine codeStep ?_ | refine drawStep ?_
  refine callP hC ?_
  repeat first | refine opsStep ?_ | refine codeStep ?_ | refine drawStep ?_
  refine decB_false (b := decide (IntKind.wrap .i64 (IntKind.wrap .i64 ((s.length : Int) + 1) + t.length) > 4096)) (by rw [hL]; simp; omega) ?_
  repeat first | refine opsStep ?_ | refine codeStep ?_ | refine drawStep ?_
  refine ⟨true, eqlF (w := 0) (a := 0) (b := 0) (w' := 0) (c := 0) (d := 0) (by decide) (by decide) (by decide) (by decide) (by decide) (by decide), ?_⟩
  repeat first | refine opsStep ?_ | refine codeStep ?_ | refine drawStep ?_
  refine callP hAt ?_
  repeat first | refine opsStep ?_ | refine codeStep ?_ | refine drawStep ?_
  refine ⟨true, eqlF (w := 0) (a := 0) (b := 0) (w' := 0) (c := 0) (d := 0) (by decide) (by decide) (by decide) (by decide) (by decide) (by decide), ?_⟩
  repeat first | refine opsStep ?_ | refine codeStep ?_ | refine drawStep ?_
  refine ⟨true, eqlF (w := 0) (a := 0) (b := 0) (w' := 0) (c := 0) (d := 0) (by decide) (by decide) (by decide) (by decide) (by decide) (by decide), ?_⟩
  repeat first | refine opsStep ?_ | refine codeStep ?_ | refine drawStep ?_
  refine decB_false (b := decide (((A ++ M).length : Int) ≠ IntKind.wrap .i64 ((A.length : Int) + B.length))) (by rw [hwr, hlen, hML]; simp) ?_
  repeat first | refine opsStep ?_ | refine codeStep ?_ | refine drawStep ?_
  refine loopE_of (ι := {i : Nat // i ≤ B.length}) (fun i => (fr [(5, aWs .any A), (9, aWs .any (A ++ M)), (11, .ref 3 0 0), (116, aWs .any B), (117, .int .i64 B.length), (118, .int .i64 i.1)], [.cells 0 (fltC flt0), .cells 0 (fltC flt0), .cells 0 (fltC flt0), .cells 0 [.int .i64 s.length, .int .i64 (chS s)]])) (fun i => B.length - i.1)
    ⟨0, Nat.zero_le _⟩ (Ent.fr' ⟨(by kernel_rfl), (by kernel_rfl), (by kernel_rfl), (by kernel_rfl), (by kernel_rfl), (by kernel_rfl), trivial⟩ (by kernel_rfl)) ?_
  rintro ⟨i, hi⟩
  repeat first | refine opsStep ?_ | refine codeStep ?_ | refine drawStep ?_
  refine decB_dec (fun h => ?_) (fun h => ?_)
  · have hi' : i < B.length := by have : (i : Int) < B.length := h; omega
    clear h
    have hm := List.getElem_mem hi'
    have hwd := hkB.wd _ hm
    have hld : ((wdsC B).drop ((i : Int).toNat * 5)).take 5 = wdC (B[i]'hi') := by rw [Int.toNat_natCast]; exact wds_at hi'
    have hiM : i < M.length := by omega
    have hMi : M[i]'hiM = mvW (s.length + 1) (chS s + 1) (B[i]'hi') := by
      have : M[i]? = some (mvW (s.length + 1) (chS s + 1) (B[i]'hi')) := by rw [← hBm, List.getElem?_map, List.getElem?_eq_getElem hi']; rfl
      rw [List.getElem?_eq_getElem hiM] at this
      exact Option.some.inj this
    have hai : IntKind.wrap .i64 ((A.length : Int) + i) = ((A.length + i : Nat) : Int) := by rw [IntWalk.i64_in _ (by omega)]; simp
    have hlc : ((wdsC (A ++ M)).drop ((IntKind.wrap .i64 ((A.length : Int) + i)).toNat * 5)).take 5 = wdC (mvW (s.length + 1) (chS s + 1) (B[i]'hi')) := by
      rw [hai, Int.toNat_natCast, wds_app_at hiM, hMi]
    have hatl := hwd.2.2
    have hchl := hwd.1.ch
    have hchl2 : (B[i]'hi').ch ≤ 4096 := hBch i hi'
    generalize B[i]'hi' = w at *
    have hW1 : IntKind.wrap .i64 (IntKind.wrap .i64 ((s.length : Int) + 1) + w.at') = ((w.at' + (s.length + 1) : Nat) : Int) := by
      rw [IntWalk.i64_in ((s.length : Int) + 1) (by omega), IntWalk.i64_in _ (by omega)]; push_cast; omega
    have hW2 : IntKind.wrap .i64 (IntKind.wrap .i64 ((chS s : Int) + 1) + w.ch) = ((w.ch + (chS s + 1) : Nat) : Int) := by
      rw [IntWalk.i64_in ((chS s : Int) + 1) (by omega), IntWalk.i64_in _ (by omega)]; push_cast; omega
    have hokM : okW (mvW (s.length + 1) (chS s + 1) w) := ⟨hwd.1.kind, hwd.1.text, hwd.1.num, ⟨by simp only [mvW]; omega, by simp only [mvW]; omega⟩, ⟨by simp only [mvW]; omega, by simp only [mvW]; omega⟩⟩
    have he : EqlE Tryd.prog 35 (((wdsC (A ++ M)).drop ((IntKind.wrap .i64 ((A.length : Int) + i)).toNat * 5)).take 5) (wdC (mvW (s.length + 1) (chS s + 1) w)) true := by
      rw [hlc]
      have := eqlW hokM hokM
      rwa [wdEq_iff.2 rfl] at this
    repeat first | refine opsStep ?_ | refine codeStep ?_ | refine drawStep ?_
    refine guardE_of ⟨by omega, by show (i : Int) < B.length; omega⟩ ?_
    repeat first | refine opsStep ?_ | refine codeStep ?_ | refine drawStep ?_
    refine guardE_of (by rw [List.length_drop, wdsC_len]; show 5 ≤ B.length * 5 - (i : Int).toNat * 5; rw [Int.toNat_natCast]; omega) ?_
    repeat first | refine opsStep ?_ | refine codeStep ?_ | refine drawStep ?_
    refine guardE_of ⟨by show (((wdsC B).drop ((i : Int).toNat * 5)).take 5).length = 5; rw [hld]; rfl, by decide, by decide⟩ ?_
    iterate 1 refine opsStep ?_
    refine VCode.ent (Ent.fr' (l := [(5, aWs .any A), (9, aWs .any (A ++ M)), (11, .ref 3 0 0), (13, .int .i64 i), (14, .ref 4 0 0), (116, aWs .any B), (117, .int .i64 B.length), (118, .int .i64 i)]) (H' := [.cells 0 (fltC flt0), .cells 0 (fltC flt0), .cells 0 (fltC flt0), .cells 0 [.int .i64 s.length, .int .i64 (chS s)], .cells 0 (wdC w)]) ⟨(by kernel_rfl), (by kernel_rfl), (by kernel_rfl), (by kernel_rfl), (by kernel_rfl), (by kernel_rfl), (by kernel_rfl), (by kernel_rfl), trivial⟩ (Eq.trans (b := [.cells 0 (fltC flt0), .cells 0 (fltC flt0), .cells 0 (fltC flt0), .cells 0 [.int .i64 s.length, .int .i64 (chS s)], .cells 0 (over [.int .i64 0, .str [], .int .i64 0, .int .i64 0, .int .i64 0] 0 (((wdsC B).drop ((i : Int).toNat * 5)).take 5))]) (by kernel_rfl) (by rw [hld]; rfl))) ?_
    have he2 : EqlE Tryd.prog 35 (((wdsC (A ++ M)).drop ((IntKind.wrap .i64 ((A.length : Int) + i)).toNat * 5)).take 5) [.int .i64 w.kind, .str w.text, .int .i64 w.num, .int .i64 (IntKind.wrap .i64 (IntKind.wrap .i64 ((s.length : Int) + 1) + w.at')), .int .i64 (IntKind.wrap .i64 (IntKind.wrap .i64 ((chS s : Int) + 1) + w.ch))] true := by
      rw [hW1, hW2]; exact he
    repeat first | refine opsStep ?_ | refine codeStep ?_ | refine drawStep ?_
    refine SW.drawn rfl (by kernel_rfl) ?_
    repeat first | refine opsStep ?_ | refine codeStep ?_ | refine drawStep ?_
    refine guardE_of (by show (0 : Int) ≤ IntKind.wrap .i64 ((A.length : Int) + i) ∧ IntKind.wrap .i64 ((A.length : Int) + i) < ((A ++ M).length : Int); rw [hai, hlen]; omega) ?_
    repeat first | refine opsStep ?_ | refine codeStep ?_ | refine drawStep ?_
    refine guardE_of (by rw [List.length_drop, wdsC_len]; show 5 ≤ (A ++ M).length * 5 - (IntKind.wrap .i64 ((A.length : Int) + i)).toNat * 5; rw [hai, hlen, Int.toNat_natCast]; omega) ?_
    repeat first | refine opsStep ?_ | refine codeStep ?_ | refine drawStep ?_
    refine ⟨true, he2, ?_⟩
    repeat first | refine opsStep ?_ | refine codeStep ?_ | refine drawStep ?_
    refine ⟨by kernel_rfl, ?_⟩
    repeat first | refine opsStep ?_ | refine codeStep ?_ | refine drawStep ?_
    exact ⟨⟨i + 1, hi'⟩, (by show B.length - (i + 1) < B.length - i; omega), Ent.frD (X := [.cells 0 [.int .i64 w.kind, .str w.text, .int .i64 w.num, .int .i64 (IntKind.wrap .i64 (IntKind.wrap .i64 ((s.length : Int) + 1) + w.at')), .int .i64 (IntKind.wrap .i64 (IntKind.wrap .i64 ((chS s : Int) + 1) + w.ch))]]) ⟨(by kernel_rfl), (by kernel_rfl), (by kernel_rfl), (by kernel_rfl), (by kernel_rfl), inc_slot (i := i) (by omega), trivial⟩ (by kernel_rfl) (Nat.zero_le _) (by simp [frBel, AV.bel, aWs, wdsC_bel]) (by simp [blksBel, Blk.bel, fltC, bels, AV.bel])⟩
  · clear h
    have hsame : Pure Tryd.prog 12 [.sl .any (A.length - 0) (((wdsC (A ++ M)).drop (0 * 5)).take ((A.length - 0) * 5)), aWs .any A] (.bool true) := by
      rw [Nat.zero_mul, Nat.sub_zero, aWs_drop, List.take_left']
      · exact law_same .any .any A (by omega) fun w hw => (hkA.wd w hw).1
      · rfl
    repeat first | refine opsStep ?_ | refine codeStep ?_ | refine drawStep ?_
    refine guardE_of (by show (0 : Int) ≤ 0 ∧ (0 : Int) ≤ (A.length : Int) ∧ (A.length : Int) ≤ ((A ++ M).length : Int); rw [hlen]; omega) ?_
    repeat first | refine opsStep ?_ | refine codeStep ?_ | refine drawStep ?_
    refine callP hsame ?_
    repeat first | refine opsStep ?_ | refine codeStep ?_ | refine drawStep ?_
    exact finB (b' := true) (by kernel_rfl) rfl

end Tab

/- The law LexJoins. -/
namespace Tab
open Go Go.Proofs
set_option maxRecDepth 10000
set_option linter.unusedVariables false
set_option linter.unusedSimpArgs false
set_option linter.unusedSectionVars false

theorem law_LexJoins (s t : Str) (hs : s.length ≤ 2^47) (ht : t.length ≤ 2^47) : Pure Tryd.prog 6 [.str s, .str t] (.bool true) := by
  have hA := lex_Words s (by omega)
  have hB := lex_Words t (by omega)
  have hC := lex_Words (s ++ [32] ++ t) (by simp; omega)
  have hkA := lexS_ok s
  have hkB := lexS_ok t
  have hcl : (s ++ [32] ++ t).length = s.length + 1 + t.length := by simp; omega
  have hce : s ++ [32] ++ t = s ++ 32 :: t := by simp
  by_cases hl : 4096 < s.length + 1 + t.length
  · rw [show lexS (s ++ [32] ++ t) = ([], ⟨70, 0, 0⟩) by rw [lexS, if_pos (by omega)]] at hC
    exact joins_long s t _ _ _ _ hs ht hl hA hB hC
  have hj := lex_join t _ s rfl 0 0
  have hmv := lexW_mv (s.length + 1) (chS s + 1) _ t rfl 0 0
  rw [lexS_eq, if_neg (by omega)] at hA hkA hB hkB
  rw [show lexS (s ++ [32] ++ t) = finL (lexW (s ++ 32 :: t) 0 0) by rw [lexS_eq, if_neg (by omega), hce]] at hC
  rw [Nat.zero_add, Nat.zero_add] at hmv hj
  rw [hmv] at hj
  rw [hj] at hC
  have hoA := lexW_ok _ s rfl 0 0
  have hoB := lexW_ok _ t rfl 0 0
  have hpB := (lex_places _ t rfl 0 0).1
  generalize lexW s 0 0 = r at *
  generalize lexW t 0 0 = q at *
  clear hj hmv
  by_cases hr : r.2.why ≠ 0
  · rw [if_pos hr, finL, if_pos hr] at hC
    rw [finL, if_pos hr] at hA hkA
    exact joins_bad1 s t _ _ _ (by omega) hkA hr hA hB hC
  have hrz := hoA.2.2.1 (Decidable.of_not_not hr)
  rw [if_neg hr] at hC
  rw [finL, if_neg hr, hrz] at hA hkA
  by_cases hq : q.2.why ≠ 0
  · have hm : mvFl (s.length + 1) (chS s + 1) q.2 = ⟨q.2.why, q.2.at' + (s.length + 1), q.2.ch + (chS s + 1)⟩ := by rw [mvFl, if_pos hq]
    simp only [hm] at hC
    rw [finL, if_pos hq] at hC
    rw [finL, if_pos hq] at hB hkB
    exact joins_bad2 s t _ _ (by omega) hkB hq hA hB hC
  have hqz := hoB.2.2.1 (Decidable.of_not_not hq)
  have hm : mvFl (s.length + 1) (chS s + 1) q.2 = flt0 := by rw [mvFl, if_neg hq, hqz]
  simp only [hm] at hC
  rw [finL, if_neg (by simp [flt0])] at hC
  rw [finL, if_neg hq, hqz] at hB hkB
  refine joins_good s t r.1 q.1 (by omega) hkA hkB (fun i h => ?_) hA hB hC
  obtain ⟨k, k1, _, _, k4, _⟩ := hpB _ (List.getElem_mem h)
  have := chS_take_le (s := t) (k := k)
  omega

end Tab
