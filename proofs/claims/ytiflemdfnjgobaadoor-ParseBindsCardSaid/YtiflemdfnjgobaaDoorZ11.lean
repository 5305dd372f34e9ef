/- Lemmas for this claim: part 11. No condition. -/
import Derived.Test.YtiflemdfnjgobaaDoorZ9
import Derived.Laws.BitsLemmas
/- Decoding of a text's first character, by the tables. -/
namespace Tab
open Go Go.Proofs
set_option maxRecDepth 10000
set_option linter.unusedVariables false
set_option linter.unusedSimpArgs false
set_option linter.unusedSectionVars false

theorem byt_at {f : Nat → Int} {c : Nat} (h : c < 256) : ((bytZ ((List.range 256).map f)).drop (((c : Nat) : Int).toNat * 1))[0]? = some (.int .u8 (f c)) := by
  rw [Int.toNat_natCast, Nat.mul_one, bytZ, List.map_map, List.getElem?_drop, Nat.add_zero, List.getElem?_map, List.getElem?_range h]
  rfl

theorem or2 (a b : Nat) (ha : a < 256) (hb : b < 256) : bits .or .i32 (IntKind.wrap .i32 (IntKind.wrap .i32 (bits .and .u8 a 31) * 2 ^ 6)) (IntKind.wrap .i32 (bits .and .u8 b 63)) = ((a % 32 * 64 + b % 64 : Nat) : Int) := by
  rw [u8_and31 _ (by omega) (by omega), u8_and63 _ (by omega) (by omega)]
  rw [IntWalk.i32_in ((a : Int) % 32) (by omega), IntWalk.i32_in ((b : Int) % 64) (by omega), IntWalk.i32_in _ (by omega), i32_or6 _ _ (by omega) (by omega) (by omega) (by omega) (by omega)]
  omega
theorem or3 (a b c : Nat) (ha : a < 256) (hb : b < 256) (hc : c < 256) : bits .or .i32 (bits .or .i32 (IntKind.wrap .i32 (IntKind.wrap .i32 (bits .and .u8 a 15) * 2 ^ 12)) (IntKind.wrap .i32 (IntKind.wrap .i32 (bits .and .u8 b 63) * 2 ^ 6))) (IntKind.wrap .i32 (bits .and .u8 c 63)) = ((a % 16 * 4096 + b % 64 * 64 + c % 64 : Nat) : Int) := by
  rw [u8_and15 _ (by omega) (by omega), u8_and63 _ (by omega) (by omega), u8_and63 _ (by omega) (by omega)]
  rw [IntWalk.i32_in ((a : Int) % 16) (by omega), IntWalk.i32_in ((b : Int) % 64) (by omega), IntWalk.i32_in ((c : Int) % 64) (by omega), IntWalk.i32_in _ (by omega), IntWalk.i32_in _ (by omega),
    i32_or12 ((a : Int) % 16 * 2 ^ 12) ((b : Int) % 64 * 2 ^ 6) (by omega) (by omega) (by omega) (by omega) (by omega), i32_or6 _ _ (by omega) (by omega) (by omega) (by omega) (by omega)]
  omega
theorem or4 (a b c d : Nat) (ha : a < 256) (hb : b < 256) (hc : c < 256) (hd : d < 256) : bits .or .i32 (bits .or .i32 (bits .or .i32 (IntKind.wrap .i32 (IntKind.wrap .i32 (bits .and .u8 a 7) * 2 ^ 18)) (IntKind.wrap .i32 (IntKind.wrap .i32 (bits .and .u8 b 63) * 2 ^ 12))) (IntKind.wrap .i32 (IntKind.wrap .i32 (bits .and .u8 c 63) * 2 ^ 6))) (IntKind.wrap .i32 (bits .and .u8 d 63)) = ((a % 8 * 262144 + b % 64 * 4096 + c % 64 * 64 + d % 64 : Nat) : Int) := by
  rw [u8_and7 _ (by omega) (by omega), u8_and63 _ (by omega) (by omega), u8_and63 _ (by omega) (by omega), u8_and63 _ (by omega) (by omega)]
  rw [IntWalk.i32_in ((a : Int) % 8) (by omega), IntWalk.i32_in ((b : Int) % 64) (by omega), IntWalk.i32_in ((c : Int) % 64) (by omega), IntWalk.i32_in ((d : Int) % 64) (by omega), IntWalk.i32_in _ (by omega), IntWalk.i32_in _ (by omega), IntWalk.i32_in _ (by omega),
    i32_or18 ((a : Int) % 8 * 2 ^ 18) ((b : Int) % 64 * 2 ^ 12) (by omega) (by omega) (by omega) (by omega) (by omega), i32_or12 ((a : Int) % 8 * 2 ^ 18 + (b : Int) % 64 * 2 ^ 12) ((c : Int) % 64 * 2 ^ 6) (by omega) (by omega) (by omega) (by omega) (by omega), i32_or6 _ _ (by omega) (by omega) (by omega) (by omega) (by omega)]
  omega

theorem d2 {s : Str} (h1 : 194 ≤ bt s 0) (h2 : bt s 0 < 224) : dec s 0 = if 1 < s.length ∧ 128 ≤ bt s 1 ∧ bt s 1 ≤ 191 then (bt s 0 % 32 * 64 + bt s 1 % 64, 2) else (65533, 1) := by
  have hb1 := bt_lt s 1
  rw [dec_def]
  simp only [Bool.and_eq_true, ctb_iff, beq_iff_eq, decide_eq_true_eq, okc_iff, ge_iff_le, Nat.zero_add]
  rw [if_neg (by omega)]
  by_cases hc : 1 < s.length ∧ 128 ≤ bt s 1 ∧ bt s 1 ≤ 191
  · rw [if_pos hc, if_pos (by omega), if_pos (by omega)]
  · rw [if_neg hc, if_neg (by omega), if_neg (by omega), if_neg (by omega)]
theorem d3 {s : Str} {lo hi : Nat} (h1 : 224 ≤ bt s 0) (h2 : bt s 0 < 240) (hlo : lo = if bt s 0 = 224 then 160 else 128) (hhi : hi = if bt s 0 = 237 then 159 else 191) :
    dec s 0 = if 2 < s.length ∧ lo ≤ bt s 1 ∧ bt s 1 ≤ hi ∧ 128 ≤ bt s 2 ∧ bt s 2 ≤ 191 then (bt s 0 % 16 * 4096 + bt s 1 % 64 * 64 + bt s 2 % 64, 3) else (65533, 1) := by
  have hb1 := bt_lt s 1
  have hb2 := bt_lt s 2
  rw [dec_def]
  simp only [Bool.and_eq_true, ctb_iff, beq_iff_eq, decide_eq_true_eq, okc_iff, ge_iff_le, Nat.zero_add]
  rw [if_neg (by omega), if_neg (by omega)]
  by_cases hc : 2 < s.length ∧ lo ≤ bt s 1 ∧ bt s 1 ≤ hi ∧ 128 ≤ bt s 2 ∧ bt s 2 ≤ 191
  · rw [if_pos hc]
    split at hlo <;> split at hhi <;> (rw [if_pos (by omega), if_pos (by omega)])
  · rw [if_neg hc]
    split at hlo <;> split at hhi <;> (repeat' split) <;> first | rfl | omega
theorem d4 {s : Str} {lo hi : Nat} (h1 : 240 ≤ bt s 0) (h2 : bt s 0 < 245) (hlo : lo = if bt s 0 = 240 then 144 else 128) (hhi : hi = if bt s 0 = 244 then 143 else 191) :
    dec s 0 = if 3 < s.length ∧ lo ≤ bt s 1 ∧ bt s 1 ≤ hi ∧ 128 ≤ bt s 2 ∧ bt s 2 ≤ 191 ∧ 128 ≤ bt s 3 ∧ bt s 3 ≤ 191 then (bt s 0 % 8 * 262144 + bt s 1 % 64 * 4096 + bt s 2 % 64 * 64 + bt s 3 % 64, 4) else (65533, 1) := by
  have hb1 := bt_lt s 1
  have hb2 := bt_lt s 2
  have hb3 := bt_lt s 3
  rw [dec_def]
  simp only [Bool.and_eq_true, ctb_iff, beq_iff_eq, decide_eq_true_eq, okc_iff, ge_iff_le, Nat.zero_add]
  rw [if_neg (by omega), if_neg (by omega), if_neg (by omega)]
  by_cases hc : 3 < s.length ∧ lo ≤ bt s 1 ∧ bt s 1 ≤ hi ∧ 128 ≤ bt s 2 ∧ bt s 2 ≤ 191 ∧ 128 ≤ bt s 3 ∧ bt s 3 ≤ 191
  · rw [if_pos hc]
    split at hlo <;> split at hhi <;> (rw [if_pos (by omega), if_pos (by omega)])
  · rw [if_neg hc]
    split at hlo <;> split at hhi <;> (repeat' split) <;> first | rfl | omega

end Tab

/- Decoding of a text's first character: the walk, characters of two bytes. -/
namespace Tab
open Go Go.Proofs
set_option maxRecDepth 10000
set_option linter.unusedVariables false
set_option linter.unusedSimpArgs false
set_option linter.unusedSectionVars false
set_option maxHeartbeats 1000000

theorem slow_x (s : Str) (h1 : (128 ≤ bt s 0 ∧ bt s 0 < 194) ∨ 245 ≤ bt s 0) (hp : 0 < s.length) (hl : s.length < 2^62) : Pure Tryd.prog 132 [.str s] (.tup [.int .i32 (dec s 0).1, .int .i64 (dec s 0).2]) := by
  have hb := bt_lt s 0
  have hx : fstV (bt s 0) = 241 := by unfold fstV; (repeat' split) <;> first | rfl | omega
  rw [decX h1]
  have hm : ∀ c : Nat, c < 256 → bits .or .i32 (bits .andNot .i32 (IntKind.wrap .i32 (c : Int)) (-1)) (bits .and .i32 65533 (-1)) = 65533 := by
    have : (List.range 256).all (fun c => decide (bits .or .i32 (bits .andNot .i32 (IntKind.wrap .i32 ((c : Nat) : Int)) (-1)) (bits .and .i32 65533 (-1)) = 65533)) = true := by kernel_rfl
    intro c hc
    simpa using List.all_eq_true.1 this c (List.mem_range.2 hc)
  refine Pure.of_sw 117 Tryd.func132 rfl Tryd.ntmps132 (by kernel_rfl) (Nat.le_of_ble_eq_true (by kernel_rfl)) (by simp [closeds, AV.closed, aSs_closed, aIs_closed, aBs_closed, aRs_closed, aDen_closed]) (by simp [AV.closed, closeds, aSs_closed, aIs_closed, aBs_closed, aRs_closed, aDen_closed]) ?_; refine SW.of_vc ?_
  repeat first | refine opsStep ?_ | refine codeStep ?_ | refine drawStep ?_
  refine decB_dec (fun h0 => ?_) (fun h0 => ?_)
  · exfalso; have : (s.length : Int) < 1 := h0; omega
  repeat first | refine opsStep ?_ | refine codeStep ?_ | refine drawStep ?_
  refine optE_of (c := s[0]) (by simp [hp]) ?_
  repeat first | refine opsStep ?_ | refine codeStep ?_ | refine drawStep ?_
  rw [bt_at hp]
  refine guardE_of ⟨by omega, by show (bt s 0 : Int) < 256; omega⟩ ?_
  repeat first | refine opsStep ?_ | refine codeStep ?_ | refine drawStep ?_
  refine optE_of (c := .int .u8 241) ((byt_at (by omega)).trans (by rw [hx])) ?_
  iterate 2 refine opsStep ?_
  refine VCode.ent (Ent.fr' (l := [(0, .str s), (4, .int .i64 s.length), (5, .int .u8 (bt s 0)), (6, .int .u8 241)]) (H' := []) ⟨(by kernel_rfl), (by kernel_rfl), (by kernel_rfl), (by kernel_rfl), trivial⟩ (by kernel_rfl)) ?_
  repeat first | refine opsStep ?_ | refine codeStep ?_ | refine drawStep ?_
  refine optE_of (c := s[0]) (by simp [hp]) ?_
  repeat first | refine opsStep ?_ | refine codeStep ?_ | refine drawStep ?_
  rw [bt_at hp]
  exact finV (v' := .tup [.int .i32 (bits .or .i32 (bits .andNot .i32 (IntKind.wrap .i32 (bt s 0 : Int)) (-1)) (bits .and .i32 65533 (-1))), .int .i64 1]) (by kernel_rfl) (by rw [hm _ hb]; rfl)

theorem slow_2 (s : Str) (h1 : 194 ≤ bt s 0) (h2 : bt s 0 < 224) (hp : 0 < s.length) (hl : s.length < 2^62) : Pure Tryd.prog 132 [.str s] (.tup [.int .i32 (dec s 0).1, .int .i64 (dec s 0).2]) := by
  have hb := bt_lt s 0
  have hb1 := bt_lt s 1
  have hx : fstV (bt s 0) = 2 := by unfold fstV; (repeat' split) <;> first | rfl | omega
  have hd := d2 h1 h2
  refine Pure.of_sw 117 Tryd.func132 rfl Tryd.ntmps132 (by kernel_rfl) (Nat.le_of_ble_eq_true (by kernel_rfl)) (by simp [closeds, AV.closed, aSs_closed, aIs_closed, aBs_closed, aRs_closed, aDen_closed]) (by simp [AV.closed, closeds, aSs_closed, aIs_closed, aBs_closed, aRs_closed, aDen_closed]) ?_; refine SW.of_vc ?_
  repeat first | refine opsStep ?_ | refine codeStep ?_ | refine drawStep ?_
  refine decB_dec (fun h0 => ?_) (fun h0 => ?_)
  · exfalso; have : (s.length : Int) < 1 := h0; omega
  repeat first | refine opsStep ?_ | refine codeStep ?_ | refine drawStep ?_
  refine optE_of (c := s[0]) (by simp [hp]) ?_
  repeat first | refine opsStep ?_ | refine codeStep ?_ | refine drawStep ?_
  rw [bt_at hp]
  refine guardE_of ⟨by omega, by show (bt s 0 : Int) < 256; omega⟩ ?_
  repeat first | refine opsStep ?_ | refine codeStep ?_ | refine drawStep ?_
  refine optE_of (c := .int .u8 2) ((byt_at (by omega)).trans (by rw [hx])) ?_
  iterate 2 refine opsStep ?_
  refine VCode.ent (Ent.fr' (l := [(0, .str s), (4, .int .i64 s.length), (5, .int .u8 (bt s 0)), (6, .int .u8 2)]) (H' := []) ⟨(by kernel_rfl), (by kernel_rfl), (by kernel_rfl), (by kernel_rfl), trivial⟩ (by kernel_rfl)) ?_
  repeat first | refine opsStep ?_ | refine codeStep ?_ | refine drawStep ?_
  refine decB_dec (fun h1 => ?_) (fun h1 => ?_)
  · have hl1 : (s.length : Int) < 2 := h1
    clear h1
    repeat first | refine opsStep ?_ | refine codeStep ?_ | refine drawStep ?_
    exact finV (v' := .tup [.int .i32 65533, .int .i64 1]) (by kernel_rfl) (by rw [hd, if_neg (by omega)] <;> rfl)
  have hl1 : ¬ (s.length : Int) < 2 := h1
  clear h1
  refine VCode.ent (Ent.fr' (l := [(0, .str s), (4, .int .i64 s.length), (5, .int .u8 (bt s 0)), (8, .int .i64 2), (9, .ref 0 0 0)]) (H' := [.cells 0 [.int .u8 128, .int .u8 191]]) ⟨(by kernel_rfl), (by kernel_rfl), (by kernel_rfl), (by kernel_rfl), (by kernel_rfl), trivial⟩ (by kernel_rfl)) ?_
  repeat first | refine opsStep ?_ | refine codeStep ?_ | refine drawStep ?_
  refine optE_of (c := s[1]) (by simp <;> omega) ?_
  rw [bt_at (show 1 < s.length by omega)]
  iterate 2 refine opsStep ?_
  refine VCode.ent (Ent.fr' (l := [(0, .str s), (4, .int .i64 s.length), (5, .int .u8 (bt s 0)), (8, .int .i64 2), (9, .ref 0 0 0), (10, .int .u8 (bt s 1))]) (H' := [.cells 0 [.int .u8 128, .int .u8 191]]) ⟨(by kernel_rfl), (by kernel_rfl), (by kernel_rfl), (by kernel_rfl), (by kernel_rfl), (by kernel_rfl), trivial⟩ (by kernel_rfl)) ?_
  repeat first | refine opsStep ?_ | refine codeStep ?_ | refine drawStep ?_
  refine decB_dec (fun k1 => ?_) (fun k1 => ?_)
  · have l1 : (bt s 1 : Int) < 128 := k1
    clear k1
    repeat first | refine opsStep ?_ | refine codeStep ?_ | refine drawStep ?_
    exact finV (v' := .tup [.int .i32 65533, .int .i64 1]) (by kernel_rfl) (by rw [hd, if_neg (by omega)] <;> rfl)
  have l1 : ¬ (bt s 1 : Int) < 128 := k1
  clear k1
  repeat first | refine opsStep ?_ | refine codeStep ?_ | refine drawStep ?_
  refine decB_dec (fun k2 => ?_) (fun k2 => ?_)
  · have l2 : (191 : Int) < bt s 1 := k2
    clear k2
    repeat first | refine opsStep ?_ | refine codeStep ?_ | refine drawStep ?_
    exact finV (v' := .tup [.int .i32 65533, .int .i64 1]) (by kernel_rfl) (by rw [hd, if_neg (by omega)] <;> rfl)
  have l2 : ¬ (191 : Int) < bt s 1 := k2
  clear k2
  refine VCode.ent (Ent.fr' (l := [(0, .str s), (4, .int .i64 s.length), (5, .int .u8 (bt s 0)), (8, .int .i64 2), (9, .ref 0 0 0), (10, .int .u8 (bt s 1))]) (H' := [.cells 0 [.int .u8 128, .int .u8 191]]) ⟨(by kernel_rfl), (by kernel_rfl), (by kernel_rfl), (by kernel_rfl), (by kernel_rfl), (by kernel_rfl), trivial⟩ (by kernel_rfl)) ?_
  repeat first | refine opsStep ?_ | refine codeStep ?_ | refine drawStep ?_
  exact finV (v' := .tup [.int .i32 (bits .or .i32 (IntKind.wrap .i32 (IntKind.wrap .i32 (bits .and .u8 (bt s 0 : Int) 31) * 2 ^ 6)) (IntKind.wrap .i32 (bits .and .u8 (bt s 1 : Int) 63))), .int .i64 2]) (by kernel_rfl) (by rw [hd, if_pos (by omega), or2 _ _ hb hb1] <;> rfl)

end Tab

/- Decoding of a text's first character: the walk, characters of three bytes. -/
namespace Tab
open Go Go.Proofs
set_option maxRecDepth 10000
set_option linter.unusedVariables false
set_option linter.unusedSimpArgs false
set_option linter.unusedSectionVars false
set_option maxHeartbeats 1000000

theorem slow_3a (s : Str) (h1 : 224 ≤ bt s 0) (h2 : bt s 0 < 240) (hc : bt s 0 = 224) (hp : 0 < s.length) (hl : s.length < 2^62) : Pure Tryd.prog 132 [.str s] (.tup [.int .i32 (dec s 0).1, .int .i64 (dec s 0).2]) := by
  have hb := bt_lt s 0
  have hb1 := bt_lt s 1
  have hb2 := bt_lt s 2
  have hx : fstV (bt s 0) = 19 := by unfold fstV; (repeat' split) <;> first | rfl | omega
  have hd := d3 (lo := 160) (hi := 191) h1 h2 (by split <;> first | rfl | omega) (by split <;> first | rfl | omega)
  refine Pure.of_sw 117 Tryd.func132 rfl Tryd.ntmps132 (by kernel_rfl) (Nat.le_of_ble_eq_true (by kernel_rfl)) (by simp [closeds, AV.closed, aSs_closed, aIs_closed, aBs_closed, aRs_closed, aDen_closed]) (by simp [AV.closed, closeds, aSs_closed, aIs_closed, aBs_closed, aRs_closed, aDen_closed]) ?_; refine SW.of_vc ?_
  repeat first | refine opsStep ?_ | refine codeStep ?_ | refine drawStep ?_
  refine decB_dec (fun h0 => ?_) (fun h0 => ?_)
  · exfalso; have : (s.length : Int) < 1 := h0; omega
  repeat first | refine opsStep ?_ | refine codeStep ?_ | refine drawStep ?_
  refine optE_of (c := s[0]) (by simp [hp]) ?_
  repeat first | refine opsStep ?_ | refine codeStep ?_ | refine drawStep ?_
  rw [bt_at hp]
  refine guardE_of ⟨by omega, by show (bt s 0 : Int) < 256; omega⟩ ?_
  repeat first | refine opsStep ?_ | refine codeStep ?_ | refine drawStep ?_
  refine optE_of (c := .int .u8 19) ((byt_at (by omega)).trans (by rw [hx])) ?_
  iterate 2 refine opsStep ?_
  refine VCode.ent (Ent.fr' (l := [(0, .str s), (4, .int .i64 s.length), (5, .int .u8 (bt s 0)), (6, .int .u8 19)]) (H' := []) ⟨(by kernel_rfl), (by kernel_rfl), (by kernel_rfl), (by kernel_rfl), trivial⟩ (by kernel_rfl)) ?_
  repeat first | refine opsStep ?_ | refine codeStep ?_ | refine drawStep ?_
  refine decB_dec (fun h1 => ?_) (fun h1 => ?_)
  · have hl1 : (s.length : Int) < 3 := h1
    clear h1
    repeat first | refine opsStep ?_ | refine codeStep ?_ | refine drawStep ?_
    exact finV (v' := .tup [.int .i32 65533, .int .i64 1]) (by kernel_rfl) (by rw [hd, if_neg (by omega)] <;> rfl)
  have hl1 : ¬ (s.length : Int) < 3 := h1
  clear h1
  refine VCode.ent (Ent.fr' (l := [(0, .str s), (4, .int .i64 s.length), (5, .int .u8 (bt s 0)), (8, .int .i64 3), (9, .ref 0 0 0)]) (H' := [.cells 0 [.int .u8 160, .int .u8 191]]) ⟨(by kernel_rfl), (by kernel_rfl), (by kernel_rfl), (by kernel_rfl), (by kernel_rfl), trivial⟩ (by kernel_rfl)) ?_
  repeat first | refine opsStep ?_ | refine codeStep ?_ | refine drawStep ?_
  refine optE_of (c := s[1]) (by simp <;> omega) ?_
  rw [bt_at (show 1 < s.length by omega)]
  iterate 2 refine opsStep ?_
  refine VCode.ent (Ent.fr' (l := [(0, .str s), (4, .int .i64 s.length), (5, .int .u8 (bt s 0)), (8, .int .i64 3), (9, .ref 0 0 0), (10, .int .u8 (bt s 1))]) (H' := [.cells 0 [.int .u8 160, .int .u8 191]]) ⟨(by kernel_rfl), (by kernel_rfl), (by kernel_rfl), (by kernel_rfl), (by kernel_rfl), (by kernel_rfl), trivial⟩ (by kernel_rfl)) ?_
  repeat first | refine opsStep ?_ | refine codeStep ?_ | refine drawStep ?_
  refine decB_dec (fun k1 => ?_) (fun k1 => ?_)
  · have l1 : (bt s 1 : Int) < 160 := k1
    clear k1
    repeat first | refine opsStep ?_ | refine codeStep ?_ | refine drawStep ?_
    exact finV (v' := .tup [.int .i32 65533, .int .i64 1]) (by kernel_rfl) (by rw [hd, if_neg (by omega)] <;> rfl)
  have l1 : ¬ (bt s 1 : Int) < 160 := k1
  clear k1
  repeat first | refine opsStep ?_ | refine codeStep ?_ | refine drawStep ?_
  refine decB_dec (fun k2 => ?_) (fun k2 => ?_)
  · have l2 : (191 : Int) < bt s 1 := k2
    clear k2
    repeat first | refine opsStep ?_ | refine codeStep ?_ | refine drawStep ?_
    exact finV (v' := .tup [.int .i32 65533, .int .i64 1]) (by kernel_rfl) (by rw [hd, if_neg (by omega)] <;> rfl)
  have l2 : ¬ (191 : Int) < bt s 1 := k2
  clear k2
  refine VCode.ent (Ent.fr' (l := [(0, .str s), (4, .int .i64 s.length), (5, .int .u8 (bt s 0)), (8, .int .i64 3), (9, .ref 0 0 0), (10, .int .u8 (bt s 1))]) (H' := [.cells 0 [.int .u8 160, .int .u8 191]]) ⟨(by kernel_rfl), (by kernel_rfl), (by kernel_rfl), (by kernel_rfl), (by kernel_rfl), (by kernel_rfl), trivial⟩ (by kernel_rfl)) ?_
  repeat first | refine opsStep ?_ | refine codeStep ?_ | refine drawStep ?_
  refine optE_of (c := s[2]) (by simp <;> omega) ?_
  rw [bt_at (show 2 < s.length by omega)]
  iterate 2 refine opsStep ?_
  refine VCode.ent (Ent.fr' (l := [(0, .str s), (4, .int .i64 s.length), (5, .int .u8 (bt s 0)), (8, .int .i64 3), (10, .int .u8 (bt s 1)), (11, .int .u8 (bt s 2))]) (H' := [.cells 0 [.int .u8 160, .int .u8 191]]) (by refine ⟨(by kernel_rfl), (by kernel_rfl), (by kernel_rfl), (by kernel_rfl), (by kernel_rfl), ?_⟩; first | exact ⟨(by kernel_rfl), trivial⟩ | exact ⟨(by kernel_rfl), (by kernel_rfl), trivial⟩) (by kernel_rfl)) ?_
  repeat first | refine opsStep ?_ | refine codeStep ?_ | refine drawStep ?_
  refine decB_dec (fun k3 => ?_) (fun k3 => ?_)
  · have l1 : (bt s 2 : Int) < 128 := k3
    clear k3
    repeat first | refine opsStep ?_ | refine codeStep ?_ | refine drawStep ?_
    exact finV (v' := .tup [.int .i32 65533, .int .i64 1]) (by kernel_rfl) (by rw [hd, if_neg (by omega)] <;> rfl)
  have l1 : ¬ (bt s 2 : Int) < 128 := k3
  clear k3
  repeat first | refine opsStep ?_ | refine codeStep ?_ | refine drawStep ?_
  refine decB_dec (fun k4 => ?_) (fun k4 => ?_)
  · have l2 : (191 : Int) < bt s 2 := k4
    clear k4
    repeat first | refine opsStep ?_ | refine codeStep ?_ | refine drawStep ?_
    exact finV (v' := .tup [.int .i32 65533, .int .i64 1]) (by kernel_rfl) (by rw [hd, if_neg (by omega)] <;> rfl)
  have l2 : ¬ (191 : Int) < bt s 2 := k4
  clear k4
  repeat first | refine opsStep ?_ | refine codeStep ?_ | refine drawStep ?_
  exact finV (v' := .tup [.int .i32 (bits .or .i32 (bits .or .i32 (IntKind.wrap .i32 (IntKind.wrap .i32 (bits .and .u8 (bt s 0 : Int) 15) * 2 ^ 12)) (IntKind.wrap .i32 (IntKind.wrap .i32 (bits .and .u8 (bt s 1 : Int) 63) * 2 ^ 6))) (IntKind.wrap .i32 (bits .and .u8 (bt s 2 : Int) 63))), .int .i64 3]) (by kernel_rfl) (by rw [hd, if_pos (by omega), or3 _ _ _ hb hb1 hb2] <;> rfl)
theorem slow_3b (s : Str) (h1 : 224 ≤ bt s 0) (h2 : bt s 0 < 240) (hc : bt s 0 = 237) (hp : 0 < s.length) (hl : s.length < 2^62) : Pure Tryd.prog 132 [.str s] (.tup [.int .i32 (dec s 0).1, .int .i64 (dec s 0).2]) := by
  have hb := bt_lt s 0
  have hb1 := bt_lt s 1
  have hb2 := bt_lt s 2
  have hx : fstV (bt s 0) = 35 := by unfold fstV; (repeat' split) <;> first | rfl | omega
  have hd := d3 (lo := 128) (hi := 159) h1 h2 (by split <;> first | rfl | omega) (by split <;> first | rfl | omega)
  refine Pure.of_sw 117 Tryd.func132 rfl Tryd.ntmps132 (by kernel_rfl) (Nat.le_of_ble_eq_true (by kernel_rfl)) (by simp [closeds, AV.closed, aSs_closed, aIs_closed, aBs_closed, aRs_closed, aDen_closed]) (by simp [AV.closed, closeds, aSs_closed, aIs_closed, aBs_closed, aRs_closed, aDen_closed]) ?_; refine SW.of_vc ?_
  repeat first | refine opsStep ?_ | refine codeStep ?_ | refine drawStep ?_
  refine decB_dec (fun h0 => ?_) (fun h0 => ?_)
  · exfalso; have : (s.length : Int) < 1 := h0; omega
  repeat first | refine opsStep ?_ | refine codeStep ?_ | refine drawStep ?_
  refine optE_of (c := s[0]) (by simp [hp]) ?_
  repeat first | refine opsStep ?_ | refine codeStep ?_ | refine drawStep ?_
  rw [bt_at hp]
  refine guardE_of ⟨by omega, by show (bt s 0 : Int) < 256; omega⟩ ?_
  repeat first | refine opsStep ?_ | refine codeStep ?_ | refine drawStep ?_
  refine optE_of (c := .int .u8 35) ((byt_at (by omega)).trans (by rw [hx])) ?_
  iterate 2 refine opsStep ?_
  refine VCode.ent (Ent.fr' (l := [(0, .str s), (4, .int .i64 s.length), (5, .int .u8 (bt s 0)), (6, .int .u8 35)]) (H' := []) ⟨(by kernel_rfl), (by kernel_rfl), (by kernel_rfl), (by kernel_rfl), trivial⟩ (by kernel_rfl)) ?_
  repeat first | refine opsStep ?_ | refine codeStep ?_ | refine drawStep ?_
  refine decB_dec (fun h1 => ?_) (fun h1 => ?_)
  · have hl1 : (s.length : Int) < 3 := h1
    clear h1
    repeat first | refine opsStep ?_ | refine codeStep ?_ | refine drawStep ?_
    exact finV (v' := .tup [.int .i32 65533, .int .i64 1]) (by kernel_rfl) (by rw [hd, if_neg (by omega)] <;> rfl)
  have hl1 : ¬ (s.length : Int) < 3 := h1
  clear h1
  refine VCode.ent (Ent.fr' (l := [(0, .str s), (4, .int .i64 s.length), (5, .int .u8 (bt s 0)), (8, .int .i64 3), (9, .ref 0 0 0)]) (H' := [.cells 0 [.int .u8 128, .int .u8 159]]) ⟨(by kernel_rfl), (by kernel_rfl), (by kernel_rfl), (by kernel_rfl), (by kernel_rfl), trivial⟩ (by kernel_rfl)) ?_
  repeat first | refine opsStep ?_ | refine codeStep ?_ | refine drawStep ?_
  refine optE_of (c := s[1]) (by simp <;> omega) ?_
  rw [bt_at (show 1 < s.length by omega)]
  iterate 2 refine opsStep ?_
  refine VCode.ent (Ent.fr' (l := [(0, .str s), (4, .int .i64 s.length), (5, .int .u8 (bt s 0)), (8, .int .i64 3), (9, .ref 0 0 0), (10, .int .u8 (bt s 1))]) (H' := [.cells 0 [.int .u8 128, .int .u8 159]]) ⟨(by kernel_rfl), (by kernel_rfl), (by kernel_rfl), (by kernel_rfl), (by kernel_rfl), (by kernel_rfl), trivial⟩ (by kernel_rfl)) ?_
  repeat first | refine opsStep ?_ | refine codeStep ?_ | refine drawStep ?_
  refine decB_dec (fun k1 => ?_) (fun k1 => ?_)
  · have l1 : (bt s 1 : Int) < 128 := k1
    clear k1
    repeat first | refine opsStep ?_ | refine codeStep ?_ | refine drawStep ?_
    exact finV (v' := .tup [.int .i32 65533, .int .i64 1]) (by kernel_rfl) (by rw [hd, if_neg (by omega)] <;> rfl)
  have l1 : ¬ (bt s 1 : Int) < 128 := k1
  clear k1
  repeat first | refine opsStep ?_ | refine codeStep ?_ | refine drawStep ?_
  refine decB_dec (fun k2 => ?_) (fun k2 => ?_)
  · have l2 : (159 : Int) < bt s 1 := k2
    clear k2
    repeat first | refine opsStep ?_ | refine codeStep ?_ | refine drawStep ?_
    exact finV (v' := .tup [.int .i32 65533, .int .i64 1]) (by kernel_rfl) (by rw [hd, if_neg (by omega)] <;> rfl)
  have l2 : ¬ (159 : Int) < bt s 1 := k2
  clear k2
  refine VCode.ent (Ent.fr' (l := [(0, .str s), (4, .int .i64 s.length), (5, .int .u8 (bt s 0)), (8, .int .i64 3), (9, .ref 0 0 0), (10, .int .u8 (bt s 1))]) (H' := [.cells 0 [.int .u8 128, .int .u8 159]]) ⟨(by kernel_rfl), (by kernel_rfl), (by kernel_rfl), (by kernel_rfl), (by kernel_rfl), (by kernel_rfl), trivial⟩ (by kernel_rfl)) ?_
  repeat first | refine opsStep ?_ | refine codeStep ?_ | refine drawStep ?_
  refine optE_of (c := s[2]) (by simp <;> omega) ?_
  rw [bt_at (show 2 < s.length by omega)]
  iterate 2 refine opsStep ?_
  refine VCode.ent (Ent.fr' (l := [(0, .str s), (4, .int .i64 s.length), (5, .int .u8 (bt s 0)), (8, .int .i64 3), (10, .int .u8 (bt s 1)), (11, .int .u8 (bt s 2))]) (H' := [.cells 0 [.int .u8 128, .int .u8 159]]) (by refine ⟨(by kernel_rfl), (by kernel_rfl), (by kernel_rfl), (by kernel_rfl), (by kernel_rfl), ?_⟩; first | exact ⟨(by kernel_rfl), trivial⟩ | exact ⟨(by kernel_rfl), (by kernel_rfl), trivial⟩) (by kernel_rfl)) ?_
  repeat first | refine opsStep ?_ | refine codeStep ?_ | refine drawStep ?_
  refine decB_dec (fun k3 => ?_) (fun k3 => ?_)
  · have l1 : (bt s 2 : Int) < 128 := k3
    clear k3
    repeat first | refine opsStep ?_ | refine codeStep ?_ | refine drawStep ?_
    exact finV (v' := .tup [.int .i32 65533, .int .i64 1]) (by kernel_rfl) (by rw [hd, if_neg (by omega)] <;> rfl)
  have l1 : ¬ (bt s 2 : Int) < 128 := k3
  clear k3
  repeat first | refine opsStep ?_ | refine codeStep ?_ | refine drawStep ?_
  refine decB_dec (fun k4 => ?_) (fun k4 => ?_)
  · have l2 : (191 : Int) < bt s 2 := k4
    clear k4
    repeat first | refine opsStep ?_ | refine codeStep ?_ | refine drawStep ?_
    exact finV (v' := .tup [.int .i32 65533, .int .i64 1]) (by kernel_rfl) (by rw [hd, if_neg (by omega)] <;> rfl)
  have l2 : ¬ (191 : Int) < bt s 2 := k4
  clear k4
  repeat first | refine opsStep ?_ | refine codeStep ?_ | refine drawStep ?_
  exact finV (v' := .tup [.int .i32 (bits .or .i32 (bits .or .i32 (IntKind.wrap .i32 (IntKind.wrap .i32 (bits .and .u8 (bt s 0 : Int) 15) * 2 ^ 12)) (IntKind.wrap .i32 (IntKind.wrap .i32 (bits .and .u8 (bt s 1 : Int) 63) * 2 ^ 6))) (IntKind.wrap .i32 (bits .and .u8 (bt s 2 : Int) 63))), .int .i64 3]) (by kernel_rfl) (by rw [hd, if_pos (by omega), or3 _ _ _ hb hb1 hb2] <;> rfl)
theorem slow_3c (s : Str) (h1 : 224 ≤ bt s 0) (h2 : bt s 0 < 240) (hc : bt s 0 ≠ 224 ∧ bt s 0 ≠ 237) (hp : 0 < s.length) (hl : s.length < 2^62) : Pure Tryd.prog 132 [.str s] (.tup [.int .i32 (dec s 0).1, .int .i64 (dec s 0).2]) := by
  have hb := bt_lt s 0
  have hb1 := bt_lt s 1
  have hb2 := bt_lt s 2
  have hx : fstV (bt s 0) = 3 := by unfold fstV; (repeat' split) <;> first | rfl | omega
  have hd := d3 (lo := 128) (hi := 191) h1 h2 (by split <;> first | rfl | omega) (by split <;> first | rfl | omega)
  refine Pure.of_sw 117 Tryd.func132 rfl Tryd.ntmps132 (by kernel_rfl) (Nat.le_of_ble_eq_true (by kernel_rfl)) (by simp [closeds, AV.closed, aSs_closed, aIs_closed, aBs_closed, aRs_closed, aDen_closed]) (by simp [AV.closed, closeds, aSs_closed, aIs_closed, aBs_closed, aRs_closed, aDen_closed]) ?_; refine SW.of_vc ?_
  repeat first | refine opsStep ?_ | refine codeStep ?_ | refine drawStep ?_
  refine decB_dec (fun h0 => ?_) (fun h0 => ?_)
  · exfalso; have : (s.length : Int) < 1 := h0; omega
  repeat first | refine opsStep ?_ | refine codeStep ?_ | refine drawStep ?_
  refine optE_of (c := s[0]) (by simp [hp]) ?_
  repeat first | refine opsStep ?_ | refine codeStep ?_ | refine drawStep ?_
  rw [bt_at hp]
  refine guardE_of ⟨by omega, by show (bt s 0 : Int) < 256; omega⟩ ?_
  repeat first | refine opsStep ?_ | refine codeStep ?_ | refine drawStep ?_
  refine optE_of (c := .int .u8 3) ((byt_at (by omega)).trans (by rw [hx])) ?_
  iterate 2 refine opsStep ?_
  refine VCode.ent (Ent.fr' (l := [(0, .str s), (4, .int .i64 s.length), (5, .int .u8 (bt s 0)), (6, .int .u8 3)]) (H' := []) ⟨(by kernel_rfl), (by kernel_rfl), (by kernel_rfl), (by kernel_rfl), trivial⟩ (by kernel_rfl)) ?_
  repeat first | refine opsStep ?_ | refine codeStep ?_ | refine drawStep ?_
  refine decB_dec (fun h1 => ?_) (fun h1 => ?_)
  · have hl1 : (s.length : Int) < 3 := h1
    clear h1
    repeat first | refine opsStep ?_ | refine codeStep ?_ | refine drawStep ?_
    exact finV (v' := .tup [.int .i32 65533, .int .i64 1]) (by kernel_rfl) (by rw [hd, if_neg (by omega)] <;> rfl)
  have hl1 : ¬ (s.length : Int) < 3 := h1
  clear h1
  refine VCode.ent (Ent.fr' (l := [(0, .str s), (4, .int .i64 s.length), (5, .int .u8 (bt s 0)), (8, .int .i64 3), (9, .ref 0 0 0)]) (H' := [.cells 0 [.int .u8 128, .int .u8 191]]) ⟨(by kernel_rfl), (by kernel_rfl), (by kernel_rfl), (by kernel_rfl), (by kernel_rfl), trivial⟩ (by kernel_rfl)) ?_
  repeat first | refine opsStep ?_ | refine codeStep ?_ | refine drawStep ?_
  refine optE_of (c := s[1]) (by simp <;> omega) ?_
  rw [bt_at (show 1 < s.length by omega)]
  iterate 2 refine opsStep ?_
  refine VCode.ent (Ent.fr' (l := [(0, .str s), (4, .int .i64 s.length), (5, .int .u8 (bt s 0)), (8, .int .i64 3), (9, .ref 0 0 0), (10, .int .u8 (bt s 1))]) (H' := [.cells 0 [.int .u8 128, .int .u8 191]]) ⟨(by kernel_rfl), (by kernel_rfl), (by kernel_rfl), (by kernel_rfl), (by kernel_rfl), (by kernel_rfl), trivial⟩ (by kernel_rfl)) ?_
  repeat first | refine opsStep ?_ | refine codeStep ?_ | refine drawStep ?_
  refine decB_dec (fun k1 => ?_) (fun k1 => ?_)
  · have l1 : (bt s 1 : Int) < 128 := k1
    clear k1
    repeat first | refine opsStep ?_ | refine codeStep ?_ | refine drawStep ?_
    exact finV (v' := .tup [.int .i32 65533, .int .i64 1]) (by kernel_rfl) (by rw [hd, if_neg (by omega)] <;> rfl)
  have l1 : ¬ (bt s 1 : Int) < 128 := k1
  clear k1
  repeat first | refine opsStep ?_ | refine codeStep ?_ | refine drawStep ?_
  refine decB_dec (fun k2 => ?_) (fun k2 => ?_)
  · have l2 : (191 : Int) < bt s 1 := k2
    clear k2
    repeat first | refine opsStep ?_ | refine codeStep ?_ | refine drawStep ?_
    exact finV (v' := .tup [.int .i32 65533, .int .i64 1]) (by kernel_rfl) (by rw [hd, if_neg (by omega)] <;> rfl)
  have l2 : ¬ (191 : Int) < bt s 1 := k2
  clear k2
  refine VCode.ent (Ent.fr' (l := [(0, .str s), (4, .int .i64 s.length), (5, .int .u8 (bt s 0)), (8, .int .i64 3), (9, .ref 0 0 0), (10, .int .u8 (bt s 1))]) (H' := [.cells 0 [.int .u8 128, .int .u8 191]]) ⟨(by kernel_rfl), (by kernel_rfl), (by kernel_rfl), (by kernel_rfl), (by kernel_rfl), (by kernel_rfl), trivial⟩ (by kernel_rfl)) ?_
  repeat first | refine opsStep ?_ | refine codeStep ?_ | refine drawStep ?_
  refine optE_of (c := s[2]) (by simp <;> omega) ?_
  rw [bt_at (show 2 < s.length by omega)]
  iterate 2 refine opsStep ?_
  refine VCode.ent (Ent.fr' (l := [(0, .str s), (4, .int .i64 s.length), (5, .int .u8 (bt s 0)), (8, .int .i64 3), (10, .int .u8 (bt s 1)), (11, .int .u8 (bt s 2))]) (H' := [.cells 0 [.int .u8 128, .int .u8 191]]) (by refine ⟨(by kernel_rfl), (by kernel_rfl), (by kernel_rfl), (by kernel_rfl), (by kernel_rfl), ?_⟩; first | exact ⟨(by kernel_rfl), trivial⟩ | exact ⟨(by kernel_rfl), (by kernel_rfl), trivial⟩) (by kernel_rfl)) ?_
  repeat first | refine opsStep ?_ | refine codeStep ?_ | refine drawStep ?_
  refine decB_dec (fun k3 => ?_) (fun k3 => ?_)
  · have l1 : (bt s 2 : Int) < 128 := k3
    clear k3
    repeat first | refine opsStep ?_ | refine codeStep ?_ | refine drawStep ?_
    exact finV (v' := .tup [.int .i32 65533, .int .i64 1]) (by kernel_rfl) (by rw [hd, if_neg (by omega)] <;> rfl)
  have l1 : ¬ (bt s 2 : Int) < 128 := k3
  clear k3
  repeat first | refine opsStep ?_ | refine codeStep ?_ | refine drawStep ?_
  refine decB_dec (fun k4 => ?_) (fun k4 => ?_)
  · have l2 : (191 : Int) < bt s 2 := k4
    clear k4
    repeat first | refine opsStep ?_ | refine codeStep ?_ | refine drawStep ?_
    exact finV (v' := .tup [.int .i32 65533, .int .i64 1]) (by kernel_rfl) (by rw [hd, if_neg (by omega)] <;> rfl)
  have l2 : ¬ (191 : Int) < bt s 2 := k4
  clear k4
  repeat first | refine opsStep ?_ | refine codeStep ?_ | refine drawStep ?_
  exact finV (v' := .tup [.int .i32 (bits .or .i32 (bits .or .i32 (IntKind.wrap .i32 (IntKind.wrap .i32 (bits .and .u8 (bt s 0 : Int) 15) * 2 ^ 12)) (IntKind.wrap .i32 (IntKind.wrap .i32 (bits .and .u8 (bt s 1 : Int) 63) * 2 ^ 6))) (IntKind.wrap .i32 (bits .and .u8 (bt s 2 : Int) 63))), .int .i64 3]) (by kernel_rfl) (by rw [hd, if_pos (by omega), or3 _ _ _ hb hb1 hb2] <;> rfl)

end Tab

/- Decoding of a text's first character: the walk, characters of four bytes. -/
namespace Tab
open Go Go.Proofs
set_option maxRecDepth 10000
set_option linter.unusedVariables false
set_option linter.unusedSimpArgs false
set_option linter.unusedSectionVars false
set_option maxHeartbeats 1000000

theorem slow_4a (s : Str) (h1 : 240 ≤ bt s 0) (h2 : bt s 0 < 245) (hc : bt s 0 = 240) (hp : 0 < s.length) (hl : s.length < 2^62) : Pure Tryd.prog 132 [.str s] (.tup [.int .i32 (dec s 0).1, .int .i64 (dec s 0).2]) := by
  have hb := bt_lt s 0
  have hb1 := bt_lt s 1
  have hb2 := bt_lt s 2
  have hb3 := bt_lt s 3
  have hx : fstV (bt s 0) = 52 := by unfold fstV; (repeat' split) <;> first | rfl | omega
  have hd := d4 (lo := 144) (hi := 191) h1 h2 (by split <;> first | rfl | omega) (by split <;> first | rfl | omega)
  refine Pure.of_sw 117 Tryd.func132 rfl Tryd.ntmps132 (by kernel_rfl) (Nat.le_of_ble_eq_true (by kernel_rfl)) (by simp [closeds, AV.closed, aSs_closed, aIs_closed, aBs_closed, aRs_closed, aDen_closed]) (by simp [AV.closed, closeds, aSs_closed, aIs_closed, aBs_closed, aRs_closed, aDen_closed]) ?_; refine SW.of_vc ?_
  repeat first | refine opsStep ?_ | refine codeStep ?_ | refine drawStep ?_
  refine decB_dec (fun h0 => ?_) (fun h0 => ?_)
  · exfalso; have : (s.length : Int) < 1 := h0; omega
  repeat first | refine opsStep ?_ | refine codeStep ?_ | refine drawStep ?_
  refine optE_of (c := s[0]) (by simp [hp]) ?_
  repeat first | refine opsStep ?_ | refine codeStep ?_ | refine drawStep ?_
  rw [bt_at hp]
  refine guardE_of ⟨by omega, by show (bt s 0 : Int) < 256; omega⟩ ?_
  repeat first | refine opsStep ?_ | refine codeStep ?_ | refine drawStep ?_
  refine optE_of (c := .int .u8 52) ((byt_at (by omega)).trans (by rw [hx])) ?_
  iterate 2 refine opsStep ?_
  refine VCode.ent (Ent.fr' (l := [(0, .str s), (4, .int .i64 s.length), (5, .int .u8 (bt s 0)), (6, .int .u8 52)]) (H' := []) ⟨(by kernel_rfl), (by kernel_rfl), (by kernel_rfl), (by kernel_rfl), trivial⟩ (by kernel_rfl)) ?_
  repeat first | refine opsStep ?_ | refine codeStep ?_ | refine drawStep ?_
  refine decB_dec (fun h1 => ?_) (fun h1 => ?_)
  · have hl1 : (s.length : Int) < 4 := h1
    clear h1
    repeat first | refine opsStep ?_ | refine codeStep ?_ | refine drawStep ?_
    exact finV (v' := .tup [.int .i32 65533, .int .i64 1]) (by kernel_rfl) (by rw [hd, if_neg (by omega)] <;> rfl)
  have hl1 : ¬ (s.length : Int) < 4 := h1
  clear h1
  refine VCode.ent (Ent.fr' (l := [(0, .str s), (4, .int .i64 s.length), (5, .int .u8 (bt s 0)), (8, .int .i64 4), (9, .ref 0 0 0)]) (H' := [.cells 0 [.int .u8 144, .int .u8 191]]) ⟨(by kernel_rfl), (by kernel_rfl), (by kernel_rfl), (by kernel_rfl), (by kernel_rfl), trivial⟩ (by kernel_rfl)) ?_
  repeat first | refine opsStep ?_ | refine codeStep ?_ | refine drawStep ?_
  refine optE_of (c := s[1]) (by simp <;> omega) ?_
  rw [bt_at (show 1 < s.length by omega)]
  iterate 2 refine opsStep ?_
  refine VCode.ent (Ent.fr' (l := [(0, .str s), (4, .int .i64 s.length), (5, .int .u8 (bt s 0)), (8, .int .i64 4), (9, .ref 0 0 0), (10, .int .u8 (bt s 1))]) (H' := [.cells 0 [.int .u8 144, .int .u8 191]]) ⟨(by kernel_rfl), (by kernel_rfl), (by kernel_rfl), (by kernel_rfl), (by kernel_rfl), (by kernel_rfl), trivial⟩ (by kernel_rfl)) ?_
  repeat first | refine opsStep ?_ | refine codeStep ?_ | refine drawStep ?_
  refine decB_dec (fun k1 => ?_) (fun k1 => ?_)
  · have l1 : (bt s 1 : Int) < 144 := k1
    clear k1
    repeat first | refine opsStep ?_ | refine codeStep ?_ | refine drawStep ?_
    exact finV (v' := .tup [.int .i32 65533, .int .i64 1]) (by kernel_rfl) (by rw [hd, if_neg (by omega)] <;> rfl)
  have l1 : ¬ (bt s 1 : Int) < 144 := k1
  clear k1
  repeat first | refine opsStep ?_ | refine codeStep ?_ | refine drawStep ?_
  refine decB_dec (fun k2 => ?_) (fun k2 => ?_)
  · have l2 : (191 : Int) < bt s 1 := k2
    clear k2
    repeat first | refine opsStep ?_ | refine codeStep ?_ | refine drawStep ?_
    exact finV (v' := .tup [.int .i32 65533, .int .i64 1]) (by kernel_rfl) (by rw [hd, if_neg (by omega)] <;> rfl)
  have l2 : ¬ (191 : Int) < bt s 1 := k2
  clear k2
  refine VCode.ent (Ent.fr' (l := [(0, .str s), (4, .int .i64 s.length), (5, .int .u8 (bt s 0)), (8, .int .i64 4), (9, .ref 0 0 0), (10, .int .u8 (bt s 1))]) (H' := [.cells 0 [.int .u8 144, .int .u8 191]]) ⟨(by kernel_rfl), (by kernel_rfl), (by kernel_rfl), (by kernel_rfl), (by kernel_rfl), (by kernel_rfl), trivial⟩ (by kernel_rfl)) ?_
  repeat first | refine opsStep ?_ | refine codeStep ?_ | refine drawStep ?_
  refine optE_of (c := s[2]) (by simp <;> omega) ?_
  rw [bt_at (show 2 < s.length by omega)]
  iterate 2 refine opsStep ?_
  refine VCode.ent (Ent.fr' (l := [(0, .str s), (4, .int .i64 s.length), (5, .int .u8 (bt s 0)), (8, .int .i64 4), (10, .int .u8 (bt s 1)), (11, .int .u8 (bt s 2))]) (H' := [.cells 0 [.int .u8 144, .int .u8 191]]) (by refine ⟨(by kernel_rfl), (by kernel_rfl), (by kernel_rfl), (by kernel_rfl), (by kernel_rfl), ?_⟩; first | exact ⟨(by kernel_rfl), trivial⟩ | exact ⟨(by kernel_rfl), (by kernel_rfl), trivial⟩) (by kernel_rfl)) ?_
  repeat first | refine opsStep ?_ | refine codeStep ?_ | refine drawStep ?_
  refine decB_dec (fun k3 => ?_) (fun k3 => ?_)
  · have l1 : (bt s 2 : Int) < 128 := k3
    clear k3
    repeat first | refine opsStep ?_ | refine codeStep ?_ | refine drawStep ?_
    exact finV (v' := .tup [.int .i32 65533, .int .i64 1]) (by kernel_rfl) (by rw [hd, if_neg (by omega)] <;> rfl)
  have l1 : ¬ (bt s 2 : Int) < 128 := k3
  clear k3
  repeat first | refine opsStep ?_ | refine codeStep ?_ | refine drawStep ?_
  refine decB_dec (fun k4 => ?_) (fun k4 => ?_)
  · have l2 : (191 : Int) < bt s 2 := k4
    clear k4
    repeat first | refine opsStep ?_ | refine codeStep ?_ | refine drawStep ?_
    exact finV (v' := .tup [.int .i32 65533, .int .i64 1]) (by kernel_rfl) (by rw [hd, if_neg (by omega)] <;> rfl)
  have l2 : ¬ (191 : Int) < bt s 2 := k4
  clear k4
  repeat first | refine opsStep ?_ | refine codeStep ?_ | refine drawStep ?_
  refine optE_of (c := s[3]) (by simp <;> omega) ?_
  rw [bt_at (show 3 < s.length by omega)]
  iterate 2 refine opsStep ?_
  refine VCode.ent (Ent.fr' (l := [(0, .str s), (4, .int .i64 s.length), (5, .int .u8 (bt s 0)), (8, .int .i64 4), (10, .int .u8 (bt s 1)), (11, .int .u8 (bt s 2)), (12, .int .u8 (bt s 3))]) (H' := [.cells 0 [.int .u8 144, .int .u8 191]]) (by refine ⟨(by kernel_rfl), (by kernel_rfl), (by kernel_rfl), (by kernel_rfl), (by kernel_rfl), ?_⟩; first | exact ⟨(by kernel_rfl), trivial⟩ | exact ⟨(by kernel_rfl), (by kernel_rfl), trivial⟩) (by kernel_rfl)) ?_
  repeat first | refine opsStep ?_ | refine codeStep ?_ | refine drawStep ?_
  refine decB_dec (fun k5 => ?_) (fun k5 => ?_)
  · have l1 : (bt s 3 : Int) < 128 := k5
    clear k5
    repeat first | refine opsStep ?_ | refine codeStep ?_ | refine drawStep ?_
    exact finV (v' := .tup [.int .i32 65533, .int .i64 1]) (by kernel_rfl) (by rw [hd, if_neg (by omega)] <;> rfl)
  have l1 : ¬ (bt s 3 : Int) < 128 := k5
  clear k5
  repeat first | refine opsStep ?_ | refine codeStep ?_ | refine drawStep ?_
  refine decB_dec (fun k6 => ?_) (fun k6 => ?_)
  · have l2 : (191 : Int) < bt s 3 := k6
    clear k6
    repeat first | refine opsStep ?_ | refine codeStep ?_ | refine drawStep ?_
    exact finV (v' := .tup [.int .i32 65533, .int .i64 1]) (by kernel_rfl) (by rw [hd, if_neg (by omega)] <;> rfl)
  have l2 : ¬ (191 : Int) < bt s 3 := k6
  clear k6
  repeat first | refine opsStep ?_ | refine codeStep ?_ | refine drawStep ?_
  exact finV (v' := .tup [.int .i32 (bits .or .i32 (bits .or .i32 (bits .or .i32 (IntKind.wrap .i32 (IntKind.wrap .i32 (bits .and .u8 (bt s 0 : Int) 7) * 2 ^ 18)) (IntKind.wrap .i32 (IntKind.wrap .i32 (bits .and .u8 (bt s 1 : Int) 63) * 2 ^ 12))) (IntKind.wrap .i32 (IntKind.wrap .i32 (bits .and .u8 (bt s 2 : Int) 63) * 2 ^ 6))) (IntKind.wrap .i32 (bits .and .u8 (bt s 3 : Int) 63))), .int .i64 4]) (by kernel_rfl) (by rw [hd, if_pos (by omega), or4 _ _ _ _ hb hb1 hb2 hb3] <;> rfl)
theorem slow_4b (s : Str) (h1 : 240 ≤ bt s 0) (h2 : bt s 0 < 245) (hc : bt s 0 = 244) (hp : 0 < s.length) (hl : s.length < 2^62) : Pure Tryd.prog 132 [.str s] (.tup [.int .i32 (dec s 0).1, .int .i64 (dec s 0).2]) := by
  have hb := bt_lt s 0
  have hb1 := bt_lt s 1
  have hb2 := bt_lt s 2
  have hb3 := bt_lt s 3
  have hx : fstV (bt s 0) = 68 := by unfold fstV; (repeat' split) <;> first | rfl | omega
  have hd := d4 (lo := 128) (hi := 143) h1 h2 (by split <;> first | rfl | omega) (by split <;> first | rfl | omega)
  refine Pure.of_sw 117 Tryd.func132 rfl Tryd.ntmps132 (by kernel_rfl) (Nat.le_of_ble_eq_true (by kernel_rfl)) (by simp [closeds, AV.closed, aSs_closed, aIs_closed, aBs_closed, aRs_closed, aDen_closed]) (by simp [AV.closed, closeds, aSs_closed, aIs_closed, aBs_closed, aRs_closed, aDen_closed]) ?_; refine SW.of_vc ?_
  repeat first | refine opsStep ?_ | refine codeStep ?_ | refine drawStep ?_
  refine decB_dec (fun h0 => ?_) (fun h0 => ?_)
  · exfalso; have : (s.length : Int) < 1 := h0; omega
  repeat first | refine opsStep ?_ | refine codeStep ?_ | refine drawStep ?_
  refine optE_of (c := s[0]) (by simp [hp]) ?_
  repeat first | refine opsStep ?_ | refine codeStep ?_ | refine drawStep ?_
  rw [bt_at hp]
  refine guardE_of ⟨by omega, by show (bt s 0 : Int) < 256; omega⟩ ?_
  repeat first | refine opsStep ?_ | refine codeStep ?_ | refine drawStep ?_
  refine optE_of (c := .int .u8 68) ((byt_at (by omega)).trans (by rw [hx])) ?_
  iterate 2 refine opsStep ?_
  refine VCode.ent (Ent.fr' (l := [(0, .str s), (4, .int .i64 s.length), (5, .int .u8 (bt s 0)), (6, .int .u8 68)]) (H' := []) ⟨(by kernel_rfl), (by kernel_rfl), (by kernel_rfl), (by kernel_rfl), trivial⟩ (by kernel_rfl)) ?_
  repeat first | refine opsStep ?_ | refine codeStep ?_ | refine drawStep ?_
  refine decB_dec (fun h1 => ?_) (fun h1 => ?_)
  · have hl1 : (s.length : Int) < 4 := h1
    clear h1
    repeat first | refine opsStep ?_ | refine codeStep ?_ | refine drawStep ?_
    exact finV (v' := .tup [.int .i32 65533, .int .i64 1]) (by kernel_rfl) (by rw [hd, if_neg (by omega)] <;> rfl)
  have hl1 : ¬ (s.length : Int) < 4 := h1
  clear h1
  refine VCode.ent (Ent.fr' (l := [(0, .str s), (4, .int .i64 s.length), (5, .int .u8 (bt s 0)), (8, .int .i64 4), (9, .ref 0 0 0)]) (H' := [.cells 0 [.int .u8 128, .int .u8 143]]) ⟨(by kernel_rfl), (by kernel_rfl), (by kernel_rfl), (by kernel_rfl), (by kernel_rfl), trivial⟩ (by kernel_rfl)) ?_
  repeat first | refine opsStep ?_ | refine codeStep ?_ | refine drawStep ?_
  refine optE_of (c := s[1]) (by simp <;> omega) ?_
  rw [bt_at (show 1 < s.length by omega)]
  iterate 2 refine opsStep ?_
  refine VCode.ent (Ent.fr' (l := [(0, .str s), (4, .int .i64 s.length), (5, .int .u8 (bt s 0)), (8, .int .i64 4), (9, .ref 0 0 0), (10, .int .u8 (bt s 1))]) (H' := [.cells 0 [.int .u8 128, .int .u8 143]]) ⟨(by kernel_rfl), (by kernel_rfl), (by kernel_rfl), (by kernel_rfl), (by kernel_rfl), (by kernel_rfl), trivial⟩ (by kernel_rfl)) ?_
  repeat first | refine opsStep ?_ | refine codeStep ?_ | refine drawStep ?_
  refine decB_dec (fun k1 => ?_) (fun k1 => ?_)
  · have l1 : (bt s 1 : Int) < 128 := k1
    clear k1
    repeat first | refine opsStep ?_ | refine codeStep ?_ | refine drawStep ?_
    exact finV (v' := .tup [.int .i32 65533, .int .i64 1]) (by kernel_rfl) (by rw [hd, if_neg (by omega)] <;> rfl)
  have l1 : ¬ (bt s 1 : Int) < 128 := k1
  clear k1
  repeat first | refine opsStep ?_ | refine codeStep ?_ | refine drawStep ?_
  refine decB_dec (fun k2 => ?_) (fun k2 => ?_)
  · have l2 : (143 : Int) < bt s 1 := k2
    clear k2
    repeat first | refine opsStep ?_ | refine codeStep ?_ | refine drawStep ?_
    exact finV (v' := .tup [.int .i32 65533, .int .i64 1]) (by kernel_rfl) (by rw [hd, if_neg (by omega)] <;> rfl)
  have l2 : ¬ (143 : Int) < bt s 1 := k2
  clear k2
  refine VCode.ent (Ent.fr' (l := [(0, .str s), (4, .int .i64 s.length), (5, .int .u8 (bt s 0)), (8, .int .i64 4), (9, .ref 0 0 0), (10, .int .u8 (bt s 1))]) (H' := [.cells 0 [.int .u8 128, .int .u8 143]]) ⟨(by kernel_rfl), (by kernel_rfl), (by kernel_rfl), (by kernel_rfl), (by kernel_rfl), (by kernel_rfl), trivial⟩ (by kernel_rfl)) ?_
  repeat first | refine opsStep ?_ | refine codeStep ?_ | refine drawStep ?_
  refine optE_of (c := s[2]) (by simp <;> omega) ?_
  rw [bt_at (show 2 < s.length by omega)]
  iterate 2 refine opsStep ?_
  refine VCode.ent (Ent.fr' (l := [(0, .str s), (4, .int .i64 s.length), (5, .int .u8 (bt s 0)), (8, .int .i64 4), (10, .int .u8 (bt s 1)), (11, .int .u8 (bt s 2))]) (H' := [.cells 0 [.int .u8 128, .int .u8 143]]) (by refine ⟨(by kernel_rfl), (by kernel_rfl), (by kernel_rfl), (by kernel_rfl), (by kernel_rfl), ?_⟩; first | exact ⟨(by kernel_rfl), trivial⟩ | exact ⟨(by kernel_rfl), (by kernel_rfl), trivial⟩) (by kernel_rfl)) ?_
  repeat first | refine opsStep ?_ | refine codeStep ?_ | refine drawStep ?_
  refine decB_dec (fun k3 => ?_) (fun k3 => ?_)
  · have l1 : (bt s 2 : Int) < 128 := k3
    clear k3
    repeat first | refine opsStep ?_ | refine codeStep ?_ | refine drawStep ?_
    exact finV (v' := .tup [.int .i32 65533, .int .i64 1]) (by kernel_rfl) (by rw [hd, if_neg (by omega)] <;> rfl)
  have l1 : ¬ (bt s 2 : Int) < 128 := k3
  clear k3
  repeat first | refine opsStep ?_ | refine codeStep ?_ | refine drawStep ?_
  refine decB_dec (fun k4 => ?_) (fun k4 => ?_)
  · have l2 : (191 : Int) < bt s 2 := k4
    clear k4
    repeat first | refine opsStep ?_ | refine codeStep ?_ | refine drawStep ?_
    exact finV (v' := .tup [.int .i32 65533, .int .i64 1]) (by kernel_rfl) (by rw [hd, if_neg (by omega)] <;> rfl)
  have l2 : ¬ (191 : Int) < bt s 2 := k4
  clear k4
  repeat first | refine opsStep ?_ | refine codeStep ?_ | refine drawStep ?_
  refine optE_of (c := s[3]) (by simp <;> omega) ?_
  rw [bt_at (show 3 < s.length by omega)]
  iterate 2 refine opsStep ?_
  refine VCode.ent (Ent.fr' (l := [(0, .str s), (4, .int .i64 s.length), (5, .int .u8 (bt s 0)), (8, .int .i64 4), (10, .int .u8 (bt s 1)), (11, .int .u8 (bt s 2)), (12, .int .u8 (bt s 3))]) (H' := [.cells 0 [.int .u8 128, .int .u8 143]]) (by refine ⟨(by kernel_rfl), (by kernel_rfl), (by kernel_rfl), (by kernel_rfl), (by kernel_rfl), ?_⟩; first | exact ⟨(by kernel_rfl), trivial⟩ | exact ⟨(by kernel_rfl), (by kernel_rfl), trivial⟩) (by kernel_rfl)) ?_
  repeat first | refine opsStep ?_ | refine codeStep ?_ | refine drawStep ?_
  refine decB_dec (fun k5 => ?_) (fun k5 => ?_)
  · have l1 : (bt s 3 : Int) < 128 := k5
    clear k5
    repeat first | refine opsStep ?_ | refine codeStep ?_ | refine drawStep ?_
    exact finV (v' := .tup [.int .i32 65533, .int .i64 1]) (by kernel_rfl) (by rw [hd, if_neg (by omega)] <;> rfl)
  have l1 : ¬ (bt s 3 : Int) < 128 := k5
  clear k5
  repeat first | refine opsStep ?_ | refine codeStep ?_ | refine drawStep ?_
  refine decB_dec (fun k6 => ?_) (fun k6 => ?_)
  · have l2 : (191 : Int) < bt s 3 := k6
    clear k6
    repeat first | refine opsStep ?_ | refine codeStep ?_ | refine drawStep ?_
    exact finV (v' := .tup [.int .i32 65533, .int .i64 1]) (by kernel_rfl) (by rw [hd, if_neg (by omega)] <;> rfl)
  have l2 : ¬ (191 : Int) < bt s 3 := k6
  clear k6
  repeat first | refine opsStep ?_ | refine codeStep ?_ | refine drawStep ?_
  exact finV (v' := .tup [.int .i32 (bits .or .i32 (bits .or .i32 (bits .or .i32 (IntKind.wrap .i32 (IntKind.wrap .i32 (bits .and .u8 (bt s 0 : Int) 7) * 2 ^ 18)) (IntKind.wrap .i32 (IntKind.wrap .i32 (bits .and .u8 (bt s 1 : Int) 63) * 2 ^ 12))) (IntKind.wrap .i32 (IntKind.wrap .i32 (bits .and .u8 (bt s 2 : Int) 63) * 2 ^ 6))) (IntKind.wrap .i32 (bits .and .u8 (bt s 3 : Int) 63))), .int .i64 4]) (by kernel_rfl) (by rw [hd, if_pos (by omega), or4 _ _ _ _ hb hb1 hb2 hb3] <;> rfl)
theorem slow_4c (s : Str) (h1 : 240 ≤ bt s 0) (h2 : bt s 0 < 245) (hc : bt s 0 ≠ 240 ∧ bt s 0 ≠ 244) (hp : 0 < s.length) (hl : s.length < 2^62) : Pure Tryd.prog 132 [.str s] (.tup [.int .i32 (dec s 0).1, .int .i64 (dec s 0).2]) := by
  have hb := bt_lt s 0
  have hb1 := bt_lt s 1
  have hb2 := bt_lt s 2
  have hb3 := bt_lt s 3
  have hx : fstV (bt s 0) = 4 := by unfold fstV; (repeat' split) <;> first | rfl | omega
  have hd := d4 (lo := 128) (hi := 191) h1 h2 (by split <;> first | rfl | omega) (by split <;> first | rfl | omega)
  refine Pure.of_sw 117 Tryd.func132 rfl Tryd.ntmps132 (by kernel_rfl) (Nat.le_of_ble_eq_true (by kernel_rfl)) (by simp [closeds, AV.closed, aSs_closed, aIs_closed, aBs_closed, aRs_closed, aDen_closed]) (by simp [AV.closed, closeds, aSs_closed, aIs_closed, aBs_closed, aRs_closed, aDen_closed]) ?_; refine SW.of_vc ?_
  repeat first | refine opsStep ?_ | refine codeStep ?_ | refine drawStep ?_
  refine decB_dec (fun h0 => ?_) (fun h0 => ?_)
  · exfalso; have : (s.length : Int) < 1 := h0; omega
  repeat first | refine opsStep ?_ | refine codeStep ?_ | refine drawStep ?_
  refine optE_of (c := s[0]) (by simp [hp]) ?_
  repeat first | refine opsStep ?_ | refine codeStep ?_ | refine drawStep ?_
  rw [bt_at hp]
  refine guardE_of ⟨by omega, by show (bt s 0 : Int) < 256; omega⟩ ?_
  repeat first | refine opsStep ?_ | refine codeStep ?_ | refine drawStep ?_
  refine optE_of (c := .int .u8 4) ((byt_at (by omega)).trans (by rw [hx])) ?_
  iterate 2 refine opsStep ?_
  refine VCode.ent (Ent.fr' (l := [(0, .str s), (4, .int .i64 s.length), (5, .int .u8 (bt s 0)), (6, .int .u8 4)]) (H' := []) ⟨(by kernel_rfl), (by kernel_rfl), (by kernel_rfl), (by kernel_rfl), trivial⟩ (by kernel_rfl)) ?_
  repeat first | refine opsStep ?_ | refine codeStep ?_ | refine drawStep ?_
  refine decB_dec (fun h1 => ?_) (fun h1 => ?_)
  · have hl1 : (s.length : Int) < 4 := h1
    clear h1
    repeat first | refine opsStep ?_ | refine codeStep ?_ | refine drawStep ?_
    exact finV (v' := .tup [.int .i32 65533, .int .i64 1]) (by kernel_rfl) (by rw [hd, if_neg (by omega)] <;> rfl)
  have hl1 : ¬ (s.length : Int) < 4 := h1
  clear h1
  refine VCode.ent (Ent.fr' (l := [(0, .str s), (4, .int .i64 s.length), (5, .int .u8 (bt s 0)), (8, .int .i64 4), (9, .ref 0 0 0)]) (H' := [.cells 0 [.int .u8 128, .int .u8 191]]) ⟨(by kernel_rfl), (by kernel_rfl), (by kernel_rfl), (by kernel_rfl), (by kernel_rfl), trivial⟩ (by kernel_rfl)) ?_
  repeat first | refine opsStep ?_ | refine codeStep ?_ | refine drawStep ?_
  refine optE_of (c := s[1]) (by simp <;> omega) ?_
  rw [bt_at (show 1 < s.length by omega)]
  iterate 2 refine opsStep ?_
  refine VCode.ent (Ent.fr' (l := [(0, .str s), (4, .int .i64 s.length), (5, .int .u8 (bt s 0)), (8, .int .i64 4), (9, .ref 0 0 0), (10, .int .u8 (bt s 1))]) (H' := [.cells 0 [.int .u8 128, .int .u8 191]]) ⟨(by kernel_rfl), (by kernel_rfl), (by kernel_rfl), (by kernel_rfl), (by kernel_rfl), (by kernel_rfl), trivial⟩ (by kernel_rfl)) ?_
  repeat first | refine opsStep ?_ | refine codeStep ?_ | refine drawStep ?_
  refine decB_dec (fun k1 => ?_) (fun k1 => ?_)
  · have l1 : (bt s 1 : Int) < 128 := k1
    clear k1
    repeat first | refine opsStep ?_ | refine codeStep ?_ | refine drawStep ?_
    exact finV (v' := .tup [.int .i32 65533, .int .i64 1]) (by kernel_rfl) (by rw [hd, if_neg (by omega)] <;> rfl)
  have l1 : ¬ (bt s 1 : Int) < 128 := k1
  clear k1
  repeat first | refine opsStep ?_ | refine codeStep ?_ | refine drawStep ?_
  refine decB_dec (fun k2 => ?_) (fun k2 => ?_)
  · have l2 : (191 : Int) < bt s 1 := k2
    clear k2
    repeat first | refine opsStep ?_ | refine codeStep ?_ | refine drawStep ?_
    exact finV (v' := .tup [.int .i32 65533, .int .i64 1]) (by kernel_rfl) (by rw [hd, if_neg (by omega)] <;> rfl)
  have l2 : ¬ (191 : Int) < bt s 1 := k2
  clear k2
  refine VCode.ent (Ent.fr' (l := [(0, .str s), (4, .int .i64 s.length), (5, .int .u8 (bt s 0)), (8, .int .i64 4), (9, .ref 0 0 0), (10, .int .u8 (bt s 1))]) (H' := [.cells 0 [.int .u8 128, .int .u8 191]]) ⟨(by kernel_rfl), (by kernel_rfl), (by kernel_rfl), (by kernel_rfl), (by kernel_rfl), (by kernel_rfl), trivial⟩ (by kernel_rfl)) ?_
  repeat first | refine opsStep ?_ | refine codeStep ?_ | refine drawStep ?_
  refine optE_of (c := s[2]) (by simp <;> omega) ?_
  rw [bt_at (show 2 < s.length by omega)]
  iterate 2 refine opsStep ?_
  refine VCode.ent (Ent.fr' (l := [(0, .str s), (4, .int .i64 s.length), (5, .int .u8 (bt s 0)), (8, .int .i64 4), (10, .int .u8 (bt s 1)), (11, .int .u8 (bt s 2))]) (H' := [.cells 0 [.int .u8 128, .int .u8 191]]) (by refine ⟨(by kernel_rfl), (by kernel_rfl), (by kernel_rfl), (by kernel_rfl), (by kernel_rfl), ?_⟩; first | exact ⟨(by kernel_rfl), trivial⟩ | exact ⟨(by kernel_rfl), (by kernel_rfl), trivial⟩) (by kernel_rfl)) ?_
  repeat first | refine opsStep ?_ | refine codeStep ?_ | refine drawStep ?_
  refine decB_dec (fun k3 => ?_) (fun k3 => ?_)
  · have l1 : (bt s 2 : Int) < 128 := k3
    clear k3
    repeat first | refine opsStep ?_ | refine codeStep ?_ | refine drawStep ?_
    exact finV (v' := .tup [.int .i32 65533, .int .i64 1]) (by kernel_rfl) (by rw [hd, if_neg (by omega)] <;> rfl)
  have l1 : ¬ (bt s 2 : Int) < 128 := k3
  clear k3
  repeat first | refine opsStep ?_ | refine codeStep ?_ | refine drawStep ?_
  refine decB_dec (fun k4 => ?_) (fun k4 => ?_)
  · have l2 : (191 : Int) < bt s 2 := k4
    clear k4
    repeat first | refine opsStep ?_ | refine codeStep ?_ | refine drawStep ?_
    exact finV (v' := .tup [.int .i32 65533, .int .i64 1]) (by kernel_rfl) (by rw [hd, if_neg (by omega)] <;> rfl)
  have l2 : ¬ (191 : Int) < bt s 2 := k4
  clear k4
  repeat first | refine opsStep ?_ | refine codeStep ?_ | refine drawStep ?_
  refine optE_of (c := s[3]) (by simp <;> omega) ?_
  rw [bt_at (show 3 < s.length by omega)]
  iterate 2 refine opsStep ?_
  refine VCode.ent (Ent.fr' (l := [(0, .str s), (4, .int .i64 s.length), (5, .int .u8 (bt s 0)), (8, .int .i64 4), (10, .int .u8 (bt s 1)), (11, .int .u8 (bt s 2)), (12, .int .u8 (bt s 3))]) (H' := [.cells 0 [.int .u8 128, .int .u8 191]]) (by refine ⟨(by kernel_rfl), (by kernel_rfl), (by kernel_rfl), (by kernel_rfl), (by kernel_rfl), ?_⟩; first | exact ⟨(by kernel_rfl), trivial⟩ | exact ⟨(by kernel_rfl), (by kernel_rfl), trivial⟩) (by kernel_rfl)) ?_
  repeat first | refine opsStep ?_ | refine codeStep ?_ | refine drawStep ?_
  refine decB_dec (fun k5 => ?_) (fun k5 => ?_)
  · have l1 : (bt s 3 : Int) < 128 := k5
    clear k5
    repeat first | refine opsStep ?_ | refine codeStep ?_ | refine drawStep ?_
    exact finV (v' := .tup [.int .i32 65533, .int .i64 1]) (by kernel_rfl) (by rw [hd, if_neg (by omega)] <;> rfl)
  have l1 : ¬ (bt s 3 : Int) < 128 := k5
  clear k5
  repeat first | refine opsStep ?_ | refine codeStep ?_ | refine drawStep ?_
  refine decB_dec (fun k6 => ?_) (fun k6 => ?_)
  · have l2 : (191 : Int) < bt s 3 := k6
    clear k6
    repeat first | refine opsStep ?_ | refine codeStep ?_ | refine drawStep ?_
    exact finV (v' := .tup [.int .i32 65533, .int .i64 1]) (by kernel_rfl) (by rw [hd, if_neg (by omega)] <;> rfl)
  have l2 : ¬ (191 : Int) < bt s 3 := k6
  clear k6
  repeat first | refine opsStep ?_ | refine codeStep ?_ | refine drawStep ?_
  exact finV (v' := .tup [.int .i32 (bits .or .i32 (bits .or .i32 (bits .or .i32 (IntKind.wrap .i32 (IntKind.wrap .i32 (bits .and .u8 (bt s 0 : Int) 7) * 2 ^ 18)) (IntKind.wrap .i32 (IntKind.wrap .i32 (bits .and .u8 (bt s 1 : Int) 63) * 2 ^ 12))) (IntKind.wrap .i32 (IntKind.wrap .i32 (bits .and .u8 (bt s 2 : Int) 63) * 2 ^ 6))) (IntKind.wrap .i32 (bits .and .u8 (bt s 3 : Int) 63))), .int .i64 4]) (by kernel_rfl) (by rw [hd, if_pos (by omega), or4 _ _ _ _ hb hb1 hb2 hb3] <;> rfl)

end Tab

/- Decoding of a text's first character. -/
namespace Tab
open Go Go.Proofs
set_option maxRecDepth 10000
set_option linter.unusedVariables false
set_option linter.unusedSimpArgs false
set_option linter.unusedSectionVars false

theorem slow (s : Str) (h : 128 ≤ bt s 0) (hp : 0 < s.length) (hl : s.length < 2^62) : Pure Tryd.prog 132 [.str s] (.tup [.int .i32 (dec s 0).1, .int .i64 (dec s 0).2]) := by
  by_cases c1 : (128 ≤ bt s 0 ∧ bt s 0 < 194) ∨ 245 ≤ bt s 0
  · exact slow_x s c1 hp hl
  by_cases c2 : bt s 0 < 224
  · exact slow_2 s (by omega) c2 hp hl
  by_cases c3 : bt s 0 < 240
  · by_cases e1 : bt s 0 = 224
    · exact slow_3a s (by omega) c3 e1 hp hl
    by_cases e2 : bt s 0 = 237
    · exact slow_3b s (by omega) c3 e2 hp hl
    exact slow_3c s (by omega) c3 ⟨e1, e2⟩ hp hl
  by_cases e1 : bt s 0 = 240
  · exact slow_4a s (by omega) (by omega) e1 hp hl
  by_cases e2 : bt s 0 = 244
  · exact slow_4b s (by omega) (by omega) e2 hp hl
  exact slow_4c s (by omega) (by omega) ⟨e1, e2⟩ hp hl

theorem decodeS (s : Str) (hp : 0 < s.length) (hl : s.length < 2^62) : Pure Tryd.prog 111 [.str s] (.tup [.int .i32 (dec s 0).1, .int .i64 (dec s 0).2]) := by
  have hb := bt_lt s 0
  have hne : decide (s ≠ []) = true := by cases s with
    | nil => simp at hp
    | cons _ _ => simp
  refine Pure.of_sw 19 Tryd.func111 rfl Tryd.ntmps111 (by kernel_rfl) (Nat.le_of_ble_eq_true (by kernel_rfl)) (by simp [closeds, AV.closed, aSs_closed, aIs_closed, aBs_closed, aRs_closed, aDen_closed]) (by simp [AV.closed, closeds, aSs_closed, aIs_closed, aBs_closed, aRs_closed, aDen_closed]) ?_; refine SW.of_vc ?_
  repeat first | refine opsStep ?_ | refine codeStep ?_ | refine drawStep ?_
  refine decB_true (b := decide (s ≠ [])) hne ?_
  repeat first | refine opsStep ?_ | refine codeStep ?_ | refine drawStep ?_
  refine optE_of (c := s[0]) (by simp [hp]) ?_
  repeat first | refine opsStep ?_ | refine codeStep ?_ | refine drawStep ?_
  rw [bt_at hp]
  refine decB_dec (fun h1 => ?_) (fun h1 => ?_)
  · have l1 : (bt s 0 : Int) < 128 := h1
    repeat first | refine opsStep ?_ | refine codeStep ?_ | refine drawStep ?_
    refine optE_of (c := s[0]) (by simp [hp]) ?_
    repeat first | refine opsStep ?_ | refine codeStep ?_ | refine drawStep ?_
    rw [bt_at hp]
    exact finV (v' := .tup [.int .i32 (IntKind.wrap .i32 (bt s 0 : Int)), .int .i64 1]) (by kernel_rfl) (by rw [dec_ascii (by omega), IntWalk.i32_in _ (by omega)]; rfl)
  · have l1 : ¬ (bt s 0 : Int) < 128 := h1
    repeat first | refine opsStep ?_ | refine codeStep ?_ | refine drawStep ?_
    refine callP (slow s (by omega) hp hl) ?_
    repeat first | refine opsStep ?_ | refine codeStep ?_ | refine drawStep ?_
    exact finV (v' := .tup [.int .i32 (dec s 0).1, .int .i64 (dec s 0).2]) (by kernel_rfl) rfl

end Tab

/- A number's digits, a name. -/
namespace Tab
open Go Go.Proofs
set_option maxRecDepth 10000
set_option linter.unusedVariables false
set_option linter.unusedSimpArgs false
set_option linter.unusedSectionVars false

theorem lex_number (t : Str) (hl : t.length < 2^62) (hd : ∀ i, i < t.length → 48 ≤ bt t i ∧ bt t i ≤ 57) : Pure Tryd.prog 116 [.str t] (.tup [.int .i64 ((numS t).getD 0 : Nat), .bool (numS t).isSome]) := by
  refine Pure.of_sw 27 Tryd.func116 rfl Tryd.ntmps116 (by kernel_rfl) (Nat.le_of_ble_eq_true (by kernel_rfl)) (by simp [closeds, AV.closed, aSs_closed, aIs_closed, aBs_closed, aRs_closed, aDen_closed]) (by simp [AV.closed, closeds, aSs_closed, aIs_closed, aBs_closed, aRs_closed, aDen_closed]) ?_; refine SW.of_vc ?_
  repeat first | refine opsStep ?_ | refine codeStep ?_ | refine drawStep ?_
  refine loopE_of (ι := {x : Nat × Nat // numS t = numL x.2 (t.drop x.1) ∧ x.1 ≤ t.length ∧ x.2 < 2^63}) (fun x => (fr [(0, .str t), (4, .int .u64 x.1.2), (9, .ref 0 0 0)], [.siter t x.1.1])) (fun x => t.length - x.1.1)
    ⟨(0, 0), by simp [numS], Nat.zero_le _, by decide⟩ (Ent.fr' ⟨(by kernel_rfl), (by kernel_rfl), (by kernel_rfl), trivial⟩ (by kernel_rfl)) ?_
  rintro ⟨⟨a, n⟩, h1, h2, h3⟩
  simp only at h1 h2 h3
  repeat first | refine opsStep ?_ | refine codeStep ?_ | refine drawStep ?_
  refine decB_dec (fun hp => ?_) (fun hp => ?_)
  · have hp' : a < t.length := hp
    clear hp
    obtain ⟨b1, b2⟩ := hd a hp'
    have e0 : dec t a = (bt t a, 1) := dec_ascii (by omega)
    rw [e0]
    have hc : t.drop a = t[a] :: t.drop (a + 1) := List.drop_eq_getElem_cons hp'
    have hcb : (t[a]).toNat = bt t a := bt_at hp'
    have w1 : IntKind.wrap .u64 (IntKind.wrap .i32 ((bt t a : Int) - 48)) = ((bt t a - 48 : Nat) : Int) := by
      rw [IntWalk.i32_in _ (by omega), IntWalk.u64_in _ (by omega)]; omega
    have w2 : IntKind.wrap .u64 ((IntKind.wrap .u64 (9223372036854775807 - ((bt t a - 48 : Nat) : Int))).tdiv 10) = (((9223372036854775807 - (bt t a - 48)) / 10 : Nat) : Int) := by
      rw [IntWalk.u64_in (9223372036854775807 - ((bt t a - 48 : Nat) : Int)) (by omega)]
      have : (9223372036854775807 - ((bt t a - 48 : Nat) : Int)) = ((9223372036854775807 - (bt t a - 48) : Nat) : Int) := by omega
      rw [this, show ((10 : Int)) = ((10 : Nat) : Int) from rfl, ← Int.ofNat_tdiv]
      exact IntWalk.u64_in _ (by omega)
    rw [hc, numL, hcb] at h1
    repeat first | refine opsStep ?_ | refine codeStep ?_ | refine drawStep ?_
    refine decB_dec (p := (n : Int) > IntKind.wrap .u64 ((IntKind.wrap .u64 (9223372036854775807 - IntKind.wrap .u64 (IntKind.wrap .i32 ((bt t a : Int) - 48)))).tdiv 10)) (fun k => ?_) (fun k => ?_)
    · rw [w1, w2] at k
      repeat first | refine opsStep ?_ | refine codeStep ?_ | refine drawStep ?_
      exact finV (v' := .tup [.int .i64 0, .bool false]) (by kernel_rfl) (by rw [h1, if_pos (by omega)]; rfl)
    · rw [w1, w2] at k
      rw [if_neg (by omega)] at h1
      repeat first | refine opsStep ?_ | refine codeStep ?_ | refine drawStep ?_
      refine ⟨⟨(a + 1, 10 * n + (bt t a - 48)), h1, hp', by simp only; omega⟩, (by show t.length - (a + 1) < t.length - a; omega), Ent.fr' ⟨(by kernel_rfl), ?_, (by kernel_rfl), trivial⟩ (by kernel_rfl)⟩
      show AV.int .u64 (IntKind.wrap .u64 (IntKind.wrap .u64 (10 * (n : Int)) + IntKind.wrap .u64 (IntKind.wrap .i32 ((bt t a : Int) - 48)))) = AV.int .u64 ((10 * n + (bt t a - 48) : Nat) : Int)
      rw [w1, IntWalk.u64_in (10 * (n : Int)) (by omega), IntWalk.u64_in _ (by omega)]
      congr 1
  · have hp' : ¬ a < t.length := hp
    repeat first | refine opsStep ?_ | refine codeStep ?_ | refine drawStep ?_
    exact finV (v' := .tup [.int .i64 (IntKind.wrap .i64 (n : Int)), .bool true]) (by kernel_rfl) (by rw [h1, List.drop_eq_nil_of_le (by omega), numL, IntWalk.i64_in _ (by omega)]; rfl)

abbrev tokC (T : Tok) : List AV := [.int .i64 T.kind, .str T.text, .int .i64 T.num, .int .i64 0, .int .i64 0]
theorem lex_name (t : Str) (n : Nat) (hl : t.length < 2^62) : Pure Tryd.prog 114 [.str t] (.tup [.agg (tokC (nameT t n)), .int .i64 (nameT t n).err]) := by
  refine Pure.of_sw 16 Tryd.func114 rfl Tryd.ntmps114 (by kernel_rfl) (Nat.le_of_ble_eq_true (by kernel_rfl)) (by simp [closeds, AV.closed, aSs_closed, aIs_closed, aBs_closed, aRs_closed, aDen_closed]) (by simp [AV.closed, closeds, aSs_closed, aIs_closed, aBs_closed, aRs_closed, aDen_closed]) ?_; refine SW.of_vc ?_
  repeat first | refine opsStep ?_ | refine codeStep ?_ | refine drawStep ?_
  refine callP (glyph_Reserved t) ?_
  repeat first | refine opsStep ?_ | refine codeStep ?_ | refine drawStep ?_
  refine decB_split (fun h => ?_) (fun h => ?_)
  · repeat first | refine opsStep ?_ | refine codeStep ?_ | refine drawStep ?_
    exact finV (v' := .tup [.agg [.int .i64 2, .str t, .int .i64 0, .int .i64 0, .int .i64 0], .int .i64 0]) (by kernel_rfl) (by rw [nameT, if_pos h]; rfl)
  · repeat first | refine opsStep ?_ | refine codeStep ?_ | refine drawStep ?_
    refine callP (runeCount t hl) ?_
    repeat first | refine opsStep ?_ | refine codeStep ?_ | refine drawStep ?_
    refine decB_dec (fun k => ?_) (fun k => ?_)
    · have k' : (chS t : Int) > 16 := k
      repeat first | refine opsStep ?_ | refine codeStep ?_ | refine drawStep ?_
      exact finV (v' := .tup [.agg [.int .i64 0, .str [], .int .i64 0, .int .i64 0, .int .i64 0], .int .i64 6]) (by kernel_rfl) (by rw [nameT, if_neg (by simp [h]), if_pos (by omega)]; rfl)
    · have k' : ¬ (chS t : Int) > 16 := k
      repeat first | refine opsStep ?_ | refine codeStep ?_ | refine drawStep ?_
      exact finV (v' := .tup [.agg [.int .i64 0, .str t, .int .i64 0, .int .i64 0, .int .i64 0], .int .i64 0]) (by kernel_rfl) (by rw [nameT, if_neg (by simp [h]), if_neg (by omega)]; rfl)

end Tab

/- The signs, cut at blanks. -/
namespace Tab
open Go Go.Proofs
set_option maxRecDepth 10000
set_option linter.unusedVariables false
set_option linter.unusedSimpArgs false
set_option linter.unusedSectionVars false
set_option maxHeartbeats 1000000

def sgB : Str := [60, 45, 62, 32, 60, 61, 32, 62, 61, 32, 33, 61, 32, 45, 62, 32, 40, 32, 41, 32, 91, 32, 93, 32, 44, 32, 46, 32, 43, 32, 45, 32, 42, 32, 61, 32, 60, 32, 62, 32, 126]
def cc (i : Nat) : UInt8 := sgB.getD i 0
def wsA : Nat → Int
  | 0 => 1
  | i + 1 => IntKind.wrap .i64 (spcV (cc i).toNat)
def cnA : Nat → Int
  | 0 => 0
  | i + 1 => IntKind.wrap .i64 (cnA i + IntKind.wrap .i64 ((BitVec.ofInt 64 (wsA i) &&& BitVec.ofInt 64 (IntKind.wrap .i64 ((BitVec.ofInt 64 (-1) ^^^ BitVec.ofInt 64 (wsA (i + 1))).toNat))).toNat))
def sbA : Nat → Int
  | 0 => 0
  | i + 1 => IntKind.wrap .u8 ((BitVec.ofInt 8 (sbA i) ||| BitVec.ofInt 8 ((cc i).toNat : Int)).toNat)
/-- How many signs stand ahead; where the last one began. -/
def naA (i : Nat) : Nat := (sgB.take i).count 32
def fsA : Nat → Nat
  | 0 => 0
  | i + 1 => if cc i = 32 then i + 1 else fsA i
def clL (k : Nat) : List Str := signL.take k ++ List.replicate (18 - k) []
def clA (k : Nat) : List AV := (clL k).map .str

theorem sg_get {i : Nat} (h : i < 41) : sgB[i]? = some (cc i) := by
  have : i < sgB.length := h
  rw [List.getElem?_eq_getElem this, cc, List.getD_eq_getElem?_getD, List.getElem?_eq_getElem this]
  rfl
theorem cc_lt (i : Nat) : (cc i).toNat < 256 := (cc i).toNat_lt
theorem sg_no {i : Nat} (h : i < 41) (e : spcV (cc i).toNat = 0) : naA (i + 1) = naA i ∧ fsA (i + 1) = fsA i := by
  have k : (List.range 41).all (fun i => !decide (spcV (cc i).toNat = 0) || (decide (naA (i + 1) = naA i) && decide (fsA (i + 1) = fsA i))) = true := by kernel_rfl
  have := List.all_eq_true.1 k i (List.mem_range.2 h)
  simpa [e] using this
theorem sg_yes {i : Nat} (h : i < 41) (e : ¬ spcV (cc i).toNat = 0) : naA (i + 1) = naA i + 1 ∧ fsA (i + 1) = i + 1 ∧ fsA i ≤ i ∧ i + 1 < 41 ∧ spcV (cc (i + 1)).toNat = 0 ∧ naA i < 17 ∧ (sgB.drop (fsA i)).take (i - fsA i) = signL.getD (naA i) [] := by
  have k : (List.range 41).all (fun i => decide (spcV (cc i).toNat = 0) || decide (naA (i + 1) = naA i + 1 ∧ fsA (i + 1) = i + 1 ∧ fsA i ≤ i ∧ i + 1 < 41 ∧ spcV (cc (i + 1)).toNat = 0 ∧ naA i < 17 ∧ (sgB.drop (fsA i)).take (i - fsA i) = signL.getD (naA i) [])) = true := by kernel_rfl
  have := List.all_eq_true.1 k i (List.mem_range.2 h)
  simpa only [e, decide_false, Bool.false_or, decide_eq_true_eq] using this
theorem cl_next {k : Nat} (h : k < 18) : over (clA k) k [.str (signL.getD k [])] = clA (k + 1) := by
  have q : (List.range 18).all (fun k => decide ((clL k).set k (signL.getD k []) = clL (k + 1)) && decide (k < (clL k).length)) = true := by kernel_rfl
  have := List.all_eq_true.1 q k (List.mem_range.2 h)
  simp only [Bool.and_eq_true, decide_eq_true_eq] at this
  rw [over_one (by rw [clA, List.length_map]; exact this.2), clA, clA, ← this.1, List.map_set]

theorem cl_len {k : Nat} (h : k ≤ 18) : (clA k).length = 18 := by
  have q : (List.range 19).all (fun k => decide ((clL k).length = 18)) = true := by kernel_rfl
  have := List.all_eq_true.1 q k (List.mem_range.2 (by omega))
  rw [clA, List.length_map]
  simpa using this

theorem fields : Pure Tryd.prog 118 [.str sgB] (aSs .any signL) := by
  refine Pure.of_sw 106 Tryd.func118 rfl Tryd.ntmps118 (by kernel_rfl) (Nat.le_of_ble_eq_true (by kernel_rfl)) (by simp [closeds, AV.closed, aSs_closed, aIs_closed, aBs_closed, aRs_closed, aDen_closed]) (by simp [AV.closed, closeds, aSs_closed, aIs_closed, aBs_closed, aRs_closed, aDen_closed]) ?_; refine SW.of_vc ?_
  repeat first | refine opsStep ?_ | refine codeStep ?_ | refine drawStep ?_
  refine loopE_of (ι := {i : Nat // i ≤ 41}) (fun i => (fr [(0, .str sgB), (3, .int .i64 (cnA i.1)), (4, .int .i64 (wsA i.1)), (5, .int .u8 (sbA i.1)), (6, .int .i64 i.1)], [])) (fun i => 41 - i.1)
    ⟨0, by omega⟩ (Ent.fr' ⟨(by kernel_rfl), (by kernel_rfl), (by kernel_rfl), (by kernel_rfl), (by kernel_rfl), trivial⟩ (by kernel_rfl)) ?_
  rintro ⟨i, hi⟩
  have hcl := cc_lt i
  repeat first | refine opsStep ?_ | refine codeStep ?_ | refine drawStep ?_
  refine decB_dec (fun h => ?_) (fun h => ?_)
  · have hi' : i < 41 := by have : (i : Int) < (41 : Nat) := h; omega
    clear h
    repeat first | refine opsStep ?_ | refine codeStep ?_ | refine drawStep ?_
    refine optE_of (c := cc i) (sg_get hi') ?_
    repeat first | refine opsStep ?_ | refine codeStep ?_ | refine drawStep ?_
    refine guardE_of ⟨by omega, by show ((cc i).toNat : Int) < 256; omega⟩ ?_
    repeat first | refine opsStep ?_ | refine codeStep ?_ | refine drawStep ?_
    refine optE_of (c := .int .u8 (spcV (cc i).toNat)) (byt_at (cc_lt i)) ?_
    repeat first | refine opsStep ?_ | refine codeStep ?_ | refine drawStep ?_
    exact ⟨⟨i + 1, by omega⟩, (by show 41 - (i + 1) < 41 - i; omega), Ent.fr' ⟨(by kernel_rfl), (by kernel_rfl), (by kernel_rfl), (by kernel_rfl), inc_slot (i := i) (by omega), trivial⟩ (by kernel_rfl)⟩
  · have hi' : i = 41 := by have : ¬ (i : Int) < (41 : Nat) := h; omega
    clear h
    subst hi'
    refine VCode.ent (Ent.fr' (l := [(0, .str sgB), (3, .int .i64 18), (5, .int .u8 127)]) (H' := []) ⟨(by kernel_rfl), (by kernel_rfl), (by kernel_rfl), trivial⟩ (by kernel_rfl)) ?_
    repeat first | refine opsStep ?_ | refine codeStep ?_ | refine drawStep ?_
    refine loopE_of (ι := Unit) (fun _ => (fr [(0, .str sgB), (9, .hs 0 0 0 18 1), (10, .int .i64 0), (11, .int .i64 0), (12, .int .i64 0)], [.cells 0 (clA 0)])) (fun _ => 0)
      () (Ent.fr' ⟨(by kernel_rfl), (by kernel_rfl), (by kernel_rfl), (by kernel_rfl), (by kernel_rfl), trivial⟩ (by kernel_rfl)) ?_
    rintro ⟨⟩
    repeat first | refine opsStep ?_ | refine codeStep ?_ | refine drawStep ?_
    refine loopE_of (ι := {i : Nat // i ≤ 41}) (fun i => (fr [(0, .str sgB), (9, .hs 0 0 0 18 1), (10, .int .i64 (naA i.1)), (11, .int .i64 (fsA i.1)), (12, .int .i64 i.1)], [.cells 0 (clA (naA i.1))])) (fun i => 41 - i.1)
      ⟨0, by omega⟩ (Ent.fr' ⟨(by kernel_rfl), (by kernel_rfl), (by kernel_rfl), (by kernel_rfl), (by kernel_rfl), trivial⟩ (by kernel_rfl)) ?_
    rintro ⟨i, hi⟩
    have hcl := cc_lt i
    have hlen : sgB.length = 41 := rfl
    repeat first | refine opsStep ?_ | refine codeStep ?_ | refine drawStep ?_
    refine decB_dec (fun h => ?_) (fun h => ?_)
    · have hi' : i < 41 := by have : (i : Int) < (41 : Nat) := h; omega
      clear h
      repeat first | refine opsStep ?_ | refine codeStep ?_ | refine drawStep ?_
      refine optE_of (c := cc i) (sg_get hi') ?_
      repeat first | refine opsStep ?_ | refine codeStep ?_ | refine drawStep ?_
      refine guardE_of ⟨by omega, by show ((cc i).toNat : Int) < 256; omega⟩ ?_
      repeat first | refine opsStep ?_ | refine codeStep ?_ | refine drawStep ?_
      refine optE_of (c := .int .u8 (spcV (cc i).toNat)) (byt_at (cc_lt i)) ?_
      repeat first | refine opsStep ?_ | refine codeStep ?_ | refine drawStep ?_
      refine decB_dec (fun e => ?_) (fun e => ?_)
      · obtain ⟨e1, e2⟩ := sg_no hi' e
        repeat first | refine opsStep ?_ | refine codeStep ?_ | refine drawStep ?_
        exact ⟨⟨i + 1, by omega⟩, (by show 41 - (i + 1) < 41 - i; omega), Ent.fr' ⟨(by kernel_rfl), (by kernel_rfl), by show AV.int .i64 (naA i : Nat) = AV.int .i64 (naA (i + 1) : Nat); rw [e1], by show AV.int .i64 (fsA i : Nat) = AV.int .i64 (fsA (i + 1) : Nat); rw [e2], inc_slot (i := i) (by omega), trivial⟩ (by show [Blk.cells 0 (clA (naA i))] = [Blk.cells 0 (clA (naA (i + 1)))]; rw [e1])⟩
      · obtain ⟨e1, e2, e3, e4, e5, e6, e7⟩ := sg_yes hi' e
        repeat first | refine opsStep ?_ | refine codeStep ?_ | refine drawStep ?_
        refine guardE_of (by simp; omega) ?_
        repeat first | refine opsStep ?_ | refine codeStep ?_ | refine drawStep ?_
        refine guardE_of ⟨by omega, by show (naA i : Int) < (18 : Nat); omega⟩ ?_
        repeat first | refine opsStep ?_ | refine codeStep ?_ | refine drawStep ?_
        refine guardE_of ⟨rfl, by decide, by show 0 + naA i * 1 + 1 ≤ (clA (naA i)).length; rw [cl_len (by omega)]; omega⟩ ?_
        repeat first | refine opsStep ?_ | refine codeStep ?_ | refine drawStep ?_
        have hov : over (clA (naA i)) (0 + (naA i : Int).toNat * 1) [.str ((sgB.drop (fsA i)).take (i - fsA i))] = clA (naA i + 1) := by
          rw [e7, Int.toNat_natCast, Nat.zero_add, Nat.mul_one]; exact cl_next (by omega)
        refine loopE_of (ι := Unit) (fun _ => (fr [(0, .str sgB), (9, .hs 0 0 0 18 1), (10, .int .i64 ((naA i + 1 : Nat))), (12, .int .i64 ((i + 1 : Nat)))], [.cells 0 (clA (naA i + 1))])) (fun _ => 0)
          () (Ent.fr' ⟨(by kernel_rfl), (by kernel_rfl), inc_slot (i := naA i) (by omega), inc_slot (i := i) (by omega), trivial⟩ (Eq.trans (b := [Blk.cells 0 (over (clA (naA i)) (0 + (naA i : Int).toNat * 1) [.str ((sgB.drop (fsA i)).take (i - fsA i))])]) (by kernel_rfl) (by rw [hov]))) ?_
        rintro ⟨⟩
        have hcl' := cc_lt (i + 1)
        repeat first | refine opsStep ?_ | refine codeStep ?_ | refine drawStep ?_
        refine decB_true (b := decide (((i + 1 : Nat) : Int) < (41 : Nat))) (by simp; omega) ?_
        repeat first | refine opsStep ?_ | refine codeStep ?_ | refine drawStep ?_
        refine optE_of (c := cc (i + 1)) (sg_get e4) ?_
        repeat first | refine opsStep ?_ | refine codeStep ?_ | refine drawStep ?_
        refine guardE_of ⟨by omega, by show ((cc (i + 1)).toNat : Int) < 256; omega⟩ ?_
        repeat first | refine opsStep ?_ | refine codeStep ?_ | refine drawStep ?_
        refine optE_of (c := .int .u8 (spcV (cc (i + 1)).toNat)) (byt_at (cc_lt (i + 1))) ?_
        repeat first | refine opsStep ?_ | refine codeStep ?_ | refine drawStep ?_
        refine decB_false (b := decide (spcV (cc (i + 1)).toNat ≠ 0)) (by simp [e5]) ?_
        repeat first | refine opsStep ?_ | refine codeStep ?_ | refine drawStep ?_
        exact ⟨⟨i + 1, by omega⟩, (by show 41 - (i + 1) < 41 - i; omega), Ent.fr' ⟨(by kernel_rfl), (by kernel_rfl), by show AV.int .i64 (naA i + 1 : Nat) = AV.int .i64 (naA (i + 1) : Nat); rw [e1], by show AV.int .i64 (i + 1 : Nat) = AV.int .i64 (fsA (i + 1) : Nat); rw [e2], (by kernel_rfl), trivial⟩ (by show [Blk.cells 0 (clA (naA i + 1))] = [Blk.cells 0 (clA (naA (i + 1)))]; rw [e1])⟩
    · have hi' : i = 41 := by have : ¬ (i : Int) < (41 : Nat) := h; omega
      clear h
      subst hi'
      refine VCode.ent (Ent.fr' (l := [(0, .str sgB), (9, .hs 0 0 0 18 1), (10, .int .i64 17), (11, .int .i64 40), (12, .int .i64 41)]) (H' := [.cells 0 (clA 17)]) ⟨(by kernel_rfl), (by kernel_rfl), (by kernel_rfl), (by kernel_rfl), (by kernel_rfl), trivial⟩ (by kernel_rfl)) ?_
      repeat first | refine opsStep ?_ | refine codeStep ?_ | refine drawStep ?_
      exact finFrz 2 (g := 0) (b := 0) (es := 1) (by kernel_rfl) (by kernel_rfl) (by kernel_rfl) (by kernel_rfl)

end Tab

/- One word of a text. -/
namespace Tab
open Go Go.Proofs
set_option maxRecDepth 10000
set_option linter.unusedVariables false
set_option linter.unusedSimpArgs false
set_option linter.unusedSectionVars false
set_option maxHeartbeats 1000000

theorem run_dig : ∀ (n : Nat) (s : Str), s.length = n → ∀ i, i < runS digR s → 48 ≤ bt s i ∧ bt s i ≤ 57 := by
  intro n
  induction n using Nat.strongRecOn with
  | _ n ih =>
    intro s hn i hi
    by_cases hs : s.length = 0
    · rw [runS_nil hs] at hi; omega
    cases h : digR (dec s 0).1 with
    | false => rw [runS_no h] at hi; omega
    | true =>
      have hd : 48 ≤ (dec s 0).1 ∧ (dec s 0).1 ≤ 57 := by simp [digR] at h; omega
      have hb := dec_small (s := s) (p := 0) (by omega)
      have e0 := dec_ascii hb
      rw [e0] at hd
      cases i with
      | zero => exact hd
      | succ i =>
        rw [runS_yes hs h, e0] at hi
        have := ih (s.drop 1).length (by rw [List.length_drop]; omega) (s.drop 1) rfl i (by simp only at hi; omega)
        rw [bt_drop, Nat.add_comm 1 i] at this
        exact this
theorem bt_takeN {s : Str} {n i : Nat} (h : i < n) : bt (s.take n) i = bt s i := by
  simp [bt, List.getD_eq_getElem?_getD, List.getElem?_take, h]
theorem find_mid {s t : Str} {L A B : List Str} (hL : L = A ++ t :: B) (hn : (A.find? fun t => t.isPrefixOf s) = none) (h : t.isPrefixOf s = true) : (L.find? fun t => t.isPrefixOf s) = some t := by
  rw [hL, List.find?_append, hn, List.find?_cons, h]
  rfl
theorem signT_some {s t : Str} (h : (signL.find? fun t => t.isPrefixOf s) = some t) : signT s = ⟨2, t, 0, t.length, 0⟩ := by rw [signT, h]
theorem signT_none {s : Str} (h : (signL.find? fun t => t.isPrefixOf s) = none) : signT s = tokBad 51 := by rw [signT, h]


theorem sign_len : ∀ t ∈ signL, t.length ≤ 3 := by
  have : signL.all (fun t => decide (t.length ≤ 3)) = true := by kernel_rfl
  intro t ht
  simpa using List.all_eq_true.1 this t ht

theorem lex_word (s : Str) (hp : 0 < s.length) (hl : s.length < 2^62) : Pure Tryd.prog 87 [.str s] (.tup [.agg (tokC (tokS s)), .int .i64 (tokS s).n, .int .i64 (tokS s).err]) := by
  have hw := dec_width s 0
  refine Pure.of_sw 84 Tryd.func87 rfl Tryd.ntmps87 (by kernel_rfl) (Nat.le_of_ble_eq_true (by kernel_rfl)) (by simp [closeds, AV.closed, aSs_closed, aIs_closed, aBs_closed, aRs_closed, aDen_closed]) (by simp [AV.closed, closeds, aSs_closed, aIs_closed, aBs_closed, aRs_closed, aDen_closed]) ?_; refine SW.of_vc ?_
  repeat first | refine opsStep ?_ | refine codeStep ?_ | refine drawStep ?_
  refine callP (decodeS s hp hl) ?_
  repeat first | refine opsStep ?_ | refine codeStep ?_ | refine drawStep ?_
  refine decB_dec (fun c1 => ?_) (fun c1 => ?_)
  · have c1' : ((dec s 0).1 : Int) = 65533 := c1
    clear c1
    have c1 : (dec s 0).1 = 65533 := by omega
    clear c1'
    repeat first | refine opsStep ?_ | refine codeStep ?_ | refine drawStep ?_
    refine decB_dec (fun c2 => ?_) (fun c2 => ?_)
    · have c2' : ((dec s 0).2 : Int) ≤ 1 := c2
      repeat first | refine opsStep ?_ | refine codeStep ?_ | refine drawStep ?_
      exact finV (v' := .tup [.agg [.int .i64 0, .str [], .int .i64 0, .int .i64 0, .int .i64 0], .int .i64 0, .int .i64 50]) (by kernel_rfl) (by rw [tokS, if_pos ⟨c1, by omega⟩]; rfl)
    · have c2' : ¬ ((dec s 0).2 : Int) ≤ 1 := c2
      clear c2
      have f1 : startR (dec s 0).1 = false := by rw [c1]; unfold startR; decide
      have f2 : digR (dec s 0).1 = false := by rw [c1]; decide
      have f3 : plainS (dec s 0).1 = [] := by rw [c1]; decide
      have hS : tokS s = signT s := by rw [tokS, if_neg (by omega), if_neg (by rw [f1]; simp), if_neg (by rw [f2]; simp), if_neg (by rw [f3]; simp)]
      repeat first | refine opsStep ?_ | refine codeStep ?_ | refine drawStep ?_
      refine callP (glyph_Start _) ?_
      repeat first | refine opsStep ?_ | refine codeStep ?_ | refine drawStep ?_
      refine decB_false (b := startR (dec s 0).1) f1 ?_
      repeat first | refine opsStep ?_ | refine codeStep ?_ | refine drawStep ?_
      refine callP (lex_digit _) ?_
      repeat first | refine opsStep ?_ | refine codeStep ?_ | refine drawStep ?_
      refine decB_false (b := digR (dec s 0).1) f2 ?_
      repeat first | refine opsStep ?_ | refine codeStep ?_ | refine drawStep ?_
      refine callP (glyph_Plain _) ?_
      repeat first | refine opsStep ?_ | refine codeStep ?_ | refine drawStep ?_
      refine decB_false (b := decide (plainS (dec s 0).1 ≠ [])) (by simp [f3]) ?_
      repeat first | refine opsStep ?_ | refine codeStep ?_ | refine drawStep ?_
      refine callP fields ?_
      repeat first | refine opsStep ?_ | refine codeStep ?_ | refine drawStep ?_
      refine loopE_of (ι := {i : Nat // i ≤ 18 ∧ ((signL.take i).find? fun t => t.isPrefixOf s) = none}) (fun i => (fr [(0, .str s), (2, .ref 0 0 0), (69, aSs .any signL), (70, .int .i64 18), (71, .int .i64 i.1)], [.cells 0 (tokC (tokBad 0))])) (fun i => 18 - i.1)
        ⟨0, by omega, rfl⟩ (Ent.fr' ⟨(by kernel_rfl), (by kernel_rfl), (by kernel_rfl), (by kernel_rfl), (by kernel_rfl), trivial⟩ (by kernel_rfl)) ?_
      rintro ⟨i, hi, hn⟩
      repeat first | refine opsStep ?_ | refine codeStep ?_ | refine drawStep ?_
      refine decB_dec (fun h => ?_) (fun h => ?_)
      · have hi' : i < signL.length := by have : (i : Int) < 18 := h; have : signL.length = 18 := rfl; omega
        have hi18 : i < 18 := hi'
        clear h
        have hsp : signL = signL.take i ++ signL[i]'hi' :: signL.drop (i + 1) := by rw [← List.drop_eq_getElem_cons hi', List.take_append_drop]
        have hlen : (signL[i]'hi').length < 2^62 := Nat.lt_of_le_of_lt (sign_len _ (List.getElem_mem hi')) (by decide)
        repeat first | refine opsStep ?_ | refine codeStep ?_ | refine drawStep ?_
        refine guardE_of ⟨by omega, by show (i : Int) < (18 : Nat); omega⟩ ?_
        repeat first | refine opsStep ?_ | refine codeStep ?_ | refine drawStep ?_
        refine optE_of (c := .str (signL[i]'hi')) (by simp [Value.cells, hi']) ?_
        repeat first | refine opsStep ?_ | refine codeStep ?_ | refine drawStep ?_
        refine callP (hasPrefix s (signL[i]'hi') hl hlen) ?_
        repeat first | refine opsStep ?_ | refine codeStep ?_ | refine drawStep ?_
        refine decB_split (fun h => ?_) (fun h => ?_)
        · have hts : tokS s = ⟨2, signL[i]'hi', 0, (signL[i]'hi').length, 0⟩ := hS.trans (signT_some (find_mid hsp hn h))
          repeat first | refine opsStep ?_ | refine codeStep ?_ | refine drawStep ?_
          exact finV (v' := .tup [.agg [.int .i64 2, .str (signL[i]'hi'), .int .i64 0, .int .i64 0, .int .i64 0], .int .i64 (signL[i]'hi').length, .int .i64 0]) (by kernel_rfl) (by rw [hts]; rfl)
        · repeat first | refine opsStep ?_ | refine codeStep ?_ | refine drawStep ?_
          refine ⟨⟨i + 1, by omega, ?_⟩, (by show 18 - (i + 1) < 18 - i; omega), Ent.fr' ⟨(by kernel_rfl), (by kernel_rfl), (by kernel_rfl), (by kernel_rfl), inc_slot (i := i) (by omega), trivial⟩ (by kernel_rfl)⟩
          rw [List.take_succ_eq_append_getElem hi', List.find?_append, hn]
          simp [h]
      · have hi' : i = 18 := by have : ¬ (i : Int) < 18 := h; omega
        clear h
        subst hi'
        have hts : tokS s = tokBad 51 := hS.trans (signT_none (by rw [show signL.take 18 = signL from rfl] at hn; exact hn))
        repeat first | refine opsStep ?_ | refine codeStep ?_ | refine drawStep ?_
        exact finV (v' := .tup [.agg [.int .i64 0, .str [], .int .i64 0, .int .i64 0, .int .i64 0], .int .i64 0, .int .i64 51]) (by kernel_rfl) (by rw [hts]; rfl)
  · have c1' : ¬ ((dec s 0).1 : Int) = 65533 := c1
    clear c1
    have hbad : ¬ ((dec s 0).1 = 65533 ∧ (dec s 0).2 ≤ 1) := by omega
    repeat first | refine opsStep ?_ | refine codeStep ?_ | refine drawStep ?_
    refine callP (glyph_Start _) ?_
    repeat first | refine opsStep ?_ | refine codeStep ?_ | refine drawStep ?_
    refine decB_split (fun h => ?_) (fun h => ?_)
    · have f1 : startR (dec s 0).1 = true := h
      clear h
      have hrl := runS_le restR _ s rfl
      have hT : tokS s = nameT (s.take (runS restR s)) (runS restR s) := by rw [tokS, if_neg hbad, if_pos f1]
      rw [hT]
      have hn : (nameT (s.take (runS restR s)) (runS restR s)).n = runS restR s := by unfold nameT; (repeat' split) <;> rfl
      rw [hn]
      repeat first | refine opsStep ?_ | refine codeStep ?_ | refine drawStep ?_
      refine callP (lex_run s _ restR hl glyph_Rest) ?_
      repeat first | refine opsStep ?_ | refine codeStep ?_ | refine drawStep ?_
      refine guardE_of (by simp; omega) ?_
      repeat first | refine opsStep ?_ | refine codeStep ?_ | refine drawStep ?_
      refine callP (lex_name (s.take (runS restR s)) (runS restR s) (by rw [List.length_take]; omega)) ?_
      generalize nameT (s.take (runS restR s)) (runS restR s) = T
      repeat first | refine opsStep ?_ | refine codeStep ?_ | refine drawStep ?_
      exact finV (v' := .tup [.agg (tokC T), .int .i64 (runS restR s), .int .i64 T.err]) (by kernel_rfl) rfl
    · have f1 : startR (dec s 0).1 = false := h
      clear h
      repeat first | refine opsStep ?_ | refine codeStep ?_ | refine drawStep ?_
      refine callP (lex_digit _) ?_
      repeat first | refine opsStep ?_ | refine codeStep ?_ | refine drawStep ?_
      refine decB_split (fun h => ?_) (fun h => ?_)
      · have f2 : digR (dec s 0).1 = true := h
        clear h
        have hrl := runS_le digR _ s rfl
        have hT : tokS s = (match numS (s.take (runS digR s)) with | some v => ⟨1, [], v, runS digR s, 0⟩ | none => tokBad 52) := by rw [tokS, if_neg hbad, if_neg (by rw [f1]; simp), if_pos f2] <;> rfl
        have hlt : (s.take (runS digR s)).length < 2^62 := by rw [List.length_take]; omega
        have hdg : ∀ i, i < (s.take (runS digR s)).length → 48 ≤ bt (s.take (runS digR s)) i ∧ bt (s.take (runS digR s)) i ≤ 57 := by
          intro i hi
          have hi2 : i < runS digR s := by rw [List.length_take] at hi; omega
          rw [bt_takeN hi2]
          exact run_dig _ s rfl i hi2
        have hcall := lex_number (s.take (runS digR s)) hlt hdg
        cases hv : numS (s.take (runS digR s)) with
        | none =>
          rw [hv] at hcall hT
          repeat first | refine opsStep ?_ | refine codeStep ?_ | refine drawStep ?_
          refine callP (lex_run s _ digR hl lex_digit) ?_
          repeat first | refine opsStep ?_ | refine codeStep ?_ | refine drawStep ?_
          refine guardE_of (by simp; omega) ?_
          repeat first | refine opsStep ?_ | refine codeStep ?_ | refine drawStep ?_
          refine callP hcall ?_
          repeat first | refine opsStep ?_ | refine codeStep ?_ | refine drawStep ?_
          exact finV (v' := .tup [.agg [.int .i64 0, .str [], .int .i64 0, .int .i64 0, .int .i64 0], .int .i64 0, .int .i64 52]) (by kernel_rfl) (by rw [hT]; rfl)
        | some v =>
          rw [hv] at hcall hT
          repeat first | refine opsStep ?_ | refine codeStep ?_ | refine drawStep ?_
          refine callP (lex_run s _ digR hl lex_digit) ?_
          repeat first | refine opsStep ?_ | refine codeStep ?_ | refine drawStep ?_
          refine guardE_of (by simp; omega) ?_
          repeat first | refine opsStep ?_ | refine codeStep ?_ | refine drawStep ?_
          refine callP hcall ?_
          repeat first | refine opsStep ?_ | refine codeStep ?_ | refine drawStep ?_
          exact finV (v' := .tup [.agg [.int .i64 1, .str [], .int .i64 v, .int .i64 0, .int .i64 0], .int .i64 (runS digR s), .int .i64 0]) (by kernel_rfl) (by rw [hT] <;> rfl)
      · have f2 : digR (dec s 0).1 = false := h
        clear h
        repeat first | refine opsStep ?_ | refine codeStep ?_ | refine drawStep ?_
        refine callP (glyph_Plain _) ?_
        repeat first | refine opsStep ?_ | refine codeStep ?_ | refine drawStep ?_
        refine decB_dec (fun f3 => ?_) (fun f3 => ?_)
        · have f3' : plainS (dec s 0).1 ≠ [] := f3
          have hT : tokS s = ⟨2, plainS (dec s 0).1, 0, (dec s 0).2, 0⟩ := by rw [tokS, if_neg hbad, if_neg (by rw [f1]; simp), if_neg (by rw [f2]; simp), if_pos f3']
          repeat first | refine opsStep ?_ | refine codeStep ?_ | refine drawStep ?_
          refine callP (glyph_Plain _) ?_
          repeat first | refine opsStep ?_ | refine codeStep ?_ | refine drawStep ?_
          exact finV (v' := .tup [.agg [.int .i64 2, .str (plainS (dec s 0).1), .int .i64 0, .int .i64 0, .int .i64 0], .int .i64 (dec s 0).2, .int .i64 0]) (by kernel_rfl) (by rw [hT] <;> rfl)
        · have hS : tokS s = signT s := by rw [tokS, if_neg hbad, if_neg (by rw [f1]; simp), if_neg (by rw [f2]; simp), if_neg f3]
          repeat first | refine opsStep ?_ | refine codeStep ?_ | refine drawStep ?_
          refine callP fields ?_
          repeat first | refine opsStep ?_ | refine codeStep ?_ | refine drawStep ?_
          refine loopE_of (ι := {i : Nat // i ≤ 18 ∧ ((signL.take i).find? fun t => t.isPrefixOf s) = none}) (fun i => (fr [(0, .str s), (2, .ref 0 0 0), (69, aSs .any signL), (70, .int .i64 18), (71, .int .i64 i.1)], [.cells 0 (tokC (tokBad 0))])) (fun i => 18 - i.1)
            ⟨0, by omega, rfl⟩ (Ent.fr' ⟨(by kernel_rfl), (by kernel_rfl), (by kernel_rfl), (by kernel_rfl), (by kernel_rfl), trivial⟩ (by kernel_rfl)) ?_
          rintro ⟨i, hi, hn⟩
          repeat first | refine opsStep ?_ | refine codeStep ?_ | refine drawStep ?_
          refine decB_dec (fun h => ?_) (fun h => ?_)
          · have hi' : i < signL.length := by have : (i : Int) < 18 := h; have : signL.length = 18 := rfl; omega
            have hi18 : i < 18 := hi'
            clear h
            have hsp : signL = signL.take i ++ signL[i]'hi' :: signL.drop (i + 1) := by rw [← List.drop_eq_getElem_cons hi', List.take_append_drop]
            have hlen : (signL[i]'hi').length < 2^62 := Nat.lt_of_le_of_lt (sign_len _ (List.getElem_mem hi')) (by decide)
            repeat first | refine opsStep ?_ | refine codeStep ?_ | refine drawStep ?_
            refine guardE_of ⟨by omega, by show (i : Int) < (18 : Nat); omega⟩ ?_
            repeat first | refine opsStep ?_ | refine codeStep ?_ | refine drawStep ?_
            refine optE_of (c := .str (signL[i]'hi')) (by simp [Value.cells, hi']) ?_
            repeat first | refine opsStep ?_ | refine codeStep ?_ | refine drawStep ?_
            refine callP (hasPrefix s (signL[i]'hi') hl hlen) ?_
            repeat first | refine opsStep ?_ | refine codeStep ?_ | refine drawStep ?_
            refine decB_split (fun h => ?_) (fun h => ?_)
            · have hts : tokS s = ⟨2, signL[i]'hi', 0, (signL[i]'hi').length, 0⟩ := hS.trans (signT_some (find_mid hsp hn h))
              repeat first | refine opsStep ?_ | refine codeStep ?_ | refine drawStep ?_
              exact finV (v' := .tup [.agg [.int .i64 2, .str (signL[i]'hi'), .int .i64 0, .int .i64 0, .int .i64 0], .int .i64 (signL[i]'hi').length, .int .i64 0]) (by kernel_rfl) (by rw [hts]; rfl)
            · repeat first | refine opsStep ?_ | refine codeStep ?_ | refine drawStep ?_
              refine ⟨⟨i + 1, by omega, ?_⟩, (by show 18 - (i + 1) < 18 - i; omega), Ent.fr' ⟨(by kernel_rfl), (by kernel_rfl), (by kernel_rfl), (by kernel_rfl), inc_slot (i := i) (by omega), trivial⟩ (by kernel_rfl)⟩
              rw [List.take_succ_eq_append_getElem hi', List.find?_append, hn]
              simp [h]
          · have hi' : i = 18 := by have : ¬ (i : Int) < 18 := h; omega
            clear h
            subst hi'
            have hts : tokS s = tokBad 51 := hS.trans (signT_none (by rw [show signL.take 18 = signL from rfl] at hn; exact hn))
            repeat first | refine opsStep ?_ | refine codeStep ?_ | refine drawStep ?_
            exact finV (v' := .tup [.agg [.int .i64 0, .str [], .int .i64 0, .int .i64 0, .int .i64 0], .int .i64 0, .int .i64 51]) (by kernel_rfl) (by rw [hts]; rfl)

end Tab

/- The words of a text. -/
namespace Tab
open Go Go.Proofs
set_option maxRecDepth 10000
set_option linter.unusedVariables false
set_option linter.unusedSimpArgs false
set_option linter.unusedSectionVars false
set_option maxHeartbeats 1000000

def wdC (w : Wd) : List AV := [.int .i64 w.kind, .str w.text, .int .i64 w.num, .int .i64 w.at', .int .i64 w.ch]
def fltC (f : Flt) : List AV := [.int .i64 f.why, .int .i64 f.at', .int .i64 f.ch]
def wdsC (l : List Wd) : List AV := l.flatMap wdC
def aWs (k : SK) (l : List Wd) : AV := .sl k l.length (wdsC l)
theorem wdsC_len (l : List Wd) : (wdsC l).length = l.length * 5 := by
  induction l with
  | nil => rfl
  | cons w l ih => simp only [wdsC, List.flatMap_cons, List.length_append, List.length_cons, wdC, List.length_nil] at ih ⊢; omega
theorem wdC_closed (w : Wd) : closeds (wdC w) := by simp [wdC, closeds, AV.closed]
theorem wdsC_closed (l : List Wd) : closeds (wdsC l) := closeds_iff.2 fun a h => by
  obtain ⟨w, _, hw⟩ := List.mem_flatMap.1 h
  exact closeds_iff.1 (wdC_closed w) a hw
theorem aWs_closed (k : SK) (l : List Wd) : (aWs k l).closed := by show (AV.sl _ _ _).closed; simp only [AV.closed]; exact wdsC_closed l
theorem fltC_closed (f : Flt) : closeds (fltC f) := by simp [fltC, closeds, AV.closed]

theorem wdsC_bel (n : Nat) (l : List Wd) : bels n (wdsC l) := by
  induction l with
  | nil => simp [wdsC, bels]
  | cons w l ih =>
    rw [wdsC, List.flatMap_cons, bels_append]
    exact ⟨by simp [wdC, bels, AV.bel], ih⟩
def comb (W : List Wd) (r : List Wd × Flt) : List Wd × Flt := if r.2.why ≠ 0 then ([], r.2) else (W ++ r.1, r.2)
def wdT (t : Tok) (a c : Nat) : Wd := ⟨t.kind, t.text, t.num, a, c⟩
structure LxInv (s : Str) (f a ch ct : Nat) (W : List Wd) : Prop where
  eq : lexS s = comb W (lexL s f a ch ct)
  fuel : s.length < f + a
  le : ct ≤ a
  len : a ≤ s.length
  chs : ch ≤ ct
  wds : W.length ≤ a
theorem LxInv.start {s : Str} (hl : s.length ≤ 4096) : LxInv s (s.length + 1) (runS blankR s) 0 0 [] := by
  have := runS_le blankR _ s rfl
  refine ⟨?_, by omega, by omega, by omega, by omega, by simp⟩
  rw [lexS, if_neg (by omega)]
  generalize hr : lexL s (s.length + 1) (runS blankR s) 0 0 = r
  rw [comb]
  by_cases h : r.2.why ≠ 0
  · rw [if_pos h]
    have : ∀ f a ch ct, (lexL s f a ch ct).2.why ≠ 0 → (lexL s f a ch ct).1 = [] := by
      intro f
      induction f with
      | zero => intro a ch ct h; exact absurd rfl h
      | succ f ih =>
        intro a ch ct h
        rw [lexL] at h ⊢
        simp only at h ⊢
        split at h
        · exact absurd rfl h
        · rename_i h1
          rw [if_neg h1]
          split at h
          · rename_i h2; rw [if_pos h2]
          · rename_i h2
            rw [if_neg h2]
            split at h
            · rename_i h3; rw [if_pos h3]
            · rename_i h3; exact absurd h h3
    rw [← hr] at h ⊢
    exact Prod.ext (this _ _ _ _ h) rfl
  · rw [if_neg h]; rfl
theorem LxInv.stop {s : Str} {f a ch ct W} (h : LxInv s f a ch ct W) (ha : ¬ a < s.length) : lexS s = (W, flt0) := by
  have := h.fuel
  have := h.len
  obtain ⟨g, rfl⟩ : ∃ g, f = g + 1 := ⟨f - 1, by omega⟩
  rw [h.eq, lexL, if_pos (by omega), comb, if_neg (by simp [flt0])]
  simp
def chA (s : Str) (a ch ct : Nat) : Nat := ch + chS ((s.drop ct).take (a - ct))
theorem LxInv.ch_le {s : Str} {f a ch ct W} (h : LxInv s f a ch ct W) : chA s a ch ct ≤ a := by
  have h1 := h.chs
  have h2 := h.le
  have := chS_le _ ((s.drop ct).take (a - ct)) rfl
  rw [List.length_take] at this
  rw [chA]
  omega
theorem LxInv.bad {s : Str} {f a ch ct W} (h : LxInv s f a ch ct W) (ha : a < s.length) (he : (tokS (s.drop a)).err ≠ 0) : lexS s = ([], ⟨(tokS (s.drop a)).err, a, chA s a ch ct⟩) := by
  have := h.fuel
  obtain ⟨g, rfl⟩ : ∃ g, f = g + 1 := ⟨f - 1, by omega⟩
  rw [h.eq, lexL, if_neg (by omega)]
  simp only [take_drop']
  rw [if_pos he, comb, if_pos he]
  rfl
theorem lexL_go {s : Str} {g a ch ct : Nat} (ha : ¬ s.length ≤ a) (he : (tokS (s.drop a)).err = 0) : lexL s (g + 1) a ch ct =
    if (lexL s g (a + (tokS (s.drop a)).n + runS blankR (s.drop (a + (tokS (s.drop a)).n))) (chA s a ch ct) a).2.why ≠ 0 then ([], (lexL s g (a + (tokS (s.drop a)).n + runS blankR (s.drop (a + (tokS (s.drop a)).n))) (chA s a ch ct) a).2)
    else (wdT (tokS (s.drop a)) a (chA s a ch ct) :: (lexL s g (a + (tokS (s.drop a)).n + runS blankR (s.drop (a + (tokS (s.drop a)).n))) (chA s a ch ct) a).1, (lexL s g (a + (tokS (s.drop a)).n + runS blankR (s.drop (a + (tokS (s.drop a)).n))) (chA s a ch ct) a).2) := by
  rw [lexL, if_neg ha]
  simp only [take_drop']
  rw [if_neg (by rw [he]; simp)]
  rfl
theorem LxInv.next {s : Str} {f a ch ct W} (h : LxInv s f a ch ct W) (ha : a < s.length) (he : (tokS (s.drop a)).err = 0) :
    1 ≤ (tokS (s.drop a)).n ∧ a + (tokS (s.drop a)).n ≤ s.length ∧ LxInv s (f - 1) (a + (tokS (s.drop a)).n + runS blankR (s.drop (a + (tokS (s.drop a)).n))) (chA s a ch ct) a (W ++ [wdT (tokS (s.drop a)) a (chA s a ch ct)]) := by
  have hf := h.fuel
  have hc := h.ch_le
  have hw := h.wds
  have hle := h.le
  obtain ⟨k1, k2, _⟩ := tok_cut (x := s.drop a) (by rw [List.length_drop]; omega) he
  have k3 := k1.le
  rw [List.length_drop] at k3
  have hr := runS_le blankR _ (s.drop (a + (tokS (s.drop a)).n)) rfl
  rw [List.length_drop] at hr
  refine ⟨k2, by omega, ?_, by omega, by omega, by omega, by omega, by simp; omega⟩
  obtain ⟨g, rfl⟩ : ∃ g, f = g + 1 := ⟨f - 1, by omega⟩
  rw [h.eq, lexL_go (by omega) he, Nat.add_sub_cancel]
  generalize lexL s g (a + (tokS (s.drop a)).n + runS blankR (s.drop (a + (tokS (s.drop a)).n))) (chA s a ch ct) a = r
  by_cases hr : r.2.why ≠ 0
  · rw [if_pos hr, comb, comb, if_pos hr, if_pos hr]
  · rw [if_neg hr, comb, comb, if_neg hr, if_neg hr, List.append_assoc]
    rfl

theorem lex_Words (s : Str) (hl : s.length < 2^62) : Pure Tryd.prog 59 [.str s] (.tup [aWs .any (lexS s).1, .agg (fltC (lexS s).2)]) := by
  refine Pure.of_sw 63 Tryd.func59 rfl Tryd.ntmps59 (by kernel_rfl) (Nat.le_of_ble_eq_true (by kernel_rfl)) (by simp [closeds, AV.closed]) (by simp only [AV.closed, closeds]; exact ⟨aWs_closed _ _, fltC_closed _, trivial⟩) ?_
  refine SW.of_vc ?_
  repeat first | refine opsStep ?_ | refine codeStep ?_ | refine drawStep ?_
  refine decB_dec (fun h0 => ?_) (fun h0 => ?_)
  · have h0' : (s.length : Int) > 4096 := h0
    clear h0
    repeat first | refine opsStep ?_ | refine codeStep ?_ | refine drawStep ?_
    refine ⟨_, _, (Ent.fr' (l := [(2, .sl .nil 0 []), (3, .ref 0 0 0)]) (H' := [.cells 0 (fltC ⟨70, 0, 0⟩)]) ⟨(by kernel_rfl), (by kernel_rfl), trivial⟩ (by kernel_rfl)).trans (Ent.slotTo (y := .sl .any 0 []) 2 rfl (fun _ _ _ _ h => sl_any h)), ?_⟩
    rw [lexS, if_pos (by omega)]
    kernel_rfl
  have h0' : ¬ (s.length : Int) > 4096 := h0
  clear h0
  have hlen : s.length ≤ 4096 := by omega
  repeat first | refine opsStep ?_ | refine codeStep ?_ | refine drawStep ?_
  refine callP (lex_run s _ blankR hl glyph_Blank) ?_
  repeat first | refine opsStep ?_ | refine codeStep ?_ | refine drawStep ?_
  refine loopE_of (ι := {x : Nat × Nat × Nat × Nat × List Wd // LxInv s x.1 x.2.1 x.2.2.1 x.2.2.2.1 x.2.2.2.2}) (fun x => (fr [(0, .str s), (3, .ref 0 0 0), (4, .hs 1 x.1.2.2.2.2.length 0 x.1.2.2.2.2.length 5), (5, .int .i64 x.1.2.2.1), (6, .int .i64 x.1.2.2.2.1), (7, .int .i64 x.1.2.1)], [.cells 0 (fltC flt0), .cells x.1.2.2.2.2.length (wdsC x.1.2.2.2.2)])) (fun x => s.length - x.1.2.1)
    ⟨(s.length + 1, runS blankR s, 0, 0, []), LxInv.start hlen⟩ (((Ent.fr' (l := [(0, .str s), (3, .ref 0 0 0), (4, .sl .nil 0 []), (5, .int .i64 0), (6, .int .i64 0), (7, .int .i64 (runS blankR s))]) (H' := [.cells 0 (fltC flt0)]) ⟨(by kernel_rfl), (by kernel_rfl), (by kernel_rfl), (by kernel_rfl), (by kernel_rfl), (by kernel_rfl), trivial⟩ (by kernel_rfl)).trans (Ent.nil 4 5 rfl)).trans (Ent.fr' ⟨(by kernel_rfl), (by kernel_rfl), (by kernel_rfl), (by kernel_rfl), (by kernel_rfl), (by kernel_rfl), trivial⟩ (by kernel_rfl))) ?_
  rintro ⟨⟨f, a, ch, ct, W⟩, hi⟩
  simp only at hi
  have h1 := hi.le
  have h2 := hi.len
  have h3 := hi.chs
  have h4 := hi.wds
  have h5 := hi.ch_le
  repeat first | refine opsStep ?_ | refine codeStep ?_ | refine drawStep ?_
  refine decB_dec (fun h => ?_) (fun h => ?_)
  · have ha : a < s.length := by have : (a : Int) < s.length := h; omega
    clear h
    have hcr : IntKind.wrap .i64 ((ch : Int) + (chS ((s.drop ct).take (a - ct)) : Nat)) = ((chA s a ch ct : Nat) : Int) := by
      rw [IntWalk.i64_in _ (by rw [chA] at h5; omega)]; rfl
    have hd0 : 0 < (s.drop a).length := by rw [List.length_drop]; omega
    have hd1 : (s.drop a).length < 2^62 := by rw [List.length_drop]; omega
    repeat first | refine opsStep ?_ | refine codeStep ?_ | refine drawStep ?_
    refine guardE_of (by simp; omega) ?_
    repeat first | refine opsStep ?_ | refine codeStep ?_ | refine drawStep ?_
    refine callP (runeCount ((s.drop ct).take (a - ct)) (by rw [List.length_take]; omega)) ?_
    repeat first | refine opsStep ?_ | refine codeStep ?_ | refine drawStep ?_
    refine guardE_of (by simp; omega) ?_
    have htk : (s.drop a).take (s.length - a) = s.drop a := List.take_of_length_le (by rw [List.length_drop]; omega)
    have hcall : Pure Tryd.prog 87 [.str ((s.drop a).take (s.length - a))] (.tup [.agg (tokC (tokS (s.drop a))), .int .i64 (tokS (s.drop a)).n, .int .i64 (tokS (s.drop a)).err]) := by
      rw [htk]; exact lex_word _ hd0 hd1
    repeat first | refine opsStep ?_ | refine codeStep ?_ | refine drawStep ?_
    refine callP hcall ?_
    repeat first | refine opsStep ?_ | refine codeStep ?_ | refine drawStep ?_
    refine decB_dec (fun he => ?_) (fun he => ?_)
    · have he' : (tokS (s.drop a)).err ≠ 0 := he
      clear he
      refine VCode.ent (Ent.fr' (l := [(3, .ref 0 0 0), (8, .ref 2 0 0), (11, .int .i64 (tokS (s.drop a)).err)]) (H' := [.cells 0 (fltC flt0), .cells W.length (wdsC W), .cells 0 [.int .i64 a, .int .i64 (chA s a ch ct : Nat)], .cells 0 (tokC (tokS (s.drop a)))]) ⟨(by kernel_rfl), (by kernel_rfl), (by kernel_rfl), trivial⟩ (Eq.trans (b := [.cells 0 (fltC flt0), .cells W.length (wdsC W), .cells 0 [.int .i64 a, .int .i64 (IntKind.wrap .i64 ((ch : Int) + (chS ((s.drop ct).take (a - ct)) : Nat)))], .cells 0 (tokC (tokS (s.drop a)))]) (by kernel_rfl) (by rw [hcr]))) ?_
      repeat first | refine opsStep ?_ | refine codeStep ?_ | refine drawStep ?_
      refine SW.drawn rfl (by kernel_rfl) ?_
      repeat first | refine opsStep ?_ | refine codeStep ?_ | refine drawStep ?_
      refine ⟨by kernel_rfl, ?_⟩
      repeat first | refine opsStep ?_ | refine codeStep ?_ | refine drawStep ?_
      have hE := hi.bad ha he'
      refine ⟨_, _, (Ent.fr' (l := [(2, .sl .nil 0 []), (3, .ref 0 0 0)]) (H' := [.cells 0 (fltC ⟨(tokS (s.drop a)).err, a, chA s a ch ct⟩), .cells W.length (wdsC W), .cells 0 [.int .i64 a, .int .i64 (chA s a ch ct : Nat)], .cells 0 (tokC (tokS (s.drop a)))]) ⟨(by kernel_rfl), (by kernel_rfl), trivial⟩ (by kernel_rfl)).trans (Ent.slotTo (y := .sl .any 0 []) 2 rfl (fun _ _ _ _ h => sl_any h)), ?_⟩
      rw [hE]
      kernel_rfl
    · have he' : (tokS (s.drop a)).err = 0 := Decidable.of_not_not he
      clear he
      have hN := hi.next ha he'
      have n1 := hN.1
      have n2 := hN.2.1
      have hnx := hN.2.2
      clear hN
      have htd : ((wdsC W).drop 0).take (W.length * 5) = wdsC W := by rw [List.drop_zero, List.take_of_length_le (by rw [wdsC_len]; omega)]
      have hsn : ∀ x : Wd, wdsC (W ++ [x]) = wdsC W ++ wdC x := fun x => by simp [wdsC]
      have han : IntKind.wrap .i64 ((a : Int) + ((tokS (s.drop a)).n : Nat)) = ((a + (tokS (s.drop a)).n : Nat) : Int) := by rw [IntWalk.i64_in _ (by omega)]; simp
      have hrl := runS_le blankR _ (s.drop (a + (tokS (s.drop a)).n)) rfl
      rw [List.length_drop] at hrl
      have har : IntKind.wrap .i64 (((a + (tokS (s.drop a)).n : Nat) : Int) + (runS blankR (s.drop (a + (tokS (s.drop a)).n)) : Nat)) = ((a + (tokS (s.drop a)).n + runS blankR (s.drop (a + (tokS (s.drop a)).n)) : Nat) : Int) := by rw [IntWalk.i64_in _ (by omega)]; simp
      refine VCode.ent (Ent.fr' (l := [(0, .str s), (3, .ref 0 0 0), (4, .hs 1 W.length 0 W.length 5), (5, .int .i64 (chA s a ch ct : Nat)), (6, .int .i64 a), (7, .int .i64 a), (8, .ref 2 0 0), (9, .ref 3 0 0), (10, .int .i64 (tokS (s.drop a)).n)]) (H' := [.cells 0 (fltC flt0), .cells W.length (wdsC W), .cells 0 [.int .i64 a, .int .i64 (chA s a ch ct : Nat)], .cells 0 (tokC (tokS (s.drop a)))]) ⟨(by kernel_rfl), (by kernel_rfl), (by kernel_rfl), congrArg (AV.int .i64) hcr, (by kernel_rfl), (by kernel_rfl), (by kernel_rfl), (by kernel_rfl), (by kernel_rfl), trivial⟩ (Eq.trans (b := [.cells 0 (fltC flt0), .cells W.length (wdsC W), .cells 0 [.int .i64 a, .int .i64 (IntKind.wrap .i64 ((ch : Int) + (chS ((s.drop ct).take (a - ct)) : Nat)))], .cells 0 (tokC (tokS (s.drop a)))]) (by kernel_rfl) (by rw [hcr]))) ?_
      repeat first | refine opsStep ?_ | refine codeStep ?_ | refine drawStep ?_
      refine guardE_of ⟨rfl, by rw [wdsC_len]; omega⟩ ?_
      refine guardE_of rfl ?_
      refine guardE_of ⟨by show W.length + 1 ≤ 9223372036854775807; omega, by show (W.length + 1) * 48 ≤ 140737488355328; omega⟩ ?_
      iterate 2 refine opsStep ?_
      refine VCode.ent (Ent.frD (l := [(0, .str s), (3, .ref 0 0 0), (4, .hs 1 (W.length + 1) 0 (W.length + 1) 5), (5, .int .i64 (chA s a ch ct : Nat)), (6, .int .i64 a), (7, .int .i64 a), (10, .int .i64 (tokS (s.drop a)).n)])
        (H' := [.cells 0 (fltC flt0), .cells (W.length + 1) (wdsC (W ++ [wdT (tokS (s.drop a)) a (chA s a ch ct)]))])
        (X := [.cells 0 [.int .i64 a, .int .i64 (chA s a ch ct : Nat)], .cells 0 (wdC (wdT (tokS (s.drop a)) a (chA s a ch ct))), .cells 0 (wdC (wdT (tokS (s.drop a)) a (chA s a ch ct)))])
        ⟨(by kernel_rfl), (by kernel_rfl), (by kernel_rfl), (by kernel_rfl), (by kernel_rfl), (by kernel_rfl), (by kernel_rfl), trivial⟩ (Eq.trans (b := [.cells 0 (fltC flt0), .cells (W.length + 1) (((wdsC W).drop 0).take (W.length * 5) ++ wdC (wdT (tokS (s.drop a)) a (chA s a ch ct))), .cells 0 [.int .i64 a, .int .i64 (chA s a ch ct : Nat)], .cells 0 (wdC (wdT (tokS (s.drop a)) a (chA s a ch ct))), .cells 0 (wdC (wdT (tokS (s.drop a)) a (chA s a ch ct)))]) (by kernel_rfl) (by rw [htd, hsn]; rfl)) (Nat.zero_le _)
        (by simp [frBel, AV.bel]) (by simp only [blksBel, Blk.bel, List.length_cons, List.length_nil]; exact ⟨by simp [fltC, bels, AV.bel], wdsC_bel _ _, trivial⟩)) ?_
      repeat first | refine opsStep ?_ | refine codeStep ?_ | refine drawStep ?_
      refine guardE_of (by show (0 : Int) ≤ IntKind.wrap .i64 ((a : Int) + ((tokS (s.drop a)).n : Nat)) ∧ IntKind.wrap .i64 ((a : Int) + ((tokS (s.drop a)).n : Nat)) ≤ (s.length : Int) ∧ (s.length : Int) ≤ s.length; rw [han]; omega) ?_
      have hcall2 : Pure Tryd.prog 85 [.str ((s.drop (IntKind.wrap .i64 ((a : Int) + ((tokS (s.drop a)).n : Nat))).toNat).take (s.length - (IntKind.wrap .i64 ((a : Int) + ((tokS (s.drop a)).n : Nat))).toNat)), .fn (.func 86) [] []] (.int .i64 (runS blankR (s.drop (a + (tokS (s.drop a)).n)))) := by
        rw [han, Int.toNat_natCast, List.take_of_length_le (by rw [List.length_drop]; omega)]
        exact lex_run _ _ blankR (by rw [List.length_drop]; omega) glyph_Blank
      repeat first | refine opsStep ?_ | refine codeStep ?_ | refine drawStep ?_
      refine callP hcall2 ?_
      repeat first | refine opsStep ?_ | refine codeStep ?_ | refine drawStep ?_
      refine ⟨⟨(f - 1, a + (tokS (s.drop a)).n + runS blankR (s.drop (a + (tokS (s.drop a)).n)), chA s a ch ct, a, W ++ [wdT (tokS (s.drop a)) a (chA s a ch ct)]), hnx⟩, (by show s.length - (a + (tokS (s.drop a)).n + runS blankR (s.drop (a + (tokS (s.drop a)).n))) < s.length - a; omega), Ent.fr' ⟨(by kernel_rfl), (by kernel_rfl), ?_, (by kernel_rfl), (by kernel_rfl), ?_, trivial⟩ ?_⟩
      · show AV.hs 1 (W.length + 1) 0 (W.length + 1) 5 = AV.hs 1 (W ++ [wdT (tokS (s.drop a)) a (chA s a ch ct)]).length 0 (W ++ [wdT (tokS (s.drop a)) a (chA s a ch ct)]).length 5
        rw [List.length_append]; rfl
      · show AV.int .i64 (IntKind.wrap .i64 (IntKind.wrap .i64 ((a : Int) + ((tokS (s.drop a)).n : Nat)) + (runS blankR (s.drop (a + (tokS (s.drop a)).n)) : Nat))) = _
        rw [han, har]
      · show [Blk.cells 0 (fltC flt0), .cells (W.length + 1) (wdsC (W ++ [wdT (tokS (s.drop a)) a (chA s a ch ct)]))] = [Blk.cells 0 (fltC flt0), .cells (W ++ [wdT (tokS (s.drop a)) a (chA s a ch ct)]).length (wdsC (W ++ [wdT (tokS (s.drop a)) a (chA s a ch ct)]))]
        rw [List.length_append]; rfl
  · have ha : ¬ a < s.length := by have : ¬ (a : Int) < s.length := h; omega
    clear h
    have hE := hi.stop ha
    repeat first | refine opsStep ?_ | refine codeStep ?_ | refine drawStep ?_
    refine ⟨_, _, (Ent.fr' (l := [(2, .hs 1 W.length 0 W.length 5), (3, .ref 0 0 0)]) (H' := [.cells 0 (fltC flt0), .cells W.length (wdsC W)]) ⟨(by kernel_rfl), (by kernel_rfl), trivial⟩ (by kernel_rfl)).trans (Ent.freeze (n := W.length) (cs := wdsC W) (es := 5) (g := W.length) (b := 1) 2 rfl rfl (wdsC_len W).symm), ?_⟩
    rw [hE]
    kernel_rfl

end Tab

/- Words, places and faults are held against each other. -/
namespace Tab
open Go Go.Proofs
set_option maxRecDepth 10000
set_option linter.unusedVariables false
set_option linter.unusedSimpArgs false
set_option linter.unusedSectionVars false

def okJ (x : Int) : Prop := -9223372036854775808 ≤ x ∧ x ≤ 9223372036854775807
instance (x : Int) : Decidable (okJ x) := inferInstanceAs (Decidable (_ ∧ _))
theorem wfJ {x : Int} (h : okJ x) : (Lit.int .i64 x).wf = true := by
  obtain ⟨h1, h2⟩ := h
  simp only [Lit.wf, Bool.and_eq_true, decide_eq_true_eq, show IntKind.i64.min = -9223372036854775808 from rfl, show IntKind.i64.max = 9223372036854775807 from rfl]
  omega
theorem litI {t : TypeId} (hu : Tryd.prog.underlying t = some (.int .i64)) (n : Nat) {x : Int} (h : okJ x) : Tryd.prog.keyLits (n + 1) t [.int .i64 x] = some [.int .i64 x] := by
  unfold Program.keyLits
  rw [hu]
  exact if_pos ⟨rfl, wfJ h⟩
theorem litS {t : TypeId} (hu : Tryd.prog.underlying t = some .string) (n : Nat) {s : Str} (h : s.length ≤ maxLen) : Tryd.prog.keyLits (n + 1) t [.string ⟨s.toArray⟩] = some [.string s] := by
  unfold Program.keyLits
  rw [hu]
  exact if_pos (by simpa [ByteArray.size] using h)
theorem placeT : Tryd.prog.underlying 42 = some (.struct #[{ name := "Byte", type := 3, offset := 0, embedded := false, tag := "", pkgPath := "", byteOffset := 0 }, { name := "Char", type := 3, offset := 1, embedded := false, tag := "", pkgPath := "", byteOffset := 8 }]) := (by kernel_rfl)
theorem litP (n : Nat) {a b : Int} (ha : okJ a) (hb : okJ b) : Tryd.prog.keyLits (n + 2) 42 [.int .i64 a, .int .i64 b] = some [.int .i64 a, .int .i64 b] := by
  have hc1 : Tryd.prog.cellsOf 3 = 1 := (by kernel_rfl)
  have hcP : Tryd.prog.cellsOf 42 = 2 := (by kernel_rfl)
  unfold Program.keyLits
  rw [placeT]
  simp only
  rw [if_pos ⟨by rw [hcP]; rfl, (by kernel_rfl)⟩]
  simp [hc1, litI (t := 3) (by kernel_rfl) n ha, litI (t := 3) (by kernel_rfl) n hb]
theorem eqlP {a b c d : Int} (h1 : okJ a) (h2 : okJ b) (h3 : okJ c) (h4 : okJ d) : EqlE Tryd.prog 42 [.int .i64 a, .int .i64 b] [.int .i64 c, .int .i64 d] (decide (a = c ∧ b = d)) := by
  have hc : Tryd.prog.cellsOf 42 = 2 := (by kernel_rfl)
  have hf : ∀ x y : Int, Value.formed Tryd.prog 42 (.agg #[.int .i64 x, .int .i64 y]) = true := fun x y => by simp only [Value.formed, placeT, hc]; rfl
  refine .mk (xs := [.int .i64 a, .int .i64 b]) (ys := [.int .i64 c, .int .i64 d]) (la := [.int .i64 a, .int .i64 b]) (lb := [.int .i64 c, .int .i64 d]) (D := 0 + 2) (D' := 0 + 2) (m := 2) ?_ rfl rfl (litP 0 h1 h2) (litP 0 h3 h4) (by kernel_rfl) (by decide) (hf a b) (hf c d) (by kernel_rfl)
  rw [decide_eq_true_eq]
  simp
theorem faultT : Tryd.prog.underlying 44 = some (.struct #[{ name := "Why", type := 27, offset := 0, embedded := false, tag := "", pkgPath := "", byteOffset := 0 }, { name := "At", type := 42, offset := 1, embedded := false, tag := "", pkgPath := "", byteOffset := 8 }]) := (by kernel_rfl)
theorem litF (n : Nat) {w a b : Int} (hw : okJ w) (ha : okJ a) (hb : okJ b) : Tryd.prog.keyLits (n + 3) 44 [.int .i64 w, .int .i64 a, .int .i64 b] = some [.int .i64 w, .int .i64 a, .int .i64 b] := by
  have hc1 : Tryd.prog.cellsOf 27 = 1 := (by kernel_rfl)
  have hc2 : Tryd.prog.cellsOf 42 = 2 := (by kernel_rfl)
  have hcP : Tryd.prog.cellsOf 44 = 3 := (by kernel_rfl)
  unfold Program.keyLits
  rw [faultT]
  simp only
  rw [if_pos ⟨by rw [hcP]; rfl, (by kernel_rfl)⟩]
  simp [hc1, hc2, litI (t := 27) (by kernel_rfl) (n + 1) hw, litP n ha hb]
theorem eqlF {w a b w' c d : Int} (h0 : okJ w) (h1 : okJ a) (h2 : okJ b) (h0' : okJ w') (h3 : okJ c) (h4 : okJ d) : EqlE Tryd.prog 44 [.int .i64 w, .int .i64 a, .int .i64 b] [.int .i64 w', .int .i64 c, .int .i64 d] (decide (w = w' ∧ a = c ∧ b = d)) := by
  have hc : Tryd.prog.cellsOf 44 = 3 := (by kernel_rfl)
  have hf : ∀ z x y : Int, Value.formed Tryd.prog 44 (.agg #[.int .i64 z, .int .i64 x, .int .i64 y]) = true := fun z x y => by simp only [Value.formed, faultT, hc]; rfl
  refine .mk (xs := [.int .i64 w, .int .i64 a, .int .i64 b]) (ys := [.int .i64 w', .int .i64 c, .int .i64 d]) (la := [.int .i64 w, .int .i64 a, .int .i64 b]) (lb := [.int .i64 w', .int .i64 c, .int .i64 d]) (D := 0 + 3) (D' := 0 + 3) (m := 3) ?_ rfl rfl (litF 0 h0 h1 h2) (litF 0 h0' h3 h4) (by kernel_rfl) (by decide) (hf w a b) (hf w' c d) (by kernel_rfl)
  rw [decide_eq_true_eq]
  simp
theorem wordT : Tryd.prog.underlying 109 = some (.struct #[{ name := "Kind", type := 107, offset := 0, embedded := false, tag := "", pkgPath := "", byteOffset := 0 }, { name := "Text", type := 9, offset := 1, embedded := false, tag := "", pkgPath := "", byteOffset := 8 }, { name := "Number", type := 2, offset := 2, embedded := false, tag := "", pkgPath := "", byteOffset := 24 }, { name := "At", type := 42, offset := 3, embedded := false, tag := "", pkgPath := "", byteOffset := 32 }]) := (by kernel_rfl)
structure okW (w : Wd) : Prop where
  kind : okJ w.kind
  text : w.text.length ≤ maxLen
  num : okJ w.num
  at' : okJ w.at'
  ch : okJ w.ch
theorem litW (n : Nat) {w : Wd} (h : okW w) : Tryd.prog.keyLits (n + 3) 109 [.int .i64 w.kind, .string ⟨w.text.toArray⟩, .int .i64 w.num, .int .i64 w.at', .int .i64 w.ch] = some [.int .i64 w.kind, .string w.text, .int .i64 w.num, .int .i64 w.at', .int .i64 w.ch] := by
  have hc1 : Tryd.prog.cellsOf 107 = 1 := (by kernel_rfl)
  have hc2 : Tryd.prog.cellsOf 9 = 1 := (by kernel_rfl)
  have hc3 : Tryd.prog.cellsOf 2 = 1 := (by kernel_rfl)
  have hc4 : Tryd.prog.cellsOf 42 = 2 := (by kernel_rfl)
  have hcP : Tryd.prog.cellsOf 109 = 5 := (by kernel_rfl)
  unfold Program.keyLits
  rw [wordT]
  simp only
  rw [if_pos ⟨by rw [hcP]; rfl, (by kernel_rfl)⟩]
  simp [hc1, hc2, hc3, hc4, litI (t := 107) (by kernel_rfl) (n + 1) h.kind, litS (t := 9) (by kernel_rfl) (n + 1) h.text, litI (t := 2) (by kernel_rfl) (n + 1) h.num, litP n h.at' h.ch]
def wdEq (w v : Wd) : Bool := decide (w.kind = v.kind ∧ w.text = v.text ∧ w.num = v.num ∧ w.at' = v.at' ∧ w.ch = v.ch)
theorem wdEq_iff {w v : Wd} : wdEq w v = true ↔ w = v := by
  obtain ⟨a, b, c, d, e⟩ := w
  obtain ⟨a', b', c', d', e'⟩ := v
  simp [wdEq]
theorem eqlW {w v : Wd} (h : okW w) (h' : okW v) : EqlE Tryd.prog 109 (wdC w) (wdC v) (wdEq w v) := by
  have hc : Tryd.prog.cellsOf 109 = 5 := (by kernel_rfl)
  have hf : ∀ w : Wd, Value.formed Tryd.prog 109 (.agg #[.int .i64 w.kind, .string ⟨w.text.toArray⟩, .int .i64 w.num, .int .i64 w.at', .int .i64 w.ch]) = true := fun w => by simp only [Value.formed, wordT, hc]; rfl
  refine .mk (xs := [.int .i64 w.kind, .string ⟨w.text.toArray⟩, .int .i64 w.num, .int .i64 w.at', .int .i64 w.ch]) (ys := [.int .i64 v.kind, .string ⟨v.text.toArray⟩, .int .i64 v.num, .int .i64 v.at', .int .i64 v.ch]) (D := 0 + 3) (D' := 0 + 3) (m := 3) ?_ rfl rfl (litW 0 h) (litW 0 h') (by kernel_rfl) (by decide) (hf w) (hf v) (by kernel_rfl)
  simp [wdEq]
  omega

end Tab

/- What the document fixes; two lists of words held against each other. -/
namespace Tab
open Go Go.Proofs
set_option maxRecDepth 10000
set_option linter.unusedVariables false
set_option linter.unusedSimpArgs false
set_option linter.unusedSectionVars false
set_option maxHeartbeats 1000000

def fxB : Str := [120, 49, 32, 60, 61, 32, 48, 55]
theorem fx_lex : lexS fxB = ([⟨0, [120, 49], 0, 0, 0⟩, ⟨2, [60, 61], 0, 3, 3⟩, ⟨1, [], 7, 6, 6⟩], flt0) := by kernel_rfl

end Tab

/- What is known of a text's words, plain. -/
namespace Tab
open Go
set_option maxRecDepth 10000
set_option linter.unusedVariables false
set_option linter.unusedSimpArgs false
set_option linter.unusedSectionVars false

theorem plain_len : (plainT.all fun p => decide (p.2.length ≤ 3)) = true := by kernel_rfl
theorem tok_ok (x : Str) : ((tokS x).kind = 0 ∨ (tokS x).kind = 1 ∨ (tokS x).kind = 2) ∧ (tokS x).text.length ≤ x.length + 3 ∧ (tokS x).num ≤ 9223372036854775807 ∧ 0 ≤ (tokS x).err ∧ (tokS x).err ≤ 52 := by
  by_cases h1 : (dec x 0).1 = 65533 ∧ (dec x 0).2 ≤ 1
  · rw [tokS, if_pos h1]; simp [tokBad]
  by_cases h2 : startR (dec x 0).1 = true
  · rw [tokS, if_neg h1, if_pos h2, nameT]
    have : (x.take (runS restR x)).length ≤ x.length := by rw [List.length_take]; omega
    split
    · exact ⟨by simp, by simp only; omega, by simp, by simp, by simp⟩
    · split
      · exact ⟨by simp, by simp, by simp, by simp, by simp⟩
      · exact ⟨by simp, by simp only; omega, by simp, by simp, by simp⟩
  by_cases h3 : digR (dec x 0).1 = true
  · rw [tokS, if_neg h1, if_neg h2, if_pos h3]
    cases e : numS (x.take (runS digR x)) with
    | none => simp [tokBad]
    | some v =>
      have hv : v ≤ 9223372036854775807 := numL_le _ 0 v (by omega) (fun c hc => by
        have := run_chars digR (fun r hr => by simp [digR] at hr; omega) _ x rfl c hc
        simp [digR] at this; omega) e
      exact ⟨by simp, by simp, hv, by simp, by simp⟩
  by_cases h4 : plainS (dec x 0).1 ≠ []
  · rw [tokS, if_neg h1, if_neg h2, if_neg h3, if_pos h4]
    obtain ⟨p, hp, he⟩ := List.mem_map.1 (plain_mem h4)
    have := List.all_eq_true.1 plain_len p hp
    rw [decide_eq_true_eq, he] at this
    exact ⟨by simp, by simp only; omega, by simp, by simp, by simp⟩
  rw [tokS, if_neg h1, if_neg h2, if_neg h3, if_neg h4, signT]
  split
  · rename_i t e
    have := sign_len t (List.mem_of_find?_eq_some e)
    exact ⟨by simp, by simp only; omega, by simp, by simp, by simp⟩
  · simp [tokBad]

structure WdOk (n : Nat) (w : Wd) : Prop where
  kind : w.kind = 0 ∨ w.kind = 1 ∨ w.kind = 2
  text : w.text.length ≤ n + 3
  num : w.num ≤ 9223372036854775807
theorem WdOk.up {n m : Nat} {w : Wd} (h : WdOk n w) (hm : n ≤ m) : WdOk m w := ⟨h.kind, by have := h.text; omega, h.num⟩
theorem lexW_ok : ∀ (n : Nat) (x : Str), x.length = n → ∀ (a ch : Nat), (∀ w ∈ (lexW x a ch).1, WdOk x.length w) ∧ (lexW x a ch).1.length ≤ x.length ∧ ((lexW x a ch).2.why = 0 → (lexW x a ch).2 = flt0) ∧ 0 ≤ (lexW x a ch).2.why ∧ (lexW x a ch).2.why ≤ 52 := by
  intro n
  induction n using Nat.strongRecOn with
  | _ n ih =>
    intro x hn a ch
    rcases part_of x with h | h
    · rw [lexW_nil h]; simp [flt0]
    · obtain ⟨l1, l2⟩ := h.lt
      have hx1 := h.some
      have hbl : (x.drop (runS blankR x)).length ≤ x.length := by rw [List.length_drop]; omega
      generalize hbe : runS blankR x = b at *
      generalize hxe : x.drop b = x1 at *
      have hok := tok_ok x1
      generalize hte : tokS x1 = t at *
      obtain ⟨o1, o2, o3, o4, o5⟩ := hok
      by_cases he : t.err = 0
      · obtain ⟨n1, n2, n3, _⟩ := h.tokN he
        rw [lexW_tok h he]
        obtain ⟨i1, i2, i3, i4, i5⟩ := ih _ (by rw [List.length_drop]; omega) (x1.drop t.n) rfl (a + b + t.n) (ch + chS (x.take b) + chS (x1.take t.n))
        have hdl : (x1.drop t.n).length ≤ x.length - 1 := by rw [List.length_drop]; omega
        refine ⟨fun w hw => ?_, by simp only [List.length_cons]; omega, i3, i4, i5⟩
        rcases List.mem_cons.1 hw with rfl | hw
        · exact ⟨o1, by simp only; omega, o3⟩
        · exact (i1 w hw).up (by omega)
      · rw [lexW_bad h he]
        exact ⟨by simp, by simp, fun h0 => absurd h0 he, o4, o5⟩

structure LexOk (s : Str) (W : List Wd) (F : Flt) : Prop where
  zero : F.why = 0 → F = flt0
  none : F.why ≠ 0 → W = []
  why : okJ F.why
  at' : F.at' ≤ s.length ∧ F.at' ≤ 4096
  ch : F.ch ≤ 4096
  cnt : W.length ≤ 4096
  wd : ∀ w ∈ W, okW w ∧ WdOk 4096 w ∧ w.at' < s.length
theorem chS_take_le {s : Str} {k : Nat} : chS (s.take k) ≤ k := by
  have := chS_le _ (s.take k) rfl
  rw [List.length_take] at this
  omega
theorem lexS_ok (s : Str) : LexOk s (lexS s).1 (lexS s).2 := by
  rw [lexS_eq]
  by_cases hl : 4096 < s.length
  · rw [if_pos hl]
    exact ⟨by simp, by simp, by simp only; decide, by simp, by simp, by simp, by simp⟩
  rw [if_neg hl]
  obtain ⟨i1, i2, i3, i4, i5⟩ := lexW_ok _ s rfl 0 0
  have hpl := (lex_places _ s rfl 0 0).1
  have hcut := lex_cut _ s rfl 0 0
  generalize lexW s 0 0 = r at *
  rw [finL]
  by_cases hw : r.2.why ≠ 0
  · rw [if_pos hw]
    obtain ⟨k, k1, _, k3, k4, _⟩ := hcut hw
    have := chS_take_le (s := s) (k := k)
    exact ⟨i3, by simp, ⟨by simp only; omega, by simp only; omega⟩, ⟨by simp only; omega, by simp only; omega⟩, by simp only; omega, by simp, by simp⟩
  · rw [if_neg hw]
    have hz := i3 (Decidable.of_not_not hw)
    refine ⟨i3, fun h => absurd h hw, ⟨by omega, by omega⟩, by rw [hz]; simp [flt0], by rw [hz]; simp [flt0], by omega, fun w hm => ?_⟩
    obtain ⟨k, k1, _, k3, k4, _⟩ := hpl w hm
    have := chS_take_le (s := s) (k := k)
    have ho := i1 w hm
    refine ⟨⟨?_, ?_, ?_, ?_, ?_⟩, ho.up (by omega), by omega⟩
    · rcases ho.kind with e | e | e <;> rw [e] <;> decide
    · have := ho.text; have : s.length ≤ 4096 := by omega
      exact Nat.le_trans (by omega : w.text.length ≤ 4099) (by decide)
    · have := ho.num; exact ⟨by omega, by omega⟩
    · exact ⟨by omega, by omega⟩
    · exact ⟨by omega, by omega⟩

end Tab

/- The reader, plain: its trees can be handed on, and are right where there is no fault. -/
namespace Tab
open Go
set_option maxRecDepth 10000
set_option linter.unusedVariables false
set_option linter.unusedSimpArgs false
set_option linter.unusedSectionVars false

/-- Words as a text has them. -/
def WsOk (r : Rs) : Prop := ∀ w ∈ r.ws, w.text.length ≤ 4099 ∧ w.num ≤ 9223372036854775807
theorem hd_mem {r : Rs} (h : r.ws ≠ []) : r.hd ∈ r.ws := by
  cases hw : r.ws with
  | nil => exact absurd hw h
  | cons w l => rw [Rs.hd, hw]; simp
theorem mono_ws (e : Nat × Nat) (p : Wd → Prop) : Mono e (fun r => ∀ w ∈ r.ws, p w) where
  take r L h := by
    unfold Rs.take
    split
    · exact fun w hw => h w (List.mem_of_mem_tail hw)
    · exact h
  wrong r y _ h := by rw [wrong_ws]; exact h
  word r k h := by
    unfold Rs.word
    split
    · rw [wrong_ws]; exact h
    · exact fun w hw => h w (List.mem_of_mem_tail hw)
theorem word_of (e : Nat × Nat) (r : Rs) (k : Int) : ((r.word e k).1 = wd0 ∧ (r.word e k).2 = r.wrong e 71) ∨ (r.fl.why = 0 ∧ (r.word e k).1 ∈ r.ws ∧ (r.word e k).1.kind = k) := by
  unfold Rs.word
  split
  · exact .inl ⟨rfl, rfl⟩
  · rename_i h
    have h1 : ¬ r.fl.why ≠ 0 := fun k => h (.inl k)
    have h2 : ¬ r.ws = [] := fun k => h (.inr (.inl k))
    have h3 : ¬ r.hd.kind ≠ k := fun k => h (.inr (.inr k))
    exact .inr ⟨Decidable.of_not_not h1, hd_mem h2, Decidable.of_not_not h3⟩
theorem word_ok (e : Nat × Nat) (r : Rs) (k : Int) (h : WsOk r) : (r.word e k).1.text.length ≤ 4099 ∧ (r.word e k).1.num ≤ 9223372036854775807 := by
  rcases word_of e r k with h1 | h1
  · rw [h1.1]; exact ⟨by decide, by decide⟩
  · exact h _ h1.2.1
theorem tt_ok_nil {op num : Int} {s : Str} (h1 : 0 ≤ op ∧ op ≤ 15) (h2 : okI6 num) (h3 : s.length ≤ 4099) : (TT.mk op num s .nil []).ok := by
  rw [TT.ok]; exact ⟨⟨by omega, by omega⟩, h2, by omega, by simp, by rw [ttsOk]; trivial⟩
theorem tt_ok_two {op : Int} {a b : TT} (h1 : 0 ≤ op ∧ op ≤ 15) (ha : a.ok) (hb : b.ok) : (TT.mk op 0 [] .any [a, b]).ok := by
  rw [TT.ok]; exact ⟨⟨by omega, by omega⟩, ⟨by decide, by decide⟩, by simp, by simp, by rw [ttsOk_iff]; intro t ht; simp at ht; rcases ht with rfl | rfl <;> assumption⟩
theorem tt_ok_one {op : Int} {a : TT} (h1 : 0 ≤ op ∧ op ≤ 15) (ha : a.ok) : (TT.mk op 0 [] .any [a]).ok := by
  rw [TT.ok]; exact ⟨⟨by omega, by omega⟩, ⟨by decide, by decide⟩, by simp, by simp, by rw [ttsOk_iff]; intro t ht; simp at ht; subst ht; exact ha⟩
theorem ft_ok_args {op md : Int} {s : Str} {l : List FT} {ts : List TT} {tk ak : SK} (h1 : 0 ≤ op ∧ op ≤ 15) (h2 : okI6 md) (h3 : s.length ≤ 4099) (hl : l.length ≤ 2) (ht : ts.length ≤ 2) (ha : ∀ a ∈ l, a.ok) (hb : ∀ a ∈ ts, a.ok) : (FT.mk op s md tk ts ak l).ok := by
  rw [FT.ok]; exact ⟨⟨by omega, by omega⟩, by omega, h2, by omega, ttsOk_iff.2 hb, by omega, ftsOk_iff.2 ha⟩
theorem made_ok (e : Nat × Nat) : Made e WsOk (fun _ => False) TT.ok FT.ok where
  keep := mono_ws e _
  bad := ⟨fun _ _ h => h, fun _ _ _ h => h, fun _ _ h => h⟩
  zero := tt_ok_nil (by decide) ⟨by decide, by decide⟩ (by simp)
  leaf r h := by
    refine .inr ?_
    unfold leafP
    split
    · exact tt_ok_nil (by decide) ⟨by decide, by decide⟩ (word_ok e r 0 h).1
    · have := (word_ok e r 1 h).2
      exact tt_ok_nil (by decide) ⟨by omega, by omega⟩ (by simp)
  neg a h := tt_ok_one (by decide) h
  two op a b h1 h2 ha hb := tt_ok_two (by omega) ha hb
  nil op h1 h2 := ft_ok_args (by omega) ⟨by decide, by decide⟩ (by simp) (by simp) (by simp) (by simp) (by simp)
  not a h := ft_ok_args (by decide) ⟨by decide, by decide⟩ (by simp) (by simp) (by simp) (by simpa using h) (by simp)
  pair op a b h1 h2 ha hb := ft_ok_args (by omega) ⟨by decide, by decide⟩ (by simp) (by simp) (by simp) (by simp; exact ⟨ha, hb⟩) (by simp)
  quant op r ho h := .inr fun a ha => ft_ok_args (by omega) ⟨by decide, by decide⟩ (word_ok e r 0 h).1 (by simp) (by simp) (by simpa using ha) (by simp)
  rel op a b h1 h2 ha hb := ft_ok_args (by omega) ⟨by decide, by decide⟩ (by simp) (by simp) (by simp) (by simp) (by simp; exact ⟨ha, hb⟩)
  cong r a b h ha hb := by
    refine .inr (ft_ok_args (by decide) ?_ (by simp) (by simp) (by simp) (by simp) (by simp; exact ⟨ha, hb⟩))
    have hn := mono_need (mono_ws e _) r fMod h
    unfold modS
    try simp only
    split
    · have := (word_ok e _ 1 ((mono_ws e _).wrong _ 92 (by simp) hn)).2
      exact ⟨by omega, by omega⟩
    · have := (word_ok e _ 1 hn).2
      exact ⟨by omega, by omega⟩

/-- The words of a text. -/
theorem ws_ok (s : Str) : WsOk (rs0 s) := fun w hw => by
  have h := (lexS_ok s).wd w hw
  exact ⟨by have := h.2.1.text; omega, h.2.1.num⟩
theorem readF_ok (s : Str) : (readF s).1.ok := ((made_forms (made_ok (endS s)) _).1 (rs0 s) (ws_ok s)).2.elim (fun h => h.elim) id
theorem readT_ok (s : Str) : (readT s).1.ok := ((made_terms (made_ok (endS s)) _).1 (rs0 s) (ws_ok s)).2.elim (fun h => h.elim) id

end Tab

/- The reader, plain: where it goes wrong; what is behind that place changes nothing. -/
namespace Tab
open Go
set_option maxRecDepth 10000
set_option linter.unusedVariables false
set_option linter.unusedSimpArgs false
set_option linter.unusedSectionVars false

/-! ### The fault's place -/
def posW (e : Nat × Nat) (ws : List Wd) : Nat × Nat := match ws with | [] => e | w :: _ => (w.at', w.ch)
def Plc (e : Nat × Nat) (r : Rs) : Prop := r.fl = flt0 ∨ ((r.fl.why = 71 ∨ r.fl.why = 92) ∧ (r.fl.at', r.fl.ch) = posW e r.ws)
theorem take_bad {r : Rs} {L : List Str} (h : r.fl.why ≠ 0) : r.take L = ([], r) := by unfold Rs.take; exact if_neg fun k => h k.1
theorem word_bad {e : Nat × Nat} {r : Rs} {k : Int} (h : r.fl.why ≠ 0) : r.word e k = (wd0, r) := by unfold Rs.word; rw [if_pos (.inl h), Rs.wrong, if_pos h]
theorem wrong_bad {e : Nat × Nat} {r : Rs} {y : Int} (h : r.fl.why ≠ 0) : r.wrong e y = r := by rw [Rs.wrong, if_pos h]
theorem wrong_new {e : Nat × Nat} {r : Rs} {y : Int} (h : r.fl.why = 0) : r.wrong e y = ⟨r.ws, ⟨y, (posW e r.ws).1, (posW e r.ws).2⟩⟩ := by
  rw [Rs.wrong, if_neg (by simp [h])]
  cases r.ws <;> rfl
theorem take_fl (r : Rs) (L : List Str) : (r.take L).2.fl = r.fl := by unfold Rs.take; split <;> rfl
theorem take_cases (r : Rs) (L : List Str) : r.take L = ([], r) ∨ (r.fl.why = 0 ∧ r.sign ∈ L ∧ r.take L = (r.sign, ⟨r.ws.tail, r.fl⟩)) := by
  unfold Rs.take
  by_cases h : r.fl.why = 0 ∧ r.sign ∈ L
  · rw [if_pos h]; exact .inr ⟨h.1, h.2, rfl⟩
  · rw [if_neg h]; exact .inl rfl
theorem word_cases (e : Nat × Nat) (r : Rs) (k : Int) : (r.word e k = (wd0, r.wrong e 71) ∧ (r.fl.why ≠ 0 ∨ r.ws = [] ∨ r.hd.kind ≠ k)) ∨ (r.fl.why = 0 ∧ r.ws ≠ [] ∧ r.hd.kind = k ∧ r.word e k = (r.hd, ⟨r.ws.tail, r.fl⟩)) := by
  unfold Rs.word
  by_cases h : r.fl.why ≠ 0 ∨ r.ws = [] ∨ r.hd.kind ≠ k
  · rw [if_pos h]; exact .inl ⟨rfl, h⟩
  · rw [if_neg h]
    exact .inr ⟨Decidable.of_not_not fun k => h (.inl k), fun k => h (.inr (.inl k)), Decidable.of_not_not fun k => h (.inr (.inr k)), rfl⟩
theorem word_hit {e : Nat × Nat} {f : Flt} {w : Wd} {t : List Wd} {k : Int} (hf : f.why = 0) (hk : w.kind = k) : Rs.word e ⟨w :: t, f⟩ k = (w, ⟨t, f⟩) := by
  rcases word_cases e ⟨w :: t, f⟩ k with ⟨_, j | j | j⟩ | ⟨j1, j2, j3, j4⟩
  · exact absurd hf j
  · cases j
  · exact absurd hk j
  · rw [j4]; rfl
theorem plc_zero {e : Nat × Nat} {r : Rs} (h : Plc e r) (h0 : r.fl.why = 0) : r.fl = flt0 := by
  rcases h with h | ⟨h | h, _⟩
  · exact h
  · rw [h0] at h; cases h
  · rw [h0] at h; cases h
theorem mono_plc (e : Nat × Nat) : Mono e (Plc e) where
  take r L h := by
    rcases take_cases r L with k | ⟨k1, k2, k3⟩
    · rw [k]; exact h
    · rw [k3]; exact .inl (show r.fl = flt0 from plc_zero h k1)
  wrong r y hy h := by
    by_cases h0 : r.fl.why = 0
    · rw [wrong_new h0]; exact .inr ⟨hy, rfl⟩
    · rw [wrong_bad h0]; exact h
  word r k h := by
    rcases word_cases e r k with ⟨j, _⟩ | ⟨j1, j2, j3, j4⟩
    · rw [j]
      by_cases h0 : r.fl.why = 0
      · rw [wrong_new h0]; exact .inr ⟨.inl rfl, rfl⟩
      · rw [wrong_bad h0]; exact h
    · rw [j4]; exact .inl (show r.fl = flt0 from plc_zero h j1)
/-- Where a fault is, it stays. -/
theorem mono_bad (e : Nat × Nat) (f : Flt) (hf : f.why ≠ 0) : Mono e (fun r => r.fl = f) where
  take r L h := by rw [take_bad (by rw [h]; exact hf)]; exact h
  wrong r y _ h := by rw [wrong_bad (by rw [h]; exact hf)]; exact h
  word r k h := by rw [word_bad (by rw [h]; exact hf)]; exact h
theorem mono_bad' (e : Nat × Nat) : Mono e (fun r => r.fl.why ≠ 0) where
  take r L h := by rw [take_bad h]; exact h
  wrong r y _ h := by rw [wrong_bad h]; exact h
  word r k h := by rw [word_bad h]; exact h
theorem mono_len (e : Nat × Nat) (N : Nat) : Mono e (fun r => r.ws.length < N) where
  take r L h := Nat.lt_of_le_of_lt (take_le _ _) h
  wrong r y _ h := by rw [wrong_ws]; exact h
  word r k h := Nat.lt_of_le_of_lt (word_le _ _ _) h
theorem Mono.or {e : Nat × Nat} {A B : Rs → Prop} (a : Mono e A) (b : Mono e B) : Mono e (fun r => A r ∨ B r) where
  take r L h := h.imp (a.take r L) (b.take r L)
  wrong r y hy h := h.imp (a.wrong r y hy) (b.wrong r y hy)
  word r k h := h.imp (a.word r k) (b.word r k)
theorem Mono.and {e : Nat × Nat} {A B : Rs → Prop} (a : Mono e A) (b : Mono e B) : Mono e (fun r => A r ∧ B r) where
  take r L h := ⟨a.take r L h.1, b.take r L h.2⟩
  wrong r y hy h := ⟨a.wrong r y hy h.1, b.wrong r y hy h.2⟩
  word r k h := ⟨a.word r k h.1, b.word r k h.2⟩

/-! ### What is behind changes nothing -/
def hdEq (a a' : List Wd) : Prop := a' = [] ∨ ∃ w t t', a = w :: t ∧ a' = w :: t'
def SL (a a' : List Wd) (r r' : Rs) : Prop := ∃ c, r.ws = c ++ a ∧ r'.ws = c ++ a' ∧ r.fl.why = r'.fl.why
def BL (a : List Wd) (r : Rs) : Prop := r.ws.length < a.length ∨ r.fl.why = 92
theorem mono_BL (e : Nat × Nat) (a : List Wd) : Mono e (BL a) :=
  Mono.or (mono_len e _) ⟨fun r L h => by rw [take_bad (by rw [h]; decide)]; exact h, fun r y _ h => by rw [wrong_bad (by rw [h]; decide)]; exact h, fun r k h => by rw [word_bad (by rw [h]; decide)]; exact h⟩
theorem sign_cons (w : Wd) (t : List Wd) (f : Flt) : Rs.sign ⟨w :: t, f⟩ = if w.kind = 2 then w.text else [] := rfl
theorem sl_wrong {e e' : Nat × Nat} {a a' : List Wd} {r r' : Rs} (h : SL a a' r r') (y : Int) : SL a a' (r.wrong e y) (r'.wrong e' y) := by
  obtain ⟨c, h1, h2, h3⟩ := h
  refine ⟨c, by rw [wrong_ws]; exact h1, by rw [wrong_ws]; exact h2, ?_⟩
  by_cases h0 : r.fl.why = 0
  · rw [wrong_new h0, wrong_new (by rw [← h3]; exact h0)]
  · rw [wrong_bad h0, wrong_bad (by rw [← h3]; exact h0)]; exact h3
theorem sl_take {a a' : List Wd} (ha : a ≠ []) (hh : hdEq a a') {r r' : Rs} {L : List Str} (h : SL a a' r r') (h0 : [] ∉ L) : BL a (r.take L).2 ∨ ((r.take L).1 = (r'.take L).1 ∧ SL a a' (r.take L).2 (r'.take L).2) := by
  rcases r with ⟨ws, f⟩
  rcases r' with ⟨ws', f'⟩
  have h' := h
  obtain ⟨c, h1, h2, h3⟩ := h
  simp only at h1 h2 h3
  by_cases hf : f.why = 0
  rotate_left
  · rw [take_bad (show (Rs.mk ws f).fl.why ≠ 0 from hf), take_bad (show (Rs.mk ws' f').fl.why ≠ 0 from fun k => hf (h3.trans k))]
    exact .inr ⟨rfl, h'⟩
  have hf' : f'.why = 0 := h3.symm.trans hf
  cases c with
  | cons w c =>
    subst h1 h2
    have hs : Rs.sign ⟨(w :: c) ++ a, f⟩ = Rs.sign ⟨(w :: c) ++ a', f'⟩ := rfl
    refine .inr ?_
    unfold Rs.take
    by_cases hm : Rs.sign ⟨(w :: c) ++ a, f⟩ ∈ L
    · rw [if_pos ⟨hf, hm⟩, if_pos ⟨hf', hs ▸ hm⟩]
      exact ⟨hs, c, rfl, rfl, h3⟩
    · rw [if_neg fun k => hm k.2, if_neg fun k => hm (hs ▸ k.2)]
      exact ⟨rfl, h'⟩
  | nil =>
    simp only [List.nil_append] at h1 h2
    subst h1 h2
    by_cases hm : Rs.sign ⟨ws, f⟩ ∈ L
    · refine .inl (.inl ?_)
      unfold Rs.take
      rw [if_pos ⟨hf, hm⟩]
      cases ws with
      | nil => exact absurd rfl ha
      | cons w t => simp
    · refine .inr ?_
      have hm' : Rs.sign ⟨ws', f'⟩ ∉ L := by
        rcases hh with rfl | ⟨w, t, t', rfl, rfl⟩
        · exact h0
        · exact hm
      unfold Rs.take
      rw [if_neg fun k => hm k.2, if_neg fun k => hm' k.2]
      exact ⟨rfl, h'⟩
theorem sl_word {e e' : Nat × Nat} {a a' : List Wd} (ha : a ≠ []) (hh : hdEq a a') {r r' : Rs} {k : Int} (h : SL a a' r r') : BL a (r.word e k).2 ∨ ((r.word e k).1 = (r'.word e' k).1 ∧ SL a a' (r.word e k).2 (r'.word e' k).2) := by
  rcases r with ⟨ws, f⟩
  rcases r' with ⟨ws', f'⟩
  have h' := h
  obtain ⟨c, h1, h2, h3⟩ := h
  simp only at h1 h2 h3
  by_cases hf : f.why = 0
  rotate_left
  · rw [word_bad (show (Rs.mk ws f).fl.why ≠ 0 from hf), word_bad (show (Rs.mk ws' f').fl.why ≠ 0 from fun k => hf (h3.trans k))]
    exact .inr ⟨rfl, h'⟩
  have hf' : f'.why = 0 := h3.symm.trans hf
  have go : (Rs.mk ws f).word e k = (wd0, (Rs.mk ws f).wrong e 71) → (Rs.mk ws' f').word e' k = (wd0, (Rs.mk ws' f').wrong e' 71) → BL a ((Rs.mk ws f).word e k).2 ∨ (((Rs.mk ws f).word e k).1 = ((Rs.mk ws' f').word e' k).1 ∧ SL a a' ((Rs.mk ws f).word e k).2 ((Rs.mk ws' f').word e' k).2) := fun h1 h2 => by
    rw [h1, h2]; exact .inr ⟨rfl, sl_wrong h' 71⟩
  cases c with
  | cons w c =>
    subst h1 h2
    by_cases hk : w.kind = k
    · have e1 : Rs.word e ⟨(w :: c) ++ a, f⟩ k = (w, ⟨c ++ a, f⟩) := word_hit hf hk
      have e2 : Rs.word e' ⟨(w :: c) ++ a', f'⟩ k = (w, ⟨c ++ a', f'⟩) := word_hit hf' hk
      rw [e1, e2]
      exact .inr ⟨rfl, c, rfl, rfl, h3⟩
    · exact go (by unfold Rs.word; exact if_pos (.inr (.inr hk))) (by unfold Rs.word; exact if_pos (.inr (.inr hk)))
  | nil =>
    simp only [List.nil_append] at h1 h2
    subst h1 h2
    cases ws with
    | nil => exact absurd rfl ha
    | cons w t =>
      by_cases hk : w.kind = k
      · refine .inl (.inl ?_)
        have e1 : Rs.word e ⟨w :: t, f⟩ k = (w, ⟨t, f⟩) := word_hit hf hk
        rw [e1]; simp
      · refine go (by unfold Rs.word; exact if_pos (.inr (.inr hk))) ?_
        rcases hh with rfl | ⟨w2, t2, t', e2, rfl⟩
        · unfold Rs.word; exact if_pos (.inr (.inl rfl))
        · obtain ⟨rfl, _⟩ := List.cons.inj e2
          unfold Rs.word; exact if_pos (.inr (.inr hk))

theorem leafP_name {e : Nat × Nat} {s : Rs} (h : s.fl.why = 0 ∧ s.ws ≠ [] ∧ s.hd.kind = 0) : leafP e s = (.mk 1 0 (s.word e 0).1.text .nil [], (s.word e 0).2) := if_pos h
theorem leafP_num {e : Nat × Nat} {s : Rs} (h : ¬ (s.fl.why = 0 ∧ s.ws ≠ [] ∧ s.hd.kind = 0)) : leafP e s = (.mk 0 (s.word e 1).1.num [] .nil [], (s.word e 1).2) := if_neg h
/-- Both have a next word, the same one; or the first one is at the end of what they share. -/
theorem sl_next {a a' : List Wd} {r r' : Rs} (h : SL a a' r r') : (r.ws ≠ [] ∧ r'.ws ≠ [] ∧ r.hd = r'.hd) ∨ (r.ws = a ∧ r'.ws = a') := by
  obtain ⟨c, h1, h2, h3⟩ := h
  cases c with
  | nil => exact .inr ⟨h1, h2⟩
  | cons w c => exact .inl ⟨by rw [h1]; simp, by rw [h2]; simp, by rw [Rs.hd, Rs.hd, h1, h2]; rfl⟩
theorem bl_word {e : Nat × Nat} {a : List Wd} {r : Rs} {k : Int} (hw : r.ws = a) (ha : a ≠ []) (hf : r.fl.why = 0) (hk : r.hd.kind = k) : BL a (r.word e k).2 := by
  rcases word_cases e r k with ⟨_, j | j | j⟩ | ⟨j1, j2, j3, j4⟩
  · exact absurd hf j
  · exact absurd (hw.symm.trans j) ha
  · exact absurd hk j
  · rw [j4]
    refine .inl ?_
    show r.ws.tail.length < a.length
    rw [hw]
    cases a with
    | nil => exact absurd rfl ha
    | cons w t => simp
theorem hdEq_cases {a a' : List Wd} (hh : hdEq a a') {r r' : Rs} (h1 : r.ws = a) (h2 : r'.ws = a') : r'.ws = [] ∨ (r'.ws ≠ [] ∧ r'.hd = r.hd) := by
  rcases hh with rfl | ⟨w, t, t', rfl, rfl⟩
  · exact .inl h2
  · exact .inr ⟨by rw [h2]; simp, by rw [Rs.hd, Rs.hd, h1, h2]; rfl⟩
theorem sl_leaf {e e' : Nat × Nat} {a a' : List Wd} (ha : a ≠ []) (hh : hdEq a a') {r r' : Rs} (h : SL a a' r r') : BL a (leafP e r).2 ∨ ((leafP e r).1 = (leafP e' r').1 ∧ SL a a' (leafP e r).2 (leafP e' r').2) := by
  have hf : r.fl.why = r'.fl.why := by obtain ⟨_, _, _, h⟩ := h; exact h
  have num : ¬ (r.fl.why = 0 ∧ r.ws ≠ [] ∧ r.hd.kind = 0) → ¬ (r'.fl.why = 0 ∧ r'.ws ≠ [] ∧ r'.hd.kind = 0) → BL a (leafP e r).2 ∨ ((leafP e r).1 = (leafP e' r').1 ∧ SL a a' (leafP e r).2 (leafP e' r').2) := fun k1 k2 => by
    rw [leafP_num k1, leafP_num k2]
    rcases sl_word (e := e) (e' := e') (k := 1) ha hh h with j | ⟨j1, j2⟩
    · exact .inl j
    · exact .inr ⟨by rw [j1], j2⟩
  rcases sl_next h with ⟨n1, n2, n3⟩ | ⟨n1, n2⟩
  · by_cases hc : r.fl.why = 0 ∧ r.ws ≠ [] ∧ r.hd.kind = 0
    · have hc' : r'.fl.why = 0 ∧ r'.ws ≠ [] ∧ r'.hd.kind = 0 := ⟨hf ▸ hc.1, n2, n3 ▸ hc.2.2⟩
      rw [leafP_name hc, leafP_name hc']
      rcases sl_word (e := e) (e' := e') (k := 0) ha hh h with j | ⟨j1, j2⟩
      · exact .inl j
      · exact .inr ⟨by rw [j1], j2⟩
    · exact num hc fun k => hc ⟨hf ▸ k.1, n1, n3 ▸ k.2.2⟩
  · by_cases hc : r.fl.why = 0 ∧ r.ws ≠ [] ∧ r.hd.kind = 0
    · rw [leafP_name hc]
      exact .inl (bl_word n1 ha hc.1 hc.2.2)
    · refine num hc fun k => hc ⟨hf ▸ k.1, by rw [n1]; exact ha, ?_⟩
      rcases hdEq_cases hh n1 n2 with j | ⟨_, j⟩
      · exact absurd j k.2.1
      · rw [← j]; exact k.2.2
def modGo (e : Nat × Nat) (n : Rs) : Nat × Rs := (((if n.fl.why = 0 ∧ n.ws ≠ [] ∧ n.hd.kind = 1 ∧ n.hd.num = 0 then n.wrong e 92 else n).word e 1).1.num, ((if n.fl.why = 0 ∧ n.ws ≠ [] ∧ n.hd.kind = 1 ∧ n.hd.num = 0 then n.wrong e 92 else n).word e 1).2)
theorem modS_eq (e : Nat × Nat) (r : Rs) : modS e r = modGo e (r.need e fMod) := rfl
theorem modGo_nought {e : Nat × Nat} {n : Rs} (h : n.fl.why = 0 ∧ n.ws ≠ [] ∧ n.hd.kind = 1 ∧ n.hd.num = 0) : modGo e n = (0, n.wrong e 92) := by
  have hb : (n.wrong e 92).fl.why ≠ 0 := by rw [wrong_new h.1]; show (92 : Int) ≠ 0; decide
  unfold modGo
  rw [if_pos h, word_bad hb]
  rfl
theorem modGo_else {e : Nat × Nat} {n : Rs} (h : ¬ (n.fl.why = 0 ∧ n.ws ≠ [] ∧ n.hd.kind = 1 ∧ n.hd.num = 0)) : modGo e n = ((n.word e 1).1.num, (n.word e 1).2) := by
  unfold modGo
  rw [if_neg h]
theorem sl_mod {e e' : Nat × Nat} {a a' : List Wd} (ha : a ≠ []) (hh : hdEq a a') {r r' : Rs} (h : SL a a' r r') : BL a (modGo e r).2 ∨ ((modGo e r).1 = (modGo e' r').1 ∧ SL a a' (modGo e r).2 (modGo e' r').2) := by
  have hf : r.fl.why = r'.fl.why := by obtain ⟨_, _, _, h⟩ := h; exact h
  by_cases hc : r.fl.why = 0 ∧ r.ws ≠ [] ∧ r.hd.kind = 1 ∧ r.hd.num = 0
  · rw [modGo_nought hc]
    refine .inl (.inr ?_)
    rw [wrong_new hc.1]
  · have hc' : ¬ (r'.fl.why = 0 ∧ r'.ws ≠ [] ∧ r'.hd.kind = 1 ∧ r'.hd.num = 0) := fun k => by
      rcases sl_next h with ⟨n1, n2, n3⟩ | ⟨n1, n2⟩
      · exact hc ⟨hf ▸ k.1, n1, n3 ▸ k.2.2.1, n3 ▸ k.2.2.2⟩
      · rcases hdEq_cases hh n1 n2 with j | ⟨_, j⟩
        · exact k.2.1 j
        · exact hc ⟨hf ▸ k.1, by rw [n1]; exact ha, j ▸ k.2.2.1, j ▸ k.2.2.2⟩
    rw [modGo_else hc, modGo_else hc']
    rcases sl_word (e := e) (e' := e') (k := 1) ha hh h with j | ⟨j1, j2⟩
    · exact .inl j
    · exact .inr ⟨by rw [j1], j2⟩
theorem sl_need {e e' : Nat × Nat} {a a' : List Wd} (ha : a ≠ []) (hh : hdEq a a') {r r' : Rs} (s : Str) (h0 : s ≠ []) (h : SL a a' r r') : BL a (r.need e s) ∨ SL a a' (r.need e s) (r'.need e' s) := by
  unfold Rs.need
  rcases sl_take (L := [s]) ha hh h (by simpa using h0.symm) with k | ⟨k1, k2⟩
  · refine .inl ?_
    split
    · exact (mono_BL e a).wrong _ _ (by simp) k
    · exact k
  · rw [← k1]
    split
    · exact .inr (sl_wrong k2 71)
    · exact .inr k2
theorem mono_modGo {e : Nat × Nat} {B : Rs → Prop} (M : Mono e B) (r : Rs) (h : B r) : B (modGo e r).2 := by
  unfold modGo
  simp only
  split
  · exact M.word _ _ (M.wrong _ _ (by simp) h)
  · exact M.word _ _ h
theorem sim_SL (e e' : Nat × Nat) {a a' : List Wd} (ha : a ≠ []) (hh : hdEq a a') : Sim e e' (SL a a') (BL a) where
  mono := mono_BL e a
  take r r' L h h0 := sl_take ha hh h h0
  wrong r r' h := .inr (sl_wrong h 71)
  word r r' k h := (sl_word ha hh h).imp id fun j => ⟨by rw [j.1], j.2⟩
  leaf r r' h := sl_leaf ha hh h
  mod r r' h := by
    rw [modS_eq, modS_eq]
    rcases sl_need (e := e) (e' := e') ha hh fMod (by simp [fMod]) h with k | k
    · exact .inl (mono_modGo (mono_BL e a) _ k)
    · exact sl_mod ha hh k

end Tab

/- The reader, plain: what is read of a text is read of it where more stands behind. -/
namespace Tab
open Go
set_option maxRecDepth 10000
set_option linter.unusedVariables false
set_option linter.unusedSimpArgs false
set_option linter.unusedSectionVars false

/-- No sign of these comes first. -/
def Cl (S : List Str) (M : List Wd) : Prop := ∀ f, Rs.sign ⟨M, f⟩ ∉ S
def sgT : List Str := [tAdd, tSub, tMul]
def sgA : List Str := [tAdd, tSub, tMul, fAnd]
def sgO : List Str := [tAdd, tSub, tMul, fAnd, fOr]
def sgI : List Str := [tAdd, tSub, tMul, fAnd, fOr, fImp]
def sgF : List Str := [tAdd, tSub, tMul, fAnd, fOr, fImp, fIff]
theorem Cl.mono {S S' : List Str} {M : List Wd} (h : Cl S M) (hs : ∀ s ∈ S', s ∈ S) : Cl S' M := fun f k => h f (hs _ k)
def sgP : List Str := [tMul]
def Ext {X : Type} (S : List Str) (M : List Wd) (x x' : X × Rs) : Prop := x.2.fl.why = 0 → (x.2.ws ≠ [] ∨ Cl S M) → ∃ c, x.2 = ⟨c, flt0⟩ ∧ x' = (x.1, ⟨c ++ M, flt0⟩)
theorem Ext.bad {X : Type} {S : List Str} {M : List Wd} {x x' : X × Rs} (h : x.2.fl.why ≠ 0) : Ext S M x x' := fun k => absurd k h
theorem cl_back {S S' : List Str} {M w w' : List Wd} (hl : w'.length ≤ w.length) (h : w' ≠ [] ∨ Cl S M) (hs : ∀ s ∈ S', s ∈ S) : w ≠ [] ∨ Cl S' M := by
  rcases h with h | h
  · exact .inl fun k => by subst k; exact h (List.length_eq_zero_iff.1 (by simpa using hl))
  · exact .inr (h.mono hs)
theorem ext_take {c M : List Wd} {L : List Str} (h0 : [] ∉ L) (h : c ≠ [] ∨ Cl L M) : ((Rs.mk (c ++ M) flt0).take L).1 = ((Rs.mk c flt0).take L).1 ∧ ∃ c', ((Rs.mk c flt0).take L).2 = ⟨c', flt0⟩ ∧ ((Rs.mk (c ++ M) flt0).take L).2 = ⟨c' ++ M, flt0⟩ := by
  cases c with
  | nil =>
    have hc := h.resolve_left (fun k => k rfl)
    have e1 : (Rs.mk [] flt0).take L = ([], ⟨[], flt0⟩) := by unfold Rs.take; exact if_neg fun k => h0 k.2
    have e2 : (Rs.mk ([] ++ M) flt0).take L = ([], ⟨[] ++ M, flt0⟩) := by unfold Rs.take; exact if_neg fun k => hc _ k.2
    rw [e1, e2]
    exact ⟨rfl, [], rfl, rfl⟩
  | cons w c =>
    by_cases hm : Rs.sign ⟨w :: c, flt0⟩ ∈ L
    · have e1 : (Rs.mk (w :: c) flt0).take L = (Rs.sign ⟨w :: c, flt0⟩, ⟨c, flt0⟩) := by unfold Rs.take; exact if_pos ⟨rfl, hm⟩
      have e2 : (Rs.mk ((w :: c) ++ M) flt0).take L = (Rs.sign ⟨w :: c, flt0⟩, ⟨c ++ M, flt0⟩) := by unfold Rs.take; exact if_pos ⟨rfl, hm⟩
      rw [e1, e2]
      exact ⟨rfl, c, rfl, rfl⟩
    · have e1 : (Rs.mk (w :: c) flt0).take L = ([], ⟨w :: c, flt0⟩) := by unfold Rs.take; exact if_neg fun k => hm k.2
      have e2 : (Rs.mk ((w :: c) ++ M) flt0).take L = ([], ⟨(w :: c) ++ M, flt0⟩) := by unfold Rs.take; exact if_neg fun k => hm k.2
      rw [e1, e2]
      exact ⟨rfl, w :: c, rfl, rfl⟩
theorem ext_word {e e' : Nat × Nat} {c M : List Wd} {k : Int} (h : ((Rs.mk c flt0).word e k).2.fl.why = 0) : ∃ w c', c = w :: c' ∧ w.kind = k ∧ (Rs.mk c flt0).word e k = (w, ⟨c', flt0⟩) ∧ (Rs.mk (c ++ M) flt0).word e' k = (w, ⟨c' ++ M, flt0⟩) := by
  rcases word_cases e ⟨c, flt0⟩ k with ⟨j, _⟩ | ⟨j1, j2, j3, j4⟩
  · rw [j, wrong_new rfl] at h; cases h
  · cases c with
    | nil => exact absurd rfl j2
    | cons w c => exact ⟨w, c, rfl, j3, word_hit rfl j3, word_hit rfl j3⟩
theorem ext_need {e e' : Nat × Nat} {c M : List Wd} {s : Str} (h0 : s ≠ []) (h : ((Rs.mk c flt0).need e s).fl.why = 0) : ∃ c', (Rs.mk c flt0).need e s = ⟨c', flt0⟩ ∧ (Rs.mk (c ++ M) flt0).need e' s = ⟨c' ++ M, flt0⟩ := by
  have hn : [] ∉ [s] := by simpa using h0.symm
  cases c with
  | nil =>
    have e1 : (Rs.mk [] flt0).take [s] = ([], ⟨[], flt0⟩) := by unfold Rs.take; exact if_neg fun k => hn k.2
    unfold Rs.need at h
    rw [e1, if_pos rfl, wrong_new rfl] at h
    cases h
  | cons w c =>
    obtain ⟨k1, c', k2, k3⟩ := ext_take (c := w :: c) (M := M) hn (.inl (by simp))
    unfold Rs.need at h ⊢
    rw [k2] at h
    rw [k1, k2, k3]
    by_cases hz : ((Rs.mk (w :: c) flt0).take [s]).1 = []
    · rw [if_pos hz, wrong_new rfl] at h; cases h
    · rw [if_neg hz, if_neg hz]; exact ⟨c', rfl, rfl⟩
/-! ### Nothing is read of nothing -/
theorem take_nil {f : Flt} {L : List Str} (h0 : [] ∉ L) : (Rs.mk [] f).take L = ([], ⟨[], f⟩) := by unfold Rs.take; exact if_neg fun k => h0 k.2
theorem need_nil {e : Nat × Nat} {f : Flt} {s : Str} (h0 : s ≠ []) (h : f.why = 0) : ((Rs.mk [] f).need e s).fl.why ≠ 0 := by
  unfold Rs.need
  rw [take_nil (by simpa using h0.symm), if_pos rfl]
  have := wrong_new (e := e) (r := ⟨[], f⟩) (y := 71) h
  show ((Rs.mk [] f).wrong e 71).fl.why ≠ 0
  rw [this]
  show (71 : Int) ≠ 0
  decide
theorem rel_nil {e : Nat × Nat} {f : Flt} {L : List Str} (h0 : [] ∉ L) (h : f.why = 0) : (if ((Rs.mk [] f).take L).1 = [] then ((Rs.mk [] f).take L).2.wrong e 71 else ((Rs.mk [] f).take L).2).fl.why ≠ 0 := by
  rw [take_nil h0, if_pos rfl]
  have := wrong_new (e := e) (r := ⟨[], f⟩) (y := 71) h
  show ((Rs.mk [] f).wrong e 71).fl.why ≠ 0
  rw [this]
  show (71 : Int) ≠ 0
  decide
theorem fa_nil (e : Nat × Nat) (n : Nat) : pFa e (n + 1) ⟨[], flt0⟩ = (.mk 0 0 [] .nil [], ⟨[], ⟨71, e.1, e.2⟩⟩) := by
  rw [pFa, take_nil (by simp [tOpen, tSub])]
  rfl
theorem nil_terms (e : Nat × Nat) : ∀ n, 3 ≤ n → (pT e n ⟨[], flt0⟩).2.fl.why ≠ 0 ∧ (pP e n ⟨[], flt0⟩).2.fl.why ≠ 0 ∧ (pFa e n ⟨[], flt0⟩).2.fl.why ≠ 0 := by
  have hF : ∀ n, 1 ≤ n → (pFa e n ⟨[], flt0⟩).2.fl.why ≠ 0 := fun n h => by
    obtain ⟨n, rfl⟩ : ∃ k, n = k + 1 := ⟨n - 1, by omega⟩
    rw [fa_nil]
    show (71 : Int) ≠ 0
    decide
  have hP : ∀ n, 2 ≤ n → (pP e n ⟨[], flt0⟩).2.fl.why ≠ 0 := fun n h => by
    obtain ⟨n, rfl⟩ : ∃ k, n = k + 1 := ⟨n - 1, by omega⟩
    rw [pP]
    exact (mono_terms (mono_bad' e) n).2.2.2.1 _ (hF n (by omega))
  intro n h
  refine ⟨?_, hP n (by omega), hF n (by omega)⟩
  obtain ⟨n, rfl⟩ : ∃ k, n = k + 1 := ⟨n - 1, by omega⟩
  rw [pT]
  exact (mono_terms (mono_bad' e) n).2.1 _ (hP n (by omega))
theorem nil_unary (e : Nat × Nat) (n : Nat) (h : 4 ≤ n) : (pU e n ⟨[], flt0⟩).2.fl.why ≠ 0 := by
  obtain ⟨n, rfl⟩ : ∃ k, n = k + 1 := ⟨n - 1, by omega⟩
  have h0 : [] ∉ unL := by simp [unL, fNot, fEx, fAll, fOpen, fTrue, fFalse]
  have ht := (nil_terms e n (by omega)).1
  have hA : (pAt e n ⟨[], flt0⟩).2.fl.why ≠ 0 := by
    have h1 := (mono_bad' e).take _ relL ht
    have h2 : (if ((pT e n ⟨[], flt0⟩).2.take relL).1 = [] then ((pT e n ⟨[], flt0⟩).2.take relL).2.wrong e 71 else ((pT e n ⟨[], flt0⟩).2.take relL).2).fl.why ≠ 0 := by
      split
      · exact (mono_bad' e).wrong _ _ (by simp) h1
      · exact h1
    have h3 := (mono_terms (mono_bad' e) n).1 _ h2
    unfold pAt
    try simp only
    split
    · exact mono_mod (mono_bad' e) _ h3
    · exact h3
  rw [pU, take_nil h0]
  exact hA
theorem ext_terms (e e' : Nat × Nat) (M : List Wd) : ∀ n, (∀ m c, 16 * c.length + 3 ≤ n → 16 * (c ++ M).length + 3 ≤ m → Ext sgT M (pT e n ⟨c, flt0⟩) (pT e' m ⟨c ++ M, flt0⟩)) ∧
    (∀ m (x x' : TT × Rs), 16 * x.2.ws.length + 2 ≤ n → 16 * x'.2.ws.length + 2 ≤ m → Ext sgP M x x' → Ext sgT M (pTL e n x) (pTL e' m x')) ∧
    (∀ m c, 16 * c.length + 2 ≤ n → 16 * (c ++ M).length + 2 ≤ m → Ext sgP M (pP e n ⟨c, flt0⟩) (pP e' m ⟨c ++ M, flt0⟩)) ∧
    (∀ m (x x' : TT × Rs), 16 * x.2.ws.length + 1 ≤ n → 16 * x'.2.ws.length + 1 ≤ m → Ext [] M x x' → Ext sgP M (pPL e n x) (pPL e' m x')) ∧
    (∀ m c, 16 * c.length + 1 ≤ n → 16 * (c ++ M).length + 1 ≤ m → Ext [] M (pFa e n ⟨c, flt0⟩) (pFa e' m ⟨c ++ M, flt0⟩))
  | 0 => ⟨fun _ _ h => by omega, fun _ _ _ h => by omega, fun _ _ h => by omega, fun _ _ _ h => by omega, fun _ _ h => by omega⟩
  | n + 1 => by
    obtain ⟨i1, i2, i3, i4, i5⟩ := ext_terms e e' M n
    have mb := mono_terms (mono_bad' e)
    have leP := fun e n r => (terms_le e n).2.2.1 r
    have leF := fun e n r => (terms_le e n).2.2.2.2 r
    refine ⟨fun m c h h' => ?_, fun m x x' h h' hx => ?_, fun m c h h' => ?_, fun m x x' h h' hx => ?_, fun m c h h' => ?_⟩
    all_goals obtain ⟨m, rfl⟩ : ∃ k, m = k + 1 := ⟨m - 1, by omega⟩
    · rw [pT, pT]
      have l1 := leP e n ⟨c, flt0⟩
      have l2 := leP e' m ⟨c ++ M, flt0⟩
      simp only at l1 l2
      exact i2 m _ _ (by omega) (by omega) (i3 m c (by omega) (by omega))
    · intro hf hc
      by_cases hb : x.2.fl.why = 0
      rotate_left
      · exact absurd hf ((mb (n + 1)).2.1 _ hb)
      have hl := (terms_le e (n + 1)).2.1 x
      obtain ⟨c, k1, rfl⟩ := hx hb (cl_back hl hc (by simp [sgP, sgT]))
      rcases x with ⟨t, s⟩
      simp only at k1
      subst k1
      obtain ⟨j1, c', j2, j3⟩ := ext_take (c := c) (M := M) (L := [tAdd, tSub]) (by simp [tAdd, tSub]) (cl_back hl hc (by simp [sgT]))
      have l1 := @take_lt ⟨c, flt0⟩ [tAdd, tSub] (by simp [tAdd, tSub])
      clear hl hx
      revert hf hc
      rw [pTL, pTL]
      simp only [j1, j2, j3]
      rw [j2] at l1
      simp only [List.length_append] at l1 h h'
      have l3 := leP e n ⟨c', flt0⟩
      have l4 := leP e' m ⟨c' ++ M, flt0⟩
      simp only [List.length_append] at l3 l4
      split
      · rename_i hne
        have l1 := l1 (by rw [hne]; simp [tAdd])
        refine i2 m _ _ (by dsimp only; omega) (by dsimp only; omega) fun q hq => ?_
        obtain ⟨d, q1, q2⟩ := i3 m c' (by omega) (by simp; omega) q hq
        exact ⟨d, q1, by rw [q2]⟩
      split
      · rename_i hne
        have l1 := l1 (by rw [hne]; simp [tSub])
        refine i2 m _ _ (by dsimp only; omega) (by dsimp only; omega) fun q hq => ?_
        obtain ⟨d, q1, q2⟩ := i3 m c' (by omega) (by simp; omega) q hq
        exact ⟨d, q1, by rw [q2]⟩
      · exact fun _ _ => ⟨c', rfl, rfl⟩
    · rw [pP, pP]
      have l1 := leF e n ⟨c, flt0⟩
      have l2 := leF e' m ⟨c ++ M, flt0⟩
      simp only at l1 l2
      exact i4 m _ _ (by omega) (by omega) (i5 m c (by omega) (by omega))
    · intro hf hc
      by_cases hb : x.2.fl.why = 0
      rotate_left
      · exact absurd hf ((mb (n + 1)).2.2.2.1 _ hb)
      have hl := (terms_le e (n + 1)).2.2.2.1 x
      obtain ⟨c, k1, rfl⟩ := hx hb (cl_back hl hc (by simp))
      rcases x with ⟨t, s⟩
      simp only at k1
      subst k1
      obtain ⟨j1, c', j2, j3⟩ := ext_take (c := c) (M := M) (L := [tMul]) (by simp [tMul]) (cl_back hl hc (by simp [sgP]))
      have l1 := @take_lt ⟨c, flt0⟩ [tMul] (by simp [tMul])
      clear hl hx
      revert hf hc
      rw [pPL, pPL]
      simp only [j1, j2, j3]
      rw [j2] at l1
      simp only [List.length_append] at l1 h h'
      have l3 := leF e n ⟨c', flt0⟩
      have l4 := leF e' m ⟨c' ++ M, flt0⟩
      simp only [List.length_append] at l3 l4
      split
      · rename_i hne
        have l1 := l1 hne
        refine i4 m _ _ (by dsimp only; omega) (by dsimp only; omega) fun q hq => ?_
        obtain ⟨d, q1, q2⟩ := i5 m c' (by omega) (by simp; omega) q hq
        exact ⟨d, q1, by rw [q2]⟩
      · exact fun _ _ => ⟨c', rfl, rfl⟩
    · cases c with
      | nil => exact Ext.bad (by
          rw [fa_nil]
          show (71 : Int) ≠ 0
          decide)
      | cons w c0 =>
        obtain ⟨j1, c', j2, j3⟩ := ext_take (c := w :: c0) (M := M) (L := [tOpen, tSub]) (by simp [tOpen, tSub]) (.inl (by simp))
        have l1 := @take_lt ⟨w :: c0, flt0⟩ [tOpen, tSub] (by simp [tOpen, tSub])
        have l2 := take_le ⟨w :: c0, flt0⟩ [tOpen, tSub]
        have hn : ((Rs.mk (w :: c0) flt0).take [tOpen, tSub]).1 = [] → c' = w :: c0 := fun k => by
          rcases take_cases ⟨w :: c0, flt0⟩ [tOpen, tSub] with q | ⟨q1, q2, q3⟩
          · rw [q] at j2; exact (congrArg Rs.ws j2).symm
          · rw [q3] at k
            have k : Rs.sign ⟨w :: c0, flt0⟩ = [] := k
            rw [k] at q2; simp [tOpen, tSub] at q2
        rw [pFa, pFa]
        simp only [j1, j2, j3]
        rw [j2] at l1 l2
        simp only [List.length_append] at l1 l2 h h'
        split
        · rename_i hne
          have l1 := l1 (by rw [hne]; simp [tOpen])
          intro q hq
          by_cases hb : (pT e n ⟨c', flt0⟩).2.fl.why = 0
          · have hne2 : (pT e n ⟨c', flt0⟩).2.ws ≠ [] := fun k => by
              have : (pT e n ⟨c', flt0⟩).2 = ⟨[], (pT e n ⟨c', flt0⟩).2.fl⟩ := by rw [← k]
              simp only at q
              rw [this] at q
              exact absurd q (need_nil (by simp [tClose]) hb)
            obtain ⟨d, q1, q2⟩ := i1 m c' (by omega) (by simp; omega) hb (.inl hne2)
            simp only [q1] at q
            obtain ⟨d', p1, p2⟩ := ext_need (e' := e') (M := M) (by simp [tClose]) q
            exact ⟨d', by simp only [q1]; exact p1, by rw [q2, p2]⟩
          · exact absurd q (mono_need (mono_bad' e) _ _ hb)
        split
        · rename_i hne
          have l1 := l1 (by rw [hne]; simp [tSub])
          intro q hq
          obtain ⟨d, q1, q2⟩ := i5 m c' (by omega) (by simp; omega) q hq
          exact ⟨d, q1, by rw [q2]⟩
        · rename_i hne1 hne2
          have hz : ((Rs.mk (w :: c0) flt0).take [tOpen, tSub]).1 = [] := by
            rcases take_cases ⟨w :: c0, flt0⟩ [tOpen, tSub] with q | ⟨q1, q2, q3⟩
            · rw [q]
            · rw [q3] at hne1 hne2
              simp at q2
              exact absurd q2 (by intro k; exact k.elim hne1 hne2)
          have hc := hn hz
          subst hc
          have hcond : (flt0.why = 0 ∧ (w :: c0 ++ M) ≠ [] ∧ (Rs.hd ⟨w :: c0 ++ M, flt0⟩).kind = 0) = (flt0.why = 0 ∧ (w :: c0) ≠ [] ∧ (Rs.hd ⟨w :: c0, flt0⟩).kind = 0) := by
            simp [Rs.hd]
          simp only [hcond]
          split
          · intro q _
            obtain ⟨v, d, q1, q2, q3, q4⟩ := ext_word (e' := e') (M := M) q
            exact ⟨d, by rw [q3], by rw [q3, q4]⟩
          · intro q _
            obtain ⟨v, d, q1, q2, q3, q4⟩ := ext_word (e' := e') (M := M) q
            exact ⟨d, by rw [q3], by rw [q3, q4]⟩

theorem ext_atom (e e' : Nat × Nat) (M : List Wd) (n m : Nat) (c : List Wd) (h : 16 * c.length + 3 ≤ n) (h' : 16 * (c ++ M).length + 3 ≤ m) : Ext sgT M (pAt e n ⟨c, flt0⟩) (pAt e' m ⟨c ++ M, flt0⟩) := by
  have mt := (mono_terms (mono_bad' e) n).1
  have l1 := (terms_le e n).1 ⟨c, flt0⟩
  have l2 := (terms_le e' m).1 ⟨c ++ M, flt0⟩
  simp only [List.length_append] at l1 l2 h'
  have h0 : [] ∉ relL := by simp [relL]
  have bad1 : ∀ r1 : Rs, r1.fl.why ≠ 0 → ∀ (ro : Int) (a : TT), (if ro = 15 then ((.mk 15 [] (modS e (pT e n r1).2).1 .any [a, (pT e n r1).1] .nil [] : FT), (modS e (pT e n r1).2).2) else (.mk ro [] 0 .any [a, (pT e n r1).1] .nil [], (pT e n r1).2)).2.fl.why ≠ 0 := fun r1 hb ro a => by
    split
    · exact mono_mod (mono_bad' e) _ (mt _ hb)
    · exact mt _ hb
  unfold pAt
  try simp only
  by_cases hb : (pT e n ⟨c, flt0⟩).2.fl.why = 0
  rotate_left
  · refine Ext.bad (bad1 _ ?_ _ _)
    split
    · exact (mono_bad' e).wrong _ _ (by simp) ((mono_bad' e).take _ _ hb)
    · exact (mono_bad' e).take _ _ hb
  by_cases hd0 : (pT e n ⟨c, flt0⟩).2.ws = []
  · have hr : (pT e n ⟨c, flt0⟩).2 = ⟨[], (pT e n ⟨c, flt0⟩).2.fl⟩ := by rw [← hd0]
    refine Ext.bad (bad1 _ ?_ _ _)
    rw [hr]
    exact rel_nil h0 hb
  obtain ⟨d, q1, q2⟩ := (ext_terms e e' M n).1 m c (by omega) (by simp; omega) hb (.inl hd0)
  rw [q2]
  simp only [q1]
  rw [q1] at l1
  simp only at l1
  generalize (pT e n ⟨c, flt0⟩).1 = a
  cases d with
  | nil => exact absurd (by rw [q1]) hd0
  | cons w d =>
    obtain ⟨j1, d', j2, j3⟩ := ext_take (c := w :: d) (M := M) (L := relL) h0 (.inl (by simp))
    have l3 := take_le ⟨w :: d, flt0⟩ relL
    rw [j2] at l3
    simp only [List.length_cons] at l3 l1
    rw [j1, j2, j3]
    generalize ((Rs.mk (w :: d) flt0).take relL).1 = kt
    by_cases hk : kt = []
    · refine Ext.bad (bad1 _ ?_ _ _)
      rw [if_pos hk, wrong_new rfl]
      show (71 : Int) ≠ 0
      decide
    rw [if_neg hk, if_neg hk]
    by_cases hb2 : (pT e n ⟨d', flt0⟩).2.fl.why = 0
    rotate_left
    · refine Ext.bad ?_
      split
      · exact mono_mod (mono_bad' e) _ hb2
      · exact hb2
    have hT := (ext_terms e e' M n).1 m d' (by omega) (by simp; omega) hb2
    split
    · rw [modS_eq, modS_eq]
      intro q hq
      simp only at q
      by_cases hg0 : (pT e n ⟨d', flt0⟩).2.ws = []
      · have hr : (pT e n ⟨d', flt0⟩).2 = ⟨[], (pT e n ⟨d', flt0⟩).2.fl⟩ := by rw [← hg0]
        rw [hr] at q
        exact absurd q (mono_modGo (mono_bad' e) _ (need_nil (by simp [fMod]) hb2))
      obtain ⟨g, p1, p2⟩ := hT (.inl hg0)
      rw [p2]
      simp only [p1] at q hq ⊢
      by_cases hn : ((Rs.mk g flt0).need e fMod).fl.why = 0
      rotate_left
      · exact absurd q (mono_modGo (mono_bad' e) _ hn)
      obtain ⟨g', r1, r2⟩ := ext_need (e := e) (e' := e') (M := M) (s := fMod) (by simp [fMod]) hn
      simp only [r1, r2] at q hq ⊢
      by_cases hc : (Rs.mk g' flt0).fl.why = 0 ∧ (Rs.mk g' flt0).ws ≠ [] ∧ (Rs.mk g' flt0).hd.kind = 1 ∧ (Rs.mk g' flt0).hd.num = 0
      · rw [modGo_nought hc, wrong_new rfl] at q
        cases q
      · rw [modGo_else hc] at q ⊢
        obtain ⟨v, g2, s1, s2, s3, s4⟩ := ext_word (e' := e') (M := M) q
        subst s1
        have hc' : ¬ ((Rs.mk (v :: g2 ++ M) flt0).fl.why = 0 ∧ (Rs.mk (v :: g2 ++ M) flt0).ws ≠ [] ∧ (Rs.mk (v :: g2 ++ M) flt0).hd.kind = 1 ∧ (Rs.mk (v :: g2 ++ M) flt0).hd.num = 0) := fun k => hc ⟨rfl, by simp, k.2.2.1, k.2.2.2⟩
        rw [modGo_else hc', s3, s4]
        exact ⟨g2, rfl, rfl⟩
    · intro q hq
      obtain ⟨g, p1, p2⟩ := hT hq
      rw [p2]
      exact ⟨g, p1, rfl⟩
theorem ext_forms (e e' : Nat × Nat) (M : List Wd) : ∀ n, (∀ m c, 16 * c.length + 8 ≤ n → 16 * (c ++ M).length + 8 ≤ m → Ext sgF M (pF e n ⟨c, flt0⟩) (pF e' m ⟨c ++ M, flt0⟩)) ∧
    (∀ m (x x' : FT × Rs), 16 * x.2.ws.length + 7 ≤ n → 16 * x'.2.ws.length + 7 ≤ m → Ext sgI M x x' → Ext sgF M (pFL e n x) (pFL e' m x')) ∧
    (∀ m c, 16 * c.length + 7 ≤ n → 16 * (c ++ M).length + 7 ≤ m → Ext sgI M (pI e n ⟨c, flt0⟩) (pI e' m ⟨c ++ M, flt0⟩)) ∧
    (∀ m c, 16 * c.length + 6 ≤ n → 16 * (c ++ M).length + 6 ≤ m → Ext sgO M (pO e n ⟨c, flt0⟩) (pO e' m ⟨c ++ M, flt0⟩)) ∧
    (∀ m (x x' : FT × Rs), 16 * x.2.ws.length + 5 ≤ n → 16 * x'.2.ws.length + 5 ≤ m → Ext sgA M x x' → Ext sgO M (pOL e n x) (pOL e' m x')) ∧
    (∀ m c, 16 * c.length + 5 ≤ n → 16 * (c ++ M).length + 5 ≤ m → Ext sgA M (pA e n ⟨c, flt0⟩) (pA e' m ⟨c ++ M, flt0⟩)) ∧
    (∀ m (x x' : FT × Rs), 16 * x.2.ws.length + 4 ≤ n → 16 * x'.2.ws.length + 4 ≤ m → Ext sgT M x x' → Ext sgA M (pAL e n x) (pAL e' m x')) ∧
    (∀ m c, 16 * c.length + 4 ≤ n → 16 * (c ++ M).length + 4 ≤ m → Ext sgT M (pU e n ⟨c, flt0⟩) (pU e' m ⟨c ++ M, flt0⟩)) ∧
    (∀ m op c, 16 * c.length + 5 ≤ n → 16 * (c ++ M).length + 5 ≤ m → Ext sgT M (pQ e n op ⟨c, flt0⟩) (pQ e' m op ⟨c ++ M, flt0⟩))
  | 0 => ⟨fun _ _ h => by omega, fun _ _ _ h => by omega, fun _ _ h => by omega, fun _ _ h => by omega, fun _ _ _ h => by omega, fun _ _ h => by omega, fun _ _ _ h => by omega, fun _ _ h => by omega, fun _ _ _ h => by omega⟩
  | n + 1 => by
    obtain ⟨i1, i2, i3, i4, i5, i6, i7, i8, i9⟩ := ext_forms e e' M n
    obtain ⟨m1, m2, m3, m4, m5, m6, m7, m8, m9⟩ := mono_forms (mono_bad' e) (n + 1)
    obtain ⟨b1, b2, b3, b4, b5, b6, b7, b8, b9⟩ := mono_forms (mono_bad' e) n
    obtain ⟨o1, o2, o3, o4, o5, o6, o7, o8, o9⟩ := forms_le e (n + 1)
    have leI : ∀ e n r, (pI e n r).2.ws.length ≤ r.ws.length := fun e n => (forms_le e n).2.2.1
    have leO : ∀ e n r, (pO e n r).2.ws.length ≤ r.ws.length := fun e n => (forms_le e n).2.2.2.1
    have leA : ∀ e n r, (pA e n r).2.ws.length ≤ r.ws.length := fun e n => (forms_le e n).2.2.2.2.2.1
    have leU : ∀ e n r, (pU e n r).2.ws.length ≤ r.ws.length := fun e n => (forms_le e n).2.2.2.2.2.2.2.1
    refine ⟨fun m c h h' => ?_, fun m x x' h h' hx => ?_, fun m c h h' => ?_, fun m c h h' => ?_, fun m x x' h h' hx => ?_, fun m c h h' => ?_, fun m x x' h h' hx => ?_, fun m c h h' => ?_, fun m op c h h' => ?_⟩
    all_goals obtain ⟨m, rfl⟩ : ∃ k, m = k + 1 := ⟨m - 1, by omega⟩
    · rw [pF, pF]
      have l1 := leI e n ⟨c, flt0⟩
      have l2 := leI e' m ⟨c ++ M, flt0⟩
      simp only at l1 l2
      exact i2 m _ _ (by omega) (by omega) (i3 m c (by omega) (by omega))
    · skip
      intro hf hc
      by_cases hb : x.2.fl.why = 0
      rotate_left
      · exact absurd hf (m2 _ hb)
      have hl := o2 x
      obtain ⟨c, k1, rfl⟩ := hx hb (cl_back hl hc (by simp [sgF, sgI]))
      rcases x with ⟨t, s⟩
      simp only at k1
      subst k1
      obtain ⟨j1, c', j2, j3⟩ := ext_take (c := c) (M := M) (L := [fIff]) (by simp [fIff]) (cl_back hl hc (by simp [sgF]))
      have l1 := @take_lt ⟨c, flt0⟩ [fIff] (by simp [fIff])
      clear hl hx
      revert hf hc
      rw [pFL, pFL]
      simp only [j1, j2, j3]
      rw [j2] at l1
      simp only [List.length_append] at l1 h h'
      have l3 := leI e n ⟨c', flt0⟩
      have l4 := leI e' m ⟨c' ++ M, flt0⟩
      simp only [List.length_append] at l3 l4
      split
      · rename_i hne
        have l1 := l1 hne
        refine i2 m _ _ (by dsimp only; omega) (by dsimp only; omega) fun q hq => ?_
        obtain ⟨d, q1, q2⟩ := i3 m c' (by omega) (by simp; omega) q hq
        exact ⟨d, q1, by rw [q2]⟩
      · exact fun _ _ => ⟨c', rfl, rfl⟩
    · intro hf hc
      have hle := o3 ⟨c, flt0⟩
      have l1 := leO e n ⟨c, flt0⟩
      have l2 := leO e' m ⟨c ++ M, flt0⟩
      have hx := i4 m c (by omega) (by omega)
      have hlx : (pI e (n + 1) ⟨c, flt0⟩).2.ws.length ≤ (pO e n ⟨c, flt0⟩).2.ws.length := by
        have h1 := take_le (pO e n ⟨c, flt0⟩).2 [fImp]
        rw [pI]
        try simp only
        split
        · exact Nat.le_trans (leI _ _ _) h1
        · exact h1
      have hbx : (pO e n ⟨c, flt0⟩).2.fl.why = 0 := by
        apply Decidable.of_not_not
        intro hb
        refine absurd hf ?_
        rw [pI]
        try simp only
        split
        · exact b3 _ ((mono_bad' e).take _ _ hb)
        · exact (mono_bad' e).take _ _ hb
      obtain ⟨d, k1, k2⟩ := hx hbx (cl_back hlx hc (by simp [sgO, sgI]))
      have hcd := cl_back (S' := [fImp]) hlx hc (by simp [sgI])
      clear hlx hx hle
      revert hf hc
      rw [pI, pI]
      generalize pO e n ⟨c, flt0⟩ = x at *
      generalize pO e' m ⟨c ++ M, flt0⟩ = x' at *
      subst k2
      rcases x with ⟨t, s⟩
      simp only at k1
      subst k1
      obtain ⟨j1, c', j2, j3⟩ := ext_take (c := d) (M := M) (L := [fImp]) (by simp [fImp]) hcd
      have l3 := @take_lt ⟨d, flt0⟩ [fImp] (by simp [fImp])
      simp only [j1, j2, j3]
      rw [j2] at l3
      simp only [List.length_append] at l1 l2 l3 h h'
      split
      · rename_i hne
        have l3 := l3 hne
        intro q hq
        obtain ⟨g, q1, q2⟩ := i3 m c' (by omega) (by simp; omega) q hq
        exact ⟨g, q1, by rw [q2]⟩
      · exact fun _ _ => ⟨c', rfl, rfl⟩
    · rw [pO, pO]
      have l1 := leA e n ⟨c, flt0⟩
      have l2 := leA e' m ⟨c ++ M, flt0⟩
      simp only at l1 l2
      exact i5 m _ _ (by omega) (by omega) (i6 m c (by omega) (by omega))
    · skip
      intro hf hc
      by_cases hb : x.2.fl.why = 0
      rotate_left
      · exact absurd hf (m5 _ hb)
      have hl := o5 x
      obtain ⟨c, k1, rfl⟩ := hx hb (cl_back hl hc (by simp [sgO, sgA]))
      rcases x with ⟨t, s⟩
      simp only at k1
      subst k1
      obtain ⟨j1, c', j2, j3⟩ := ext_take (c := c) (M := M) (L := [fOr]) (by simp [fOr]) (cl_back hl hc (by simp [sgO]))
      have l1 := @take_lt ⟨c, flt0⟩ [fOr] (by simp [fOr])
      clear hl hx
      revert hf hc
      rw [pOL, pOL]
      simp only [j1, j2, j3]
      rw [j2] at l1
      simp only [List.length_append] at l1 h h'
      have l3 := leA e n ⟨c', flt0⟩
      have l4 := leA e' m ⟨c' ++ M, flt0⟩
      simp only [List.length_append] at l3 l4
      split
      · rename_i hne
        have l1 := l1 hne
        refine i5 m _ _ (by dsimp only; omega) (by dsimp only; omega) fun q hq => ?_
        obtain ⟨d, q1, q2⟩ := i6 m c' (by omega) (by simp; omega) q hq
        exact ⟨d, q1, by rw [q2]⟩
      · exact fun _ _ => ⟨c', rfl, rfl⟩
    · rw [pA, pA]
      have l1 := leU e n ⟨c, flt0⟩
      have l2 := leU e' m ⟨c ++ M, flt0⟩
      simp only at l1 l2
      exact i7 m _ _ (by omega) (by omega) (i8 m c (by omega) (by omega))
    · skip
      intro hf hc
      by_cases hb : x.2.fl.why = 0
      rotate_left
      · exact absurd hf (m7 _ hb)
      have hl := o7 x
      obtain ⟨c, k1, rfl⟩ := hx hb (cl_back hl hc (by simp [sgA, sgT]))
      rcases x with ⟨t, s⟩
      simp only at k1
      subst k1
      obtain ⟨j1, c', j2, j3⟩ := ext_take (c := c) (M := M) (L := [fAnd]) (by simp [fAnd]) (cl_back hl hc (by simp [sgA]))
      have l1 := @take_lt ⟨c, flt0⟩ [fAnd] (by simp [fAnd])
      clear hl hx
      revert hf hc
      rw [pAL, pAL]
      simp only [j1, j2, j3]
      rw [j2] at l1
      simp only [List.length_append] at l1 h h'
      have l3 := leU e n ⟨c', flt0⟩
      have l4 := leU e' m ⟨c' ++ M, flt0⟩
      simp only [List.length_append] at l3 l4
      split
      · rename_i hne
        have l1 := l1 hne
        refine i7 m _ _ (by dsimp only; omega) (by dsimp only; omega) fun q hq => ?_
        obtain ⟨d, q1, q2⟩ := i8 m c' (by omega) (by simp; omega) q hq
        exact ⟨d, q1, by rw [q2]⟩
      · exact fun _ _ => ⟨c', rfl, rfl⟩
    · have h0 : [] ∉ unL := by simp [unL, fNot, fEx, fAll, fOpen, fTrue, fFalse]
      cases c with
      | nil => exact Ext.bad (nil_unary e (n + 1) (by omega))
      | cons w c0 =>
        obtain ⟨j1, c', j2, j3⟩ := ext_take (c := w :: c0) (M := M) (L := unL) h0 (.inl (by simp))
        have l1 := @take_lt ⟨w :: c0, flt0⟩ unL h0
        have l2 := take_le ⟨w :: c0, flt0⟩ unL
        rw [pU, pU]
        simp only [j1, j2, j3]
        rw [j2] at l1 l2
        simp only [List.length_append] at l1 l2 h h'
        generalize ((Rs.mk (w :: c0) flt0).take unL).1 = kt at *
        split
        · rename_i hne
          have l1 := l1 (by rw [hne]; simp [fNot])
          intro q hq
          obtain ⟨d, q1, q2⟩ := i8 m c' (by omega) (by simp; omega) q hq
          exact ⟨d, q1, by rw [q2]⟩
        split
        · rename_i hne
          have l1 := l1 (by rw [hne]; simp [fEx])
          exact i9 m 7 c' (by omega) (by simp; omega)
        split
        · rename_i hne
          have l1 := l1 (by rw [hne]; simp [fAll])
          exact i9 m 8 c' (by omega) (by simp; omega)
        split
        · rename_i hne
          have l1 := l1 (by rw [hne]; simp [fOpen])
          intro q hq
          by_cases hb : (pF e n ⟨c', flt0⟩).2.fl.why = 0
          rotate_left
          · exact absurd q (mono_need (mono_bad' e) _ _ hb)
          have hne2 : (pF e n ⟨c', flt0⟩).2.ws ≠ [] := fun k => by
            have : (pF e n ⟨c', flt0⟩).2 = ⟨[], (pF e n ⟨c', flt0⟩).2.fl⟩ := by rw [← k]
            simp only at q
            rw [this] at q
            exact absurd q (need_nil (by simp [fClose]) hb)
          obtain ⟨d, q1, q2⟩ := i1 m c' (by omega) (by simp; omega) hb (.inl hne2)
          simp only [q1] at q
          obtain ⟨d', p1, p2⟩ := ext_need (e' := e') (M := M) (by simp [fClose]) q
          exact ⟨d', by simp only [q1]; exact p1, by rw [q2, p2]⟩
        split
        · exact fun _ _ => ⟨c', rfl, rfl⟩
        split
        · exact fun _ _ => ⟨c', rfl, rfl⟩
        · exact ext_atom e e' M n m c' (by omega) (by simp; omega)
    · rw [pQ, pQ]
      try simp only
      by_cases hw : ((Rs.mk c flt0).word e 0).2.fl.why = 0
      rotate_left
      · refine Ext.bad ?_
        split
        · exact b9 _ _ ((mono_bad' e).take _ _ hw)
        · exact b8 _ (mono_need (mono_bad' e) _ _ ((mono_bad' e).take _ _ hw))
      obtain ⟨v, d, q1, q2, q3, q4⟩ := ext_word (e := e) (e' := e') (M := M) hw
      subst q1
      rw [q3, q4]
      simp only
      cases d with
      | nil =>
        refine Ext.bad ?_
        rw [take_nil (by simp [fComma])]
        rw [if_neg (by simp)]
        refine b8 _ ?_
        unfold Rs.need
        rw [take_nil (by simp [fDot]), if_pos rfl, wrong_new rfl]
        show (71 : Int) ≠ 0
        decide
      | cons w2 d =>
        obtain ⟨j1, c', j2, j3⟩ := ext_take (c := w2 :: d) (M := M) (L := [fComma]) (by simp [fComma]) (.inl (by simp))
        have l1 := @take_lt ⟨w2 :: d, flt0⟩ [fComma] (by simp [fComma])
        have l2 := take_le ⟨w2 :: d, flt0⟩ [fComma]
        simp only [j1, j2, j3]
        rw [j2] at l1 l2
        simp only [List.length_append, List.length_cons] at l1 l2 h h'
        split
        · rename_i hne
          have l1 := l1 hne
          intro q hq
          obtain ⟨g, p1, p2⟩ := i9 m op c' (by omega) (by simp; omega) q hq
          exact ⟨g, p1, by rw [p2]⟩
        · intro q hq
          by_cases hn : ((Rs.mk c' flt0).need e fDot).fl.why = 0
          rotate_left
          · exact absurd q (b8 _ hn)
          have n1 := need_le e ⟨c', flt0⟩ fDot
          obtain ⟨g, p1, p2⟩ := ext_need (e := e) (e' := e') (M := M) (s := fDot) (by simp [fDot]) hn
          rw [p1] at n1
          simp only at n1
          simp only [p1, p2] at q hq ⊢
          obtain ⟨g2, r1, r2⟩ := i8 m g (by omega) (by simp; omega) q hq
          exact ⟨g2, r1, by rw [r2]⟩

end Tab

/- The reader, plain: what is read is right; where a text stops being one. -/
namespace Tab
open Go
set_option maxRecDepth 10000
set_option linter.unusedVariables false
set_option linter.unusedSimpArgs false
set_option linter.unusedSectionVars false

/-! ### Names -/
theorem run_all_step {s : Str} {p : Nat} (hp : p < s.length) (h : runS restR (s.drop p) = s.length - p) : restR (dec s p).1 = true ∧ runS restR (s.drop (p + (dec s p).2)) = s.length - (p + (dec s p).2) := by
  have hd := dec_drop s p 0
  rw [Nat.add_zero] at hd
  have hne : (s.drop p).length ≠ 0 := by rw [List.length_drop]; omega
  cases hr : restR (dec s p).1 with
  | false => rw [runS_no (by rw [hd]; exact hr)] at h; omega
  | true =>
    refine ⟨rfl, ?_⟩
    rw [runS_yes hne (by rw [hd]; exact hr), hd, List.drop_drop] at h
    omega
theorem nmFrom_all (s : Str) : ∀ (f p n : Nat), s.length < p + f → p ≤ s.length → runS restR (s.drop p) = s.length - p → (p = 0 → startR (dec s 0).1 = true) → nmFrom s f p n = some (n + chS (s.drop p))
  | 0, p, n, h, h2, _, _ => by omega
  | f + 1, p, n, h, h2, h3, h4 => by
    rw [nmFrom]
    by_cases hp : p < s.length
    · obtain ⟨k1, k2⟩ := run_all_step hp h3
      have hw := dec_width s p
      have hft := dec_fits hp
      have hd := dec_drop s p 0
      rw [Nat.add_zero] at hd
      rw [if_pos hp, if_neg, nmFrom_all s f _ _ (by omega) hft k2 (fun h => by omega), chS_step (s := s.drop p) (by rw [List.length_drop]; omega), hd, List.drop_drop]
      · congr 1; omega
      · rw [k1]
        by_cases h0 : p = 0
        · subst h0; rw [h4 rfl]; simp
        · simp [h0]
    · rw [if_neg hp, chS_nil (by rw [List.length_drop]; omega)]; rfl
theorem nameS_run {s : Str} (h0 : s.length ≠ 0) (h1 : runS restR s = s.length) (h2 : startR (dec s 0).1 = true) (h3 : chS s ≤ 16) (h4 : resS s = false) : nameS s = true := by
  have hn := nmFrom_all s (s.length + 1) 0 0 (by omega) (by omega) (by simpa using h1) (fun _ => h2)
  have hc := chS_step h0
  rw [nameS, hn]
  simp [h3, h4]
  omega
theorem tok_name {x : Str} (hx : x.length ≠ 0) (he : (tokS x).err = 0) (hk : (tokS x).kind = 0) : nameS (tokS x).text = true := by
  rw [tokS] at he hk ⊢
  split at he
  · cases he
  · rename_i h1
    rw [if_neg h1] at hk ⊢
    split at he
    · rename_i h2
      rw [if_pos h2] at hk ⊢
      have hr := start_rest h2
      have h4 := run_first hx hr
      have h5 := runS_le restR _ x rfl
      have hw := dec_width x 0
      have htl : (x.take (runS restR x)).length = runS restR x := by rw [List.length_take]; omega
      unfold nameT at he hk ⊢
      split at he
      · rename_i h3
        rw [if_pos h3] at hk; cases hk
      · rename_i h3
        rw [if_neg h3] at hk ⊢
        split at he
        · cases he
        · rename_i h6
          rw [if_neg h6] at hk ⊢
          refine nameS_run (by rw [htl]; omega) (by rw [runS_take restR blank_run.2.2.2.1 _ x _ rfl (Nat.le_refl _), htl]) ?_ (by show chS (x.take (runS restR x)) ≤ 16; omega) (by simpa using h3)
          show startR (dec (x.take (runS restR x)) 0).1 = true
          rw [dec_take (by omega)]; exact h2
    · rename_i h2
      rw [if_neg h2] at hk ⊢
      split at he
      · rename_i h3
        rw [if_pos h3] at hk
        cases hn : numS (x.take (runS digR x)) with
        | none => rw [hn] at he; cases he
        | some v => rw [hn] at hk; cases hk
      · rename_i h3
        rw [if_neg h3] at hk
        split at he
        · rename_i h4
          rw [if_pos h4] at hk; cases hk
        · rename_i h4
          rw [if_neg h4] at hk
          obtain ⟨t, _, _, e, _⟩ := sign_ok he
          rw [e] at hk; cases hk
def okErr (e : Int) : Prop := e = 0 ∨ e = 6 ∨ e = 50 ∨ e = 51 ∨ e = 52
theorem tok_err (x : Str) : okErr (tokS x).err := by
  rw [tokS]
  split
  · exact .inr (.inr (.inl rfl))
  split
  · unfold nameT
    split
    · exact .inl rfl
    split
    · exact .inr (.inl rfl)
    · exact .inl rfl
  split
  · cases numS (x.take (runS digR x)) with
    | none => exact .inr (.inr (.inr (.inr rfl)))
    | some v => exact .inl rfl
  split
  · exact .inl rfl
  · unfold signT
    cases signL.find? fun t => t.isPrefixOf x with
    | none => exact .inr (.inr (.inr (.inl rfl)))
    | some t => exact .inl rfl
theorem lex_err : ∀ (n : Nat) (x : Str), x.length = n → ∀ (a ch : Nat), okErr (lexW x a ch).2.why := by
  intro n
  induction n using Nat.strongRecOn with
  | _ n ih =>
    intro x hn a ch
    rcases part_of x with h | h
    · rw [lexW_nil h]; exact .inl rfl
    · obtain ⟨l1, l2⟩ := h.lt
      by_cases he : (tokS (x.drop (runS blankR x))).err = 0
      · obtain ⟨n1, n2, n3, _⟩ := h.tokN he
        rw [lexW_tok h he]
        exact ih _ (by rw [List.length_drop]; omega) _ rfl _ _
      · rw [lexW_bad h he]; exact tok_err _
theorem lexS_err (s : Str) : okErr (lexS s).2.why ∨ (lexS s).2.why = 70 := by
  rw [lexS_eq]
  split
  · exact .inr rfl
  · have := lex_err _ s rfl 0 0
    unfold finL
    split
    · exact .inl this
    · exact .inl this
/-- A word that names something is a name. -/
def WsNm (r : Rs) : Prop := ∀ w ∈ r.ws, w.kind = 0 → nameS w.text = true
theorem ws_nm (s : Str) : WsNm (rs0 s) := fun w hw hk => by
  have hw : w ∈ (lexS s).1 := hw
  rw [lexS_eq] at hw
  split at hw
  · simp at hw
  have hw : w ∈ (lexW s 0 0).1 := by
    unfold finL at hw
    split at hw
    · simp at hw
    · exact hw
  obtain ⟨a1, a2⟩ := lex_ag _ s rfl 0 0 w hw
  have hz : wrT w.kind w.text w.num = w.text := by rw [wrT, if_neg (by rw [hk]; decide)]
  rw [hz] at a1 a2
  have := tok_name a2 (by rw [a1]) (by rw [a1]; exact hk)
  rwa [a1] at this

/-! ### What is read is right -/
theorem tt_right {op num : Int} {s : Str} {k : SK} {l : List TT} (h : goodT (.mk op num s k l) = true) (hl : ∀ a ∈ l, a.right) : (TT.mk op num s k l).right := by
  rw [TT.right]
  refine ⟨h, ?_⟩
  clear h
  induction l with
  | nil => rw [ttsRight]; trivial
  | cons a l ih => rw [ttsRight]; exact ⟨hl a (by simp), ih fun b hb => hl b (by simp [hb])⟩
theorem ft_right {op md : Int} {s : Str} {tk ak : SK} {ts : List TT} {l : List FT} (h : goodF (.mk op s md tk ts ak l) = true) (ht : ∀ a ∈ ts, a.right) (hl : ∀ a ∈ l, a.right) : (FT.mk op s md tk ts ak l).right := by
  rw [FT.right]
  refine ⟨h, ?_, ?_⟩
  · clear h
    induction ts with
    | nil => rw [ttsRight]; trivial
    | cons a l ih => rw [ttsRight]; exact ⟨ht a (by simp), ih fun b hb => ht b (by simp [hb])⟩
  · clear h
    induction l with
    | nil => rw [ftsRight]; trivial
    | cons a l ih => rw [ftsRight]; exact ⟨hl a (by simp), ih fun b hb => hl b (by simp [hb])⟩
theorem word_nm (e : Nat × Nat) (r : Rs) (h : WsNm r) : (r.word e 0).2.fl.why ≠ 0 ∨ nameS (r.word e 0).1.text = true := by
  rcases word_cases e r 0 with ⟨j, _⟩ | ⟨j1, j2, j3, j4⟩
  · rw [j]
    refine .inl ?_
    by_cases h0 : r.fl.why = 0
    · rw [wrong_new h0]; show (71 : Int) ≠ 0; decide
    · rw [wrong_bad h0]; exact h0
  · rw [j4]; exact .inr (h _ (hd_mem j2) j3)
theorem made_right (e : Nat × Nat) : Made e WsNm (fun r => r.fl.why ≠ 0) TT.right FT.right where
  keep := mono_ws e _
  bad := mono_bad' e
  zero := tt_right (by rfl) (by simp)
  leaf r h := by
    unfold leafP
    split
    · exact (word_nm e r h).imp id fun k => tt_right (by simp [goodT, TT.op, TT.num, TT.name, TT.args, k]) (by simp)
    · exact .inr (tt_right (by simp [goodT, TT.op, TT.num, TT.name, TT.args]) (by simp))
  neg a h := tt_right (by rfl) (by simpa using h)
  two op a b h1 h2 ha hb := tt_right (by
    have : op = 3 ∨ op = 4 ∨ op = 5 := by omega
    rcases this with rfl | rfl | rfl <;> rfl) (by simp; exact ⟨ha, hb⟩)
  nil op h1 h2 := ft_right (by
    have : op = 0 ∨ op = 1 := by omega
    rcases this with rfl | rfl <;> rfl) (by simp) (by simp)
  not a h := ft_right (by rfl) (by simp) (by simpa using h)
  pair op a b h1 h2 ha hb := ft_right (by
    have : op = 3 ∨ op = 4 ∨ op = 5 ∨ op = 6 := by omega
    rcases this with rfl | rfl | rfl | rfl <;> rfl) (by simp) (by simp; exact ⟨ha, hb⟩)
  quant op r ho h := (word_nm e r h).imp id fun k a ha => ft_right (by
    rcases ho with rfl | rfl <;> simp [goodF, FT.op, FT.name, FT.md, FT.terms, FT.args, k]) (by simp) (by simpa using ha)
  rel op a b h1 h2 ha hb := ft_right (by
    have : op = 9 ∨ op = 10 ∨ op = 11 ∨ op = 12 ∨ op = 13 ∨ op = 14 := by omega
    rcases this with rfl | rfl | rfl | rfl | rfl | rfl <;> rfl) (by simp; exact ⟨ha, hb⟩) (by simp)
  cong r a b h ha hb := by
    rw [modS_eq]
    generalize r.need e fMod = n
    by_cases hc : n.fl.why = 0 ∧ n.ws ≠ [] ∧ n.hd.kind = 1 ∧ n.hd.num = 0
    · rw [modGo_nought hc]
      refine .inl ?_
      rw [wrong_new hc.1]; show (92 : Int) ≠ 0; decide
    · rw [modGo_else hc]
      rcases word_cases e n 1 with ⟨j, _⟩ | ⟨j1, j2, j3, j4⟩
      · rw [j]
        refine .inl ?_
        by_cases h0 : n.fl.why = 0
        · rw [wrong_new h0]; show (71 : Int) ≠ 0; decide
        · rw [wrong_bad h0]; exact h0
      · rw [j4]
        have hn : n.hd.num ≠ 0 := fun k => hc ⟨j1, j2, j3, k⟩
        refine .inr (ft_right ?_ (by simp; exact ⟨ha, hb⟩) (by simp))
        have : (1 : Int) ≤ (n.hd.num : Int) := by omega
        simp [goodF, FT.op, FT.name, FT.md, FT.terms, FT.args, this]
theorem readF_right (s : Str) (h : (readF s).2.fl.why = 0) : (readF s).1.right := ((made_forms (made_right (endS s)) _).1 (rs0 s) (ws_nm s)).2.elim (fun k => absurd h k) id
theorem readT_right (s : Str) (h : (readT s).2.fl.why = 0) : (readT s).1.right := ((made_terms (made_right (endS s)) _).1 (rs0 s) (ws_nm s)).2.elim (fun k => absurd h k) id

/-! ### A right tree is too great, or nothing is wrong -/
def okSize (e : Int) : Prop := e = 0 ∨ e = 72 ∨ e = 73
theorem node_size {m : Ms} {d : Nat} (h : okSize m.err) : okSize (nodeM m d true).err := by
  unfold nodeM
  simp only
  split
  · exact .inr (.inr rfl)
  split
  · exact .inr (.inl rfl)
  · exact h
mutual
theorem TT.walk_size : ∀ (t : TT) (d : Nat) (m : Ms), t.right → okSize m.err → okSize (t.walk d m).err
  | .mk op num name k args, d, m, h, hm => by
    rw [TT.right] at h
    have hn := node_size (d := d) hm
    rw [TT.walk, h.1]
    split
    · exact hn
    · exact ttsWalk_size args _ _ h.2 hn
theorem ttsWalk_size : ∀ (l : List TT) (d : Nat) (m : Ms), ttsRight l → okSize m.err → okSize (ttsWalk l d m).err
  | [], d, m, _, hm => by rw [ttsWalk]; exact hm
  | t :: l, d, m, h, hm => by
    rw [ttsRight] at h
    have hn := TT.walk_size t d m h.1 hm
    rw [ttsWalk]
    split
    · exact hn
    · exact ttsWalk_size l _ _ h.2 hn
end
mutual
theorem FT.walk_size : ∀ (t : FT) (d : Nat) (m : Ms), t.right → okSize m.err → okSize (t.walk d m).err
  | .mk op name md tk terms ak args, d, m, h, hm => by
    rw [FT.right] at h
    have hn := node_size (d := d) hm
    rw [FT.walk, h.1]
    have ht := ttsWalk_size terms (d + 1) _ h.2.1 hn
    split
    · exact hn
    split
    · exact ht
    · exact ftsWalk_size args _ _ h.2.2 ht
theorem ftsWalk_size : ∀ (l : List FT) (d : Nat) (m : Ms), ftsRight l → okSize m.err → okSize (ftsWalk l d m).err
  | [], d, m, _, hm => by rw [ftsWalk]; exact hm
  | t :: l, d, m, h, hm => by
    rw [ftsRight] at h
    have hn := FT.walk_size t d m h.1 hm
    rw [ftsWalk]
    split
    · exact hn
    · exact ftsWalk_size l _ _ h.2 hn
end
theorem chkF_size {t : FT} (h : t.right) : okSize (chkF t) := FT.walk_size t 1 ms0 h (.inl rfl)
theorem chkT_size {t : TT} (h : t.right) : okSize (chkT t) := TT.walk_size t 1 ms0 h (.inl rfl)

end Tab

/- The law ParseStops, plain. -/
namespace Tab
open Go
set_option maxRecDepth 10000
set_option linter.unusedVariables false
set_option linter.unusedSimpArgs false
set_option linter.unusedSectionVars false

/-! ### A text is cut at a word -/
theorem lex_at : ∀ (n : Nat) (x : Str), x.length = n → ∀ (a ch : Nat) (c t : List Wd) (w : Wd), (lexW x a ch).1 = c ++ w :: t → ∃ k, k < x.length ∧ w.at' = a + k ∧ lexW (x.take k) a ch = (c, flt0) := by
  intro n
  induction n using Nat.strongRecOn with
  | _ n ih =>
    intro x hn a ch c t0 w hw
    rcases part_of x with h | h
    · rw [lexW_nil h] at hw; cases c <;> cases hw
    · obtain ⟨l1, l2⟩ := h.lt
      generalize hbe : runS blankR x = b at *
      generalize hxe : x.drop b = x1 at *
      generalize hte : tokS x1 = t at *
      by_cases he : t.err = 0
      · obtain ⟨n1, n2, n3, _⟩ := h.tokN he
        rw [lexW_tok h he] at hw
        simp only at hw
        cases c with
        | nil =>
          obtain ⟨rfl, _⟩ := List.cons.inj hw
          refine ⟨b, l1, rfl, ?_⟩
          rw [lexW_nil]
          rw [runS_take blankR blank_run.2.2.2.2 _ x b rfl (by omega), hbe, List.length_take]
          omega
        | cons w0 c =>
          obtain ⟨rfl, hw2⟩ := List.cons.inj hw
          obtain ⟨k, k1, k3, k5⟩ := ih _ (by rw [List.length_drop]; omega) (x1.drop t.n) rfl (a + b + t.n) (ch + chS (x.take b) + chS (x1.take t.n)) _ _ _ hw2
          rw [List.length_drop] at k1
          have hp := h.cut he (k := t.n + k) (by omega)
          refine ⟨b + (t.n + k), by omega, by rw [k3]; omega, ?_⟩
          have t1 : (x.take (b + (t.n + k))).take b = x.take b := by rw [List.take_take, Nat.min_eq_left (by omega)]
          have t2 : (x1.take (t.n + k)).take t.n = x1.take t.n := by rw [List.take_take, Nat.min_eq_left (by omega)]
          have t3 : (x1.take (t.n + k)).drop t.n = (x1.drop t.n).take k := by rw [take_drop', Nat.add_sub_cancel_left]
          rw [lexW_tok hp he, t1, t2, t3, k5]
      · rw [lexW_bad h he] at hw; cases c <;> cases hw

/-! ### Texts without a fault of the lexer -/
theorem lexS_zero {s : Str} (h : (lexS s).2.why = 0) : s.length ≤ 4096 ∧ lexW s 0 0 = ((lexS s).1, flt0) ∧ (lexS s).2 = flt0 := by
  rw [lexS_eq] at h ⊢
  by_cases hl : 4096 < s.length
  · rw [if_pos hl] at h; cases h
  rw [if_neg hl] at h ⊢
  have hz := (lexW_ok _ s rfl 0 0).2.2.1
  unfold finL at h ⊢
  by_cases hw : (lexW s 0 0).2.why ≠ 0
  · rw [if_pos hw] at h; exact absurd h hw
  · rw [if_neg hw]
    have := hz (Decidable.of_not_not hw)
    exact ⟨by omega, Prod.ext rfl this, this⟩
theorem lexS_of {s : Str} {W : List Wd} (hl : s.length ≤ 4096) (h : lexW s 0 0 = (W, flt0)) : lexS s = (W, flt0) := by
  rw [lexS_eq, if_neg (by omega), h]; rfl
theorem rs0_of {s : Str} {W : List Wd} (h : lexS s = (W, flt0)) : rs0 s = ⟨W, flt0⟩ := by rw [rs0, h]

/-! ### What parF says -/
theorem parF_bad {s : Str} (h : ((readF s).2.done (endS s)).fl.why ≠ 0) : parF s = (nilF 0, ((readF s).2.done (endS s)).fl) := if_pos h
theorem parF_size {s : Str} (h : ((readF s).2.done (endS s)).fl.why = 0) : (readF s).2.fl.why = 0 ∧ (readF s).2.ws = [] ∧ (parF s).2.why = chkF (readF s).1 ∧ okSize (chkF (readF s).1) ∧ (parF s).1 = (if chkF (readF s).1 = 0 then (readF s).1 else nilF 0) ∧ (parF s).2.at' = (readF s).2.fl.at' ∧ (parF s).2.ch = (readF s).2.fl.ch := by
  have hd : (readF s).2.fl.why = 0 ∧ (readF s).2.ws = [] := by
    unfold Rs.done at h
    split at h
    · rename_i hne
      by_cases h0 : (readF s).2.fl.why = 0
      · rw [wrong_new h0] at h; cases h
      · rw [wrong_bad h0] at h; exact absurd h h0
    · rename_i hne; exact ⟨h, Decidable.of_not_not hne⟩
  have hfl : ((readF s).2.done (endS s)) = (readF s).2 := by
    unfold Rs.done; exact if_neg (by rw [hd.2]; simp)
  refine ⟨hd.1, hd.2, ?_, chkF_size (readF_right s hd.1), ?_⟩
  · show (if ((readF s).2.done (endS s)).fl.why ≠ 0 then _ else _ : FT × Flt).2.why = _
    rw [if_neg (by rw [h]; simp)]
    by_cases hc : chkF (readF s).1 ≠ 0
    · rw [if_pos hc]
    · rw [if_neg hc]; exact (Decidable.of_not_not hc).symm
  · have : parF s = (if chkF (readF s).1 ≠ 0 then (nilF 0, ⟨chkF (readF s).1, ((readF s).2.done (endS s)).fl.at', ((readF s).2.done (endS s)).fl.ch⟩) else ((readF s).1, ⟨0, ((readF s).2.done (endS s)).fl.at', ((readF s).2.done (endS s)).fl.ch⟩)) := if_neg (by rw [h]; simp)
    rw [this, hfl]
    by_cases hc : chkF (readF s).1 ≠ 0
    · rw [if_pos hc, if_neg hc]; exact ⟨rfl, rfl, rfl⟩
    · rw [if_neg hc, if_pos (Decidable.of_not_not hc)]; exact ⟨rfl, rfl, rfl⟩
theorem parF_good {s : Str} (h : (parF s).2.why = 0) : chkF (parF s).1 = 0 ∧ (parF s).1 = (readF s).1 ∧ (readF s).2.fl.why = 0 ∧ (readF s).2.ws = [] := by
  by_cases hb : ((readF s).2.done (endS s)).fl.why = 0
  · obtain ⟨h1, h2, h3, h4, h5, h6, h7⟩ := parF_size hb
    rw [h3] at h
    rw [h5, if_pos h]
    exact ⟨h, rfl, h1, h2⟩
  · rw [parF_bad hb] at h; exact absurd h hb

/-- A fault of the lexer is the reader's. -/
theorem readF_lex {s : Str} (h : (lexS s).2.why ≠ 0) : (readF s).2.fl = (lexS s).2 := ((mono_forms (mono_bad (endS s) _ h) _).1 (rs0 s) rfl)
theorem parF_lex {s : Str} (h : (lexS s).2.why ≠ 0) : (parF s).2 = (lexS s).2 := by
  have hr := readF_lex h
  have hd : ((readF s).2.done (endS s)).fl = (lexS s).2 := by
    unfold Rs.done
    split
    · rw [wrong_bad (by rw [hr]; exact h), hr]
    · exact hr
  rw [parF_bad (by rw [hd]; exact h), hd]

/-! ### The law -/
def SufW (W : List Wd) (r : Rs) : Prop := ∃ c, W = c ++ r.ws
theorem mono_suf (e : Nat × Nat) (W : List Wd) : Mono e (SufW W) where
  take r L h := by
    obtain ⟨c, h⟩ := h
    rcases take_cases r L with k | ⟨k1, k2, k3⟩
    · rw [k]; exact ⟨c, h⟩
    · rw [k3]
      cases hw : r.ws with
      | nil => exact ⟨c, by rw [h, hw]; rfl⟩
      | cons w t => exact ⟨c ++ [w], by rw [h, hw]; simp⟩
  wrong r y _ h := by obtain ⟨c, h⟩ := h; exact ⟨c, by rw [wrong_ws]; exact h⟩
  word r k h := by
    obtain ⟨c, h⟩ := h
    rcases word_cases e r k with ⟨j, _⟩ | ⟨j1, j2, j3, j4⟩
    · rw [j]; exact ⟨c, by rw [wrong_ws]; exact h⟩
    · rw [j4]
      cases hw : r.ws with
      | nil => exact ⟨c, by rw [h, hw]; rfl⟩
      | cons w t => exact ⟨c ++ [w], by rw [h, hw]; simp⟩
theorem plc_start (e : Nat × Nat) (W : List Wd) : Plc e ⟨W, flt0⟩ := .inl rfl
theorem readF_plc {s : Str} (h : (lexS s).2.why = 0) : Plc (endS s) (readF s).2 := by
  refine (mono_forms (mono_plc (endS s)) _).1 (rs0 s) ?_
  exact .inl (lexS_zero h).2.2
theorem readF_suf (s : Str) : SufW (lexS s).1 (readF s).2 := (mono_forms (mono_suf (endS s) _) _).1 (rs0 s) ⟨[], rfl⟩
/-- A text that goes wrong by the grammar ahead of its end goes wrong at a word. -/
theorem stop_word {s : Str} (h : (parF s).2.why = 71) (hk : (parF s).2.at' < s.length) : (lexS s).2.why = 0 ∧ ∃ c w t, (lexS s).1 = c ++ w :: t ∧ (readF s).2.ws = w :: t ∧ (parF s).2 = ⟨71, w.at', w.ch⟩ ∧ ((readF s).2.fl.why = 71 ∨ (readF s).2.fl.why = 0) := by
  have hz : (lexS s).2.why = 0 := by
    apply Decidable.of_not_not
    intro hn
    rw [parF_lex hn] at h
    rcases lexS_err s with (e | e | e | e | e) | e <;> rw [h] at e <;> cases e
  refine ⟨hz, ?_⟩
  have hp := readF_plc hz
  obtain ⟨c, hc⟩ := readF_suf s
  have hb : ((readF s).2.done (endS s)).fl.why ≠ 0 := fun hn => by
    obtain ⟨_, _, k1, k2, _⟩ := parF_size hn
    rw [k1] at h
    rcases k2 with e | e | e <;> rw [h] at e <;> cases e
  rw [parF_bad hb] at h hk
  simp only at h hk
  by_cases h0 : (readF s).2.fl.why = 0
  · have hne : (readF s).2.ws ≠ [] := fun hn => by
      unfold Rs.done at h
      rw [if_neg (by rw [hn]; simp), h0] at h
      cases h
    cases hw : (readF s).2.ws with
    | nil => exact absurd hw hne
    | cons w t =>
      refine ⟨c, w, t, by rw [hc, hw], rfl, ?_, .inr h0⟩
      rw [parF_bad hb]
      unfold Rs.done
      rw [if_pos hne, wrong_new h0, hw]
      rfl
  · have hd : ((readF s).2.done (endS s)).fl = (readF s).2.fl := by
      unfold Rs.done
      split
      · rw [wrong_bad h0]
      · rfl
    rw [hd] at h hk
    rcases hp with hp | ⟨_, hp⟩
    · rw [hp] at h; cases h
    · cases hw : (readF s).2.ws with
      | nil =>
        rw [hw] at hp
        have h1 : (readF s).2.fl.at' = (endS s).1 := (congrArg Prod.fst hp : _)
        rw [h1] at hk
        have : s.length < s.length := hk
        omega
      | cons w t =>
        refine ⟨c, w, t, by rw [hc, hw], rfl, ?_, .inl h⟩
        rw [parF_bad hb, hd]
        rw [hw] at hp
        have h1 : (readF s).2.fl.at' = w.at' := congrArg Prod.fst hp
        have h2 : (readF s).2.fl.ch = w.ch := congrArg Prod.snd hp
        generalize (readF s).2.fl = f at *
        rcases f with ⟨y, p, q⟩
        simp only at h h1 h2
        rw [h, h1, h2]
/-- The same words up to that place. -/
theorem stop_same {s s' : Str} {c t a' : List Wd} {w : Wd} (hz : (lexS s).2.why = 0) (hs : (lexS s).1 = c ++ w :: t) (hr : (readF s).2.ws = w :: t) (hy : (readF s).2.fl.why = 71 ∨ (readF s).2.fl.why = 0) (hs' : lexS s' = (c ++ a', flt0)) (hh : hdEq (w :: t) a') :
    (readF s').2.ws = a' ∧ (readF s').2.fl.why = (readF s).2.fl.why := by
  have h0 : rs0 s = ⟨c ++ w :: t, flt0⟩ := by rw [rs0, hs, (lexS_zero hz).2.2]
  have h0' : rs0 s' = ⟨c ++ a', flt0⟩ := rs0_of hs'
  have hsim := (sim_forms (sim_SL (endS s) (endS s') (List.cons_ne_nil w t) hh) (16 * (rs0 s).ws.length + 16)).1 (16 * (rs0 s').ws.length + 16) (rs0 s) (rs0 s') (by omega) (by omega) ⟨c, by rw [h0], by rw [h0'], by rw [h0, h0']⟩
  rcases hsim with hb | ⟨_, c', k1, k2, k3⟩
  · have hb : BL (w :: t) (readF s).2 := hb
    rcases hb with hb | hb
    · rw [hr] at hb; omega
    · rw [hb] at hy; rcases hy with e | e <;> cases e
  · have k1 : (readF s).2.ws = c' ++ w :: t := k1
    have k2 : (readF s').2.ws = c' ++ a' := k2
    have k3 : (readF s).2.fl.why = (readF s').2.fl.why := k3
    have : c' = [] := by
      rw [hr] at k1
      have := congrArg List.length k1
      simp only [List.length_append, List.length_cons] at this
      exact List.length_eq_zero_iff.1 (by omega)
    subst this
    exact ⟨k2, k3.symm⟩
theorem stops_head {s : Str} (h : (parF s).2.why = 71) (hk : (parF s).2.at' < s.length) : ((parF (s.take (parF s).2.at')).2.why = 71 ∧ (parF (s.take (parF s).2.at')).2.at' = (parF s).2.at') ∨ okSize (parF (s.take (parF s).2.at')).2.why := by
  obtain ⟨hz, c, w, t, hs, hr, hf, hy⟩ := stop_word h hk
  obtain ⟨hl, hlw, _⟩ := lexS_zero hz
  obtain ⟨k, k1, k2, k3⟩ := lex_at _ s rfl 0 0 c t w (by rw [hlw]; exact hs)
  rw [Nat.zero_add] at k2
  have ha : (parF s).2.at' = k := by rw [hf]; exact k2
  rw [ha]
  have hlen : (s.take k).length = k := by rw [List.length_take]; omega
  have hs' : lexS (s.take k) = (c ++ [], flt0) := by rw [List.append_nil]; exact lexS_of (by omega) k3
  obtain ⟨j1, j2⟩ := stop_same hz hs hr hy hs' (.inl rfl)
  have hd : (readF (s.take k)).2.done (endS (s.take k)) = (readF (s.take k)).2 := by unfold Rs.done; exact if_neg (by rw [j1]; simp)
  rcases hy with hy | hy
  · left
    have hb : ((readF (s.take k)).2.done (endS (s.take k))).fl.why ≠ 0 := by rw [hd, j2, hy]; decide
    rw [parF_bad hb, hd]
    refine ⟨by rw [j2, hy], ?_⟩
    rcases readF_plc (s := s.take k) (by rw [hs']; rfl) with q | ⟨_, q⟩
    · rw [q] at j2; rw [hy] at j2; cases j2
    · rw [j1] at q
      have : (readF (s.take k)).2.fl.at' = (s.take k).length := congrArg Prod.fst q
      rw [this, hlen]
  · right
    obtain ⟨_, _, q1, q2, _⟩ := parF_size (s := s.take k) (by rw [hd, j2, hy])
    rw [q1]; exact q2
theorem stops_more {s : Str} (more : Str) (h : (parF s).2.why = 71) (hk : (parF s).2.at' < s.length) : (parF (s ++ 32 :: more)).2 = (parF s).2 ∨ (okErr (parF (s ++ 32 :: more)).2.why ∧ (parF (s ++ 32 :: more)).2.why ≠ 0) ∨ (parF (s ++ 32 :: more)).2.why = 70 := by
  by_cases hn : (lexS (s ++ 32 :: more)).2.why ≠ 0
  · rw [parF_lex hn]
    rcases lexS_err (s ++ 32 :: more) with e | e
    · exact .inr (.inl ⟨e, hn⟩)
    · exact .inr (.inr e)
  have hn : (lexS (s ++ 32 :: more)).2.why = 0 := Decidable.of_not_not hn
  left
  obtain ⟨hz, c, w, t, hs, hr, hf, hy⟩ := stop_word h hk
  obtain ⟨hl, hlw, _⟩ := lexS_zero hz
  obtain ⟨hl', hlw', hz'⟩ := lexS_zero hn
  have hj := lex_join more _ s rfl 0 0
  rw [hlw', if_neg (by rw [hlw]; simp [flt0]), hlw, hs] at hj
  generalize (lexW more (0 + s.length + 1) (0 + chS s + 1)).1 = wm at hj
  have hs' : lexS (s ++ 32 :: more) = (c ++ (w :: (t ++ wm)), flt0) := by
    refine Prod.ext ?_ hz'
    have := congrArg Prod.fst hj
    simp only at this
    rw [this]; simp
  obtain ⟨j1, j2⟩ := stop_same hz hs hr hy hs' (.inr ⟨w, t, t ++ wm, rfl, rfl⟩)
  rw [hf]
  rcases hy with hy | hy
  · have hd : ((readF (s ++ 32 :: more)).2.done (endS (s ++ 32 :: more))).fl = (readF (s ++ 32 :: more)).2.fl := by
      unfold Rs.done
      split
      · rw [wrong_bad (by rw [j2, hy]; decide)]
      · rfl
    have hb : ((readF (s ++ 32 :: more)).2.done (endS (s ++ 32 :: more))).fl.why ≠ 0 := by rw [hd, j2, hy]; decide
    rw [parF_bad hb, hd]
    rcases readF_plc hn with q | ⟨_, q⟩
    · rw [q] at j2; rw [hy] at j2; cases j2
    · rw [j1] at q
      rw [hy] at j2
      generalize (readF (s ++ 32 :: more)).2.fl = f at *
      rcases f with ⟨y, p, q'⟩
      simp only [posW, Prod.mk.injEq] at j2 q
      show Flt.mk y p q' = _
      rw [j2, q.1, q.2]
  · have hd : ((readF (s ++ 32 :: more)).2.done (endS (s ++ 32 :: more))).fl = ⟨71, w.at', w.ch⟩ := by
      unfold Rs.done
      rw [if_pos (by rw [j1]; simp), wrong_new (by rw [j2, hy]), j1]
      rfl
    rw [parF_bad (by rw [hd]; show (71 : Int) ≠ 0; decide), hd]

end Tab
