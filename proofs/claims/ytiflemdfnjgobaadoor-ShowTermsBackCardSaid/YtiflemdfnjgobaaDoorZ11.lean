/- Lemmas for this claim: part 11. No condition. -/
import Derived.Test.YtiflemdfnjgobaaDoorZ8
import Derived.Test.YtiflemdfnjgobaaDoorZ9
import Derived.Test.YtiflemdfnjgobaaDoorZ10
import Derived.Laws.BitsLemmas
import Derived.KernelRfl
/- Decoding of a text's first character, by the tables. -/
namespace Tab
open Go Go.Proofs
set_option maxRecDepth 10000
set_option linter.unusedVariables false
set_option linter.unusedSimpArgs false
set_option linter.unusedSectionVars false

theorem byt_at {f : Nat → Int} {c : Nat} (h : c < 256) : ((bytZ ((List.range 256).map f)).drop (((c : Nat) : Int).toNat * 1))[0]? = some (.int .u8 (f c)) := by
  rw [Int.toNat_natCast, Nat.mul_one, bytZ, List.map_map, List.getElem?_drop, Nat.add_zero, List.getElem?_map, List.getElem?_range h]
  rfl

theorem or2 (a b : Nat) (ha : a < 256) (hb : b < 256) : bits .or .i32 (IntKind.wrap .i32 (IntKind.wrap .i32 (bits .and .u8 a 31) * 2 ^ 6)) (IntKind.wrap .i32 (bits .and .u8 b 63)) = ((a % 32 * 64 + b % 64 : Nat) : Int) := by
  rw [u8_and31 _ (by omega) (by omega), u8_and63 _ (by omega) (by omega)]
  rw [IntWalk.i32_in ((a : Int) % 32) (by omega), IntWalk.i32_in ((b : Int) % 64) (by omega), IntWalk.i32_in _ (by omega), i32_or6 _ _ (by omega) (by omega) (by omega) (by omega) (by omega)]
  omega
theorem or3 (a b c : Nat) (ha : a < 256) (hb : b < 256) (hc : c < 256) : bits .or .i32 (bits .or .i32 (IntKind.wrap .i32 (IntKind.wrap .i32 (bits .and .u8 a 15) * 2 ^ 12)) (IntKind.wrap .i32 (IntKind.wrap .i32 (bits .and .u8 b 63) * 2 ^ 6))) (IntKind.wrap .i32 (bits .and .u8 c 63)) = ((a % 16 * 4096 + b % 64 * 64 + c % 64 : Nat) : Int) := by
  rw [u8_and15 _ (by omega) (by omega), u8_and63 _ (by omega) (by omega), u8_and63 _ (by omega) (by omega)]
  rw [IntWalk.i32_in ((a : Int) % 16) (by omega), IntWalk.i32_in ((b : Int) % 64) (by omega), IntWalk.i32_in ((c : Int) % 64) (by omega), IntWalk.i32_in _ (by omega), IntWalk.i32_in _ (by omega),
    i32_or12 ((a : Int) % 16 * 2 ^ 12) ((b : Int) % 64 * 2 ^ 6) (by omega) (by omega) (by omega) (by omega) (by omega), i32_or6 _ _ (by omega) (by omega) (by omega) (by omega) (by omega)]
  omega
theorem or4 (a b c d : Nat) (ha : a < 256) (hb : b < 256) (hc : c < 256) (hd : d < 256) : bits .or .i32 (bits .or .i32 (bits .or .i32 (IntKind.wrap .i32 (IntKind.wrap .i32 (bits .and .u8 a 7) * 2 ^ 18)) (IntKind.wrap .i32 (IntKind.wrap .i32 (bits .and .u8 b 63) * 2 ^ 12))) (IntKind.wrap .i32 (IntKind.wrap .i32 (bits .and .u8 c 63) * 2 ^ 6))) (IntKind.wrap .i32 (bits .and .u8 d 63)) = ((a % 8 * 262144 + b % 64 * 4096 + c % 64 * 64 + d % 64 : Nat) : Int) := by
  rw [u8_and7 _ (by omega) (by omega), u8_and63 _ (by omega) (by omega), u8_and63 _ (by omega) (by omega), u8_and63 _ (by omega) (by omega)]
  rw [IntWalk.i32_in ((a : Int) % 8) (by omega), IntWalk.i32_in ((b : Int) % 64) (by omega), IntWalk.i32_in ((c : Int) % 64) (by omega), IntWalk.i32_in ((d : Int) % 64) (by omega), IntWalk.i32_in _ (by omega), IntWalk.i32_in _ (by omega), IntWalk.i32_in _ (by omega),
    i32_or18 ((a : Int) % 8 * 2 ^ 18) ((b : Int) % 64 * 2 ^ 12) (by omega) (by omega) (by omega) (by omega) (by omega), i32_or12 ((a : Int) % 8 * 2 ^ 18 + (b : Int) % 64 * 2 ^ 12) ((c : Int) % 64 * 2 ^ 6) (by omega) (by omega) (by omega) (by omega) (by omega), i32_or6 _ _ (by omega) (by omega) (by omega) (by omega) (by omega)]
  omega

theorem d2 {s : Str} (h1 : 194 ≤ bt s 0) (h2 : bt s 0 < 224) : dec s 0 = if 1 < s.length ∧ 128 ≤ bt s 1 ∧ bt s 1 ≤ 191 then (bt s 0 % 32 * 64 + bt s 1 % 64, 2) else (65533, 1) := by
  have hb1 := bt_lt s 1
  rw [dec_def]
  simp only [Bool.and_eq_true, ctb_iff, beq_iff_eq, decide_eq_true_eq, okc_iff, ge_iff_le, Nat.zero_add]
  rw [if_neg (by omega)]
  by_cases hc : 1 < s.length ∧ 128 ≤ bt s 1 ∧ bt s 1 ≤ 191
  · rw [if_pos hc, if_pos (by omega), if_pos (by omega)]
  · rw [if_neg hc, if_neg (by omega), if_neg (by omega), if_neg (by omega)]
theorem d3 {s : Str} {lo hi : Nat} (h1 : 224 ≤ bt s 0) (h2 : bt s 0 < 240) (hlo : lo = if bt s 0 = 224 then 160 else 128) (hhi : hi = if bt s 0 = 237 then 159 else 191) :
    dec s 0 = if 2 < s.length ∧ lo ≤ bt s 1 ∧ bt s 1 ≤ hi ∧ 128 ≤ bt s 2 ∧ bt s 2 ≤ 191 then (bt s 0 % 16 * 4096 + bt s 1 % 64 * 64 + bt s 2 % 64, 3) else (65533, 1) := by
  have hb1 := bt_lt s 1
  have hb2 := bt_lt s 2
  rw [dec_def]
  simp only [Bool.and_eq_true, ctb_iff, beq_iff_eq, decide_eq_true_eq, okc_iff, ge_iff_le, Nat.zero_add]
  rw [if_neg (by omega), if_neg (by omega)]
  by_cases hc : 2 < s.length ∧ lo ≤ bt s 1 ∧ bt s 1 ≤ hi ∧ 128 ≤ bt s 2 ∧ bt s 2 ≤ 191
  · rw [if_pos hc]
    split at hlo <;> split at hhi <;> (rw [if_pos (by omega), if_pos (by omega)])
  · rw [if_neg hc]
    split at hlo <;> split at hhi <;> (repeat' split) <;> first | rfl | omega
theorem d4 {s : Str} {lo hi : Nat} (h1 : 240 ≤ bt s 0) (h2 : bt s 0 < 245) (hlo : lo = if bt s 0 = 240 then 144 else 128) (hhi : hi = if bt s 0 = 244 then 143 else 191) :
    dec s 0 = if 3 < s.length ∧ lo ≤ bt s 1 ∧ bt s 1 ≤ hi ∧ 128 ≤ bt s 2 ∧ bt s 2 ≤ 191 ∧ 128 ≤ bt s 3 ∧ bt s 3 ≤ 191 then (bt s 0 % 8 * 262144 + bt s 1 % 64 * 4096 + bt s 2 % 64 * 64 + bt s 3 % 64, 4) else (65533, 1) := by
  have hb1 := bt_lt s 1
  have hb2 := bt_lt s 2
  have hb3 := bt_lt s 3
  rw [dec_def]
  simp only [Bool.and_eq_true, ctb_iff, beq_iff_eq, decide_eq_true_eq, okc_iff, ge_iff_le, Nat.zero_add]
  rw [if_neg (by omega), if_neg (by omega), if_neg (by omega)]
  by_cases hc : 3 < s.length ∧ lo ≤ bt s 1 ∧ bt s 1 ≤ hi ∧ 128 ≤ bt s 2 ∧ bt s 2 ≤ 191 ∧ 128 ≤ bt s 3 ∧ bt s 3 ≤ 191
  · rw [if_pos hc]
    split at hlo <;> split at hhi <;> (rw [if_pos (by omega), if_pos (by omega)])
  · rw [if_neg hc]
    split at hlo <;> split at hhi <;> (repeat' split) <;> first | rfl | omega

end Tab

/- Decoding of a text's first character: the walk, characters of two bytes. -/
namespace Tab
open Go Go.Proofs
set_option maxRecDepth 10000
set_option linter.unusedVariables false
set_option linter.unusedSimpArgs false
set_option linter.unusedSectionVars false
set_option maxHeartbeats 1000000

theorem slow_x (s : Str) (h1 : (128 ≤ bt s 0 ∧ bt s 0 < 194) ∨ 245 ≤ bt s 0) (hp : 0 < s.length) (hl : s.length < 2^62) : Pure Tryd.prog 132 [.str s] (.tup [.int .i32 (dec s 0).1, .int .i64 (dec s 0).2]) := by
  have hb := bt_lt s 0
  have hx : fstV (bt s 0) = 241 := by unfold fstV; (repeat' split) <;> first | rfl | omega
  rw [decX h1]
  have hm : ∀ c : Nat, c < 256 → bits .or .i32 (bits .andNot .i32 (IntKind.wrap .i32 (c : Int)) (-1)) (bits .and .i32 65533 (-1)) = 65533 := by
    have : (List.range 256).all (fun c => decide (bits .or .i32 (bits .andNot .i32 (IntKind.wrap .i32 ((c : Nat) : Int)) (-1)) (bits .and .i32 65533 (-1)) = 65533)) = true := by kernel_rfl
    intro c hc
    simpa using List.all_eq_true.1 this c (List.mem_range.2 hc)
  refine Pure.of_sw 117 Tryd.func132 rfl Tryd.ntmps132 (by kernel_rfl) (Nat.le_of_ble_eq_true (by kernel_rfl)) (by simp [closeds, AV.closed, aSs_closed, aIs_closed, aBs_closed, aRs_closed, aDen_closed]) (by simp [AV.closed, closeds, aSs_closed, aIs_closed, aBs_closed, aRs_closed, aDen_closed]) ?_; refine SW.of_vc ?_
  repeat first | refine opsStep ?_ | refine codeStep ?_ | refine drawStep ?_
  refine decB_dec (fun h0 => ?_) (fun h0 => ?_)
  · exfalso; have : (s.length : Int) < 1 := h0; omega
  repeat first | refine opsStep ?_ | refine codeStep ?_ | refine drawStep ?_
  refine optE_of (c := s[0]) (by simp [hp]) ?_
  repeat first | refine opsStep ?_ | refine codeStep ?_ | refine drawStep ?_
  rw [bt_at hp]
  refine guardE_of ⟨by omega, by show (bt s 0 : Int) < 256; omega⟩ ?_
  repeat first | refine opsStep ?_ | refine codeStep ?_ | refine drawStep ?_
  refine optE_of (c := .int .u8 241) ((byt_at (by omega)).trans (by rw [hx])) ?_
  iterate 2 refine opsStep ?_
  refine VCode.ent (Ent.fr' (l := [(0, .str s), (4, .int .i64 s.length), (5, .int .u8 (bt s 0)), (6, .int .u8 241)]) (H' := []) ⟨(by kernel_rfl), (by kernel_rfl), (by kernel_rfl), (by kernel_rfl), trivial⟩ (by kernel_rfl)) ?_
  repeat first | refine opsStep ?_ | refine codeStep ?_ | refine drawStep ?_
  refine optE_of (c := s[0]) (by simp [hp]) ?_
  repeat first | refine opsStep ?_ | refine codeStep ?_ | refine drawStep ?_
  rw [bt_at hp]
  exact finV (v' := .tup [.int .i32 (bits .or .i32 (bits .andNot .i32 (IntKind.wrap .i32 (bt s 0 : Int)) (-1)) (bits .and .i32 65533 (-1))), .int .i64 1]) (by kernel_rfl) (by rw [hm _ hb]; rfl)

theorem slow_2 (s : Str) (h1 : 194 ≤ bt s 0) (h2 : bt s 0 < 224) (hp : 0 < s.length) (hl : s.length < 2^62) : Pure Tryd.prog 132 [.str s] (.tup [.int .i32 (dec s 0).1, .int .i64 (dec s 0).2]) := by
  have hb := bt_lt s 0
  have hb1 := bt_lt s 1
  have hx : fstV (bt s 0) = 2 := by unfold fstV; (repeat' split) <;> first | rfl | omega
  have hd := d2 h1 h2
  refine Pure.of_sw 117 Tryd.func132 rfl Tryd.ntmps132 (by kernel_rfl) (Nat.le_of_ble_eq_true (by kernel_rfl)) (by simp [closeds, AV.closed, aSs_closed, aIs_closed, aBs_closed, aRs_closed, aDen_closed]) (by simp [AV.closed, closeds, aSs_closed, aIs_closed, aBs_closed, aRs_closed, aDen_closed]) ?_; refine SW.of_vc ?_
  repeat first | refine opsStep ?_ | refine codeStep ?_ | refine drawStep ?_
  refine decB_dec (fun h0 => ?_) (fun h0 => ?_)
  · exfalso; have : (s.length : Int) < 1 := h0; omega
  repeat first | refine opsStep ?_ | refine codeStep ?_ | refine drawStep ?_
  refine optE_of (c := s[0]) (by simp [hp]) ?_
  repeat first | refine opsStep ?_ | refine codeStep ?_ | refine drawStep ?_
  rw [bt_at hp]
  refine guardE_of ⟨by omega, by show (bt s 0 : Int) < 256; omega⟩ ?_
  repeat first | refine opsStep ?_ | refine codeStep ?_ | refine drawStep ?_
  refine optE_of (c := .int .u8 2) ((byt_at (by omega)).trans (by rw [hx])) ?_
  iterate 2 refine opsStep ?_
  refine VCode.ent (Ent.fr' (l := [(0, .str s), (4, .int .i64 s.length), (5, .int .u8 (bt s 0)), (6, .int .u8 2)]) (H' := []) ⟨(by kernel_rfl), (by kernel_rfl), (by kernel_rfl), (by kernel_rfl), trivial⟩ (by kernel_rfl)) ?_
  repeat first | refine opsStep ?_ | refine codeStep ?_ | refine drawStep ?_
  refine decB_dec (fun h1 => ?_) (fun h1 => ?_)
  · have hl1 : (s.length : Int) < 2 := h1
    clear h1
    repeat first | refine opsStep ?_ | refine codeStep ?_ | refine drawStep ?_
    exact finV (v' := .tup [.int .i32 65533, .int .i64 1]) (by kernel_rfl) (by rw [hd, if_neg (by omega)] <;> rfl)
  have hl1 : ¬ (s.length : Int) < 2 := h1
  clear h1
  refine VCode.ent (Ent.fr' (l := [(0, .str s), (4, .int .i64 s.length), (5, .int .u8 (bt s 0)), (8, .int .i64 2), (9, .ref 0 0 0)]) (H' := [.cells 0 [.int .u8 128, .int .u8 191]]) ⟨(by kernel_rfl), (by kernel_rfl), (by kernel_rfl), (by kernel_rfl), (by kernel_rfl), trivial⟩ (by kernel_rfl)) ?_
  repeat first | refine opsStep ?_ | refine codeStep ?_ | refine drawStep ?_
  refine optE_of (c := s[1]) (by simp <;> omega) ?_
  rw [bt_at (show 1 < s.length by omega)]
  iterate 2 refine opsStep ?_
  refine VCode.ent (Ent.fr' (l := [(0, .str s), (4, .int .i64 s.length), (5, .int .u8 (bt s 0)), (8, .int .i64 2), (9, .ref 0 0 0), (10, .int .u8 (bt s 1))]) (H' := [.cells 0 [.int .u8 128, .int .u8 191]]) ⟨(by kernel_rfl), (by kernel_rfl), (by kernel_rfl), (by kernel_rfl), (by kernel_rfl), (by kernel_rfl), trivial⟩ (by kernel_rfl)) ?_
  repeat first | refine opsStep ?_ | refine codeStep ?_ | refine drawStep ?_
  refine decB_dec (fun k1 => ?_) (fun k1 => ?_)
  · have l1 : (bt s 1 : Int) < 128 := k1
    clear k1
    repeat first | refine opsStep ?_ | refine codeStep ?_ | refine drawStep ?_
    exact finV (v' := .tup [.int .i32 65533, .int .i64 1]) (by kernel_rfl) (by rw [hd, if_neg (by omega)] <;> rfl)
  have l1 : ¬ (bt s 1 : Int) < 128 := k1
  clear k1
  repeat first | refine opsStep ?_ | refine codeStep ?_ | refine drawStep ?_
  refine decB_dec (fun k2 => ?_) (fun k2 => ?_)
  · have l2 : (191 : Int) < bt s 1 := k2
    clear k2
    repeat first | refine opsStep ?_ | refine codeStep ?_ | refine drawStep ?_
    exact finV (v' := .tup [.int .i32 65533, .int .i64 1]) (by kernel_rfl) (by rw [hd, if_neg (by omega)] <;> rfl)
  have l2 : ¬ (191 : Int) < bt s 1 := k2
  clear k2
  refine VCode.ent (Ent.fr' (l := [(0, .str s), (4, .int .i64 s.length), (5, .int .u8 (bt s 0)), (8, .int .i64 2), (9, .ref 0 0 0), (10, .int .u8 (bt s 1))]) (H' := [.cells 0 [.int .u8 128, .int .u8 191]]) ⟨(by kernel_rfl), (by kernel_rfl), (by kernel_rfl), (by kernel_rfl), (by kernel_rfl), (by kernel_rfl), trivial⟩ (by kernel_rfl)) ?_
  repeat first | refine opsStep ?_ | refine codeStep ?_ | refine drawStep ?_
  exact finV (v' := .tup [.int .i32 (bits .or .i32 (IntKind.wrap .i32 (IntKind.wrap .i32 (bits .and .u8 (bt s 0 : Int) 31) * 2 ^ 6)) (IntKind.wrap .i32 (bits .and .u8 (bt s 1 : Int) 63))), .int .i64 2]) (by kernel_rfl) (by rw [hd, if_pos (by omega), or2 _ _ hb hb1] <;> rfl)

end Tab

/- Decoding of a text's first character: the walk, characters of three bytes. -/
namespace Tab
open Go Go.Proofs
set_option maxRecDepth 10000
set_option linter.unusedVariables false
set_option linter.unusedSimpArgs false
set_option linter.unusedSectionVars false
set_option maxHeartbeats 1000000

theorem slow_3a (s : Str) (h1 : 224 ≤ bt s 0) (h2 : bt s 0 < 240) (hc : bt s 0 = 224) (hp : 0 < s.length) (hl : s.length < 2^62) : Pure Tryd.prog 132 [.str s] (.tup [.int .i32 (dec s 0).1, .int .i64 (dec s 0).2]) := by
  have hb := bt_lt s 0
  have hb1 := bt_lt s 1
  have hb2 := bt_lt s 2
  have hx : fstV (bt s 0) = 19 := by unfold fstV; (repeat' split) <;> first | rfl | omega
  have hd := d3 (lo := 160) (hi := 191) h1 h2 (by split <;> first | rfl | omega) (by split <;> first | rfl | omega)
  refine Pure.of_sw 117 Tryd.func132 rfl Tryd.ntmps132 (by kernel_rfl) (Nat.le_of_ble_eq_true (by kernel_rfl)) (by simp [closeds, AV.closed, aSs_closed, aIs_closed, aBs_closed, aRs_closed, aDen_closed]) (by simp [AV.closed, closeds, aSs_closed, aIs_closed, aBs_closed, aRs_closed, aDen_closed]) ?_; refine SW.of_vc ?_
  repeat first | refine opsStep ?_ | refine codeStep ?_ | refine drawStep ?_
  refine decB_dec (fun h0 => ?_) (fun h0 => ?_)
  · exfalso; have : (s.length : Int) < 1 := h0; omega
  repeat first | refine opsStep ?_ | refine codeStep ?_ | refine drawStep ?_
  refine optE_of (c := s[0]) (by simp [hp]) ?_
  repeat first | refine opsStep ?_ | refine codeStep ?_ | refine drawStep ?_
  rw [bt_at hp]
  refine guardE_of ⟨by omega, by show (bt s 0 : Int) < 256; omega⟩ ?_
  repeat first | refine opsStep ?_ | refine codeStep ?_ | refine drawStep ?_
  refine optE_of (c := .int .u8 19) ((byt_at (by omega)).trans (by rw [hx])) ?_
  iterate 2 refine opsStep ?_
  refine VCode.ent (Ent.fr' (l := [(0, .str s), (4, .int .i64 s.length), (5, .int .u8 (bt s 0)), (6, .int .u8 19)]) (H' := []) ⟨(by kernel_rfl), (by kernel_rfl), (by kernel_rfl), (by kernel_rfl), trivial⟩ (by kernel_rfl)) ?_
  repeat first | refine opsStep ?_ | refine codeStep ?_ | refine drawStep ?_
  refine decB_dec (fun h1 => ?_) (fun h1 => ?_)
  · have hl1 : (s.length : Int) < 3 := h1
    clear h1
    repeat first | refine opsStep ?_ | refine codeStep ?_ | refine drawStep ?_
    exact finV (v' := .tup [.int .i32 65533, .int .i64 1]) (by kernel_rfl) (by rw [hd, if_neg (by omega)] <;> rfl)
  have hl1 : ¬ (s.length : Int) < 3 := h1
  clear h1
  refine VCode.ent (Ent.fr' (l := [(0, .str s), (4, .int .i64 s.length), (5, .int .u8 (bt s 0)), (8, .int .i64 3), (9, .ref 0 0 0)]) (H' := [.cells 0 [.int .u8 160, .int .u8 191]]) ⟨(by kernel_rfl), (by kernel_rfl), (by kernel_rfl), (by kernel_rfl), (by kernel_rfl), trivial⟩ (by kernel_rfl)) ?_
  repeat first | refine opsStep ?_ | refine codeStep ?_ | refine drawStep ?_
  refine optE_of (c := s[1]) (by simp <;> omega) ?_
  rw [bt_at (show 1 < s.length by omega)]
  iterate 2 refine opsStep ?_
  refine VCode.ent (Ent.fr' (l := [(0, .str s), (4, .int .i64 s.length), (5, .int .u8 (bt s 0)), (8, .int .i64 3), (9, .ref 0 0 0), (10, .int .u8 (bt s 1))]) (H' := [.cells 0 [.int .u8 160, .int .u8 191]]) ⟨(by kernel_rfl), (by kernel_rfl), (by kernel_rfl), (by kernel_rfl), (by kernel_rfl), (by kernel_rfl), trivial⟩ (by kernel_rfl)) ?_
  repeat first | refine opsStep ?_ | refine codeStep ?_ | refine drawStep ?_
  refine decB_dec (fun k1 => ?_) (fun k1 => ?_)
  · have l1 : (bt s 1 : Int) < 160 := k1
    clear k1
    repeat first | refine opsStep ?_ | refine codeStep ?_ | refine drawStep ?_
    exact finV (v' := .tup [.int .i32 65533, .int .i64 1]) (by kernel_rfl) (by rw [hd, if_neg (by omega)] <;> rfl)
  have l1 : ¬ (bt s 1 : Int) < 160 := k1
  clear k1
  repeat first | refine opsStep ?_ | refine codeStep ?_ | refine drawStep ?_
  refine decB_dec (fun k2 => ?_) (fun k2 => ?_)
  · have l2 : (191 : Int) < bt s 1 := k2
    clear k2
    repeat first | refine opsStep ?_ | refine codeStep ?_ | refine drawStep ?_
    exact finV (v' := .tup [.int .i32 65533, .int .i64 1]) (by kernel_rfl) (by rw [hd, if_neg (by omega)] <;> rfl)
  have l2 : ¬ (191 : Int) < bt s 1 := k2
  clear k2
  refine VCode.ent (Ent.fr' (l := [(0, .str s), (4, .int .i64 s.length), (5, .int .u8 (bt s 0)), (8, .int .i64 3), (9, .ref 0 0 0), (10, .int .u8 (bt s 1))]) (H' := [.cells 0 [.int .u8 160, .int .u8 191]]) ⟨(by kernel_rfl), (by kernel_rfl), (by kernel_rfl), (by kernel_rfl), (by kernel_rfl), (by kernel_rfl), trivial⟩ (by kernel_rfl)) ?_
  repeat first | refine opsStep ?_ | refine codeStep ?_ | refine drawStep ?_
  refine optE_of (c := s[2]) (by simp <;> omega) ?_
  rw [bt_at (show 2 < s.length by omega)]
  iterate 2 refine opsStep ?_
  refine VCode.ent (Ent.fr' (l := [(0, .str s), (4, .int .i64 s.length), (5, .int .u8 (bt s 0)), (8, .int .i64 3), (10, .int .u8 (bt s 1)), (11, .int .u8 (bt s 2))]) (H' := [.cells 0 [.int .u8 160, .int .u8 191]]) (by refine ⟨(by kernel_rfl), (by kernel_rfl), (by kernel_rfl), (by kernel_rfl), (by kernel_rfl), ?_⟩; first | exact ⟨(by kernel_rfl), trivial⟩ | exact ⟨(by kernel_rfl), (by kernel_rfl), trivial⟩) (by kernel_rfl)) ?_
  repeat first | refine opsStep ?_ | refine codeStep ?_ | refine drawStep ?_
  refine decB_dec (fun k3 => ?_) (fun k3 => ?_)
  · have l1 : (bt s 2 : Int) < 128 := k3
    clear k3
    repeat first | refine opsStep ?_ | refine codeStep ?_ | refine drawStep ?_
    exact finV (v' := .tup [.int .i32 65533, .int .i64 1]) (by kernel_rfl) (by rw [hd, if_neg (by omega)] <;> rfl)
  have l1 : ¬ (bt s 2 : Int) < 128 := k3
  clear k3
  repeat first | refine opsStep ?_ | refine codeStep ?_ | refine drawStep ?_
  refine decB_dec (fun k4 => ?_) (fun k4 => ?_)
  · have l2 : (191 : Int) < bt s 2 := k4
    clear k4
    repeat first | refine opsStep ?_ | refine codeStep ?_ | refine drawStep ?_
    exact finV (v' := .tup [.int .i32 65533, .int .i64 1]) (by kernel_rfl) (by rw [hd, if_neg (by omega)] <;> rfl)
  have l2 : ¬ (191 : Int) < bt s 2 := k4
  clear k4
  repeat first | refine opsStep ?_ | refine codeStep ?_ | refine drawStep ?_
  exact finV (v' := .tup [.int .i32 (bits .or .i32 (bits .or .i32 (IntKind.wrap .i32 (IntKind.wrap .i32 (bits .and .u8 (bt s 0 : Int) 15) * 2 ^ 12)) (IntKind.wrap .i32 (IntKind.wrap .i32 (bits .and .u8 (bt s 1 : Int) 63) * 2 ^ 6))) (IntKind.wrap .i32 (bits .and .u8 (bt s 2 : Int) 63))), .int .i64 3]) (by kernel_rfl) (by rw [hd, if_pos (by omega), or3 _ _ _ hb hb1 hb2] <;> rfl)
theorem slow_3b (s : Str) (h1 : 224 ≤ bt s 0) (h2 : bt s 0 < 240) (hc : bt s 0 = 237) (hp : 0 < s.length) (hl : s.length < 2^62) : Pure Tryd.prog 132 [.str s] (.tup [.int .i32 (dec s 0).1, .int .i64 (dec s 0).2]) := by
  have hb := bt_lt s 0
  have hb1 := bt_lt s 1
  have hb2 := bt_lt s 2
  have hx : fstV (bt s 0) = 35 := by unfold fstV; (repeat' split) <;> first | rfl | omega
  have hd := d3 (lo := 128) (hi := 159) h1 h2 (by split <;> first | rfl | omega) (by split <;> first | rfl | omega)
  refine Pure.of_sw 117 Tryd.func132 rfl Tryd.ntmps132 (by kernel_rfl) (Nat.le_of_ble_eq_true (by kernel_rfl)) (by simp [closeds, AV.closed, aSs_closed, aIs_closed, aBs_closed, aRs_closed, aDen_closed]) (by simp [AV.closed, closeds, aSs_closed, aIs_closed, aBs_closed, aRs_closed, aDen_closed]) ?_; refine SW.of_vc ?_
  repeat first | refine opsStep ?_ | refine codeStep ?_ | refine drawStep ?_
  refine decB_dec (fun h0 => ?_) (fun h0 => ?_)
  · exfalso; have : (s.length : Int) < 1 := h0; omega
  repeat first | refine opsStep ?_ | refine codeStep ?_ | refine drawStep ?_
  refine optE_of (c := s[0]) (by simp [hp]) ?_
  repeat first | refine opsStep ?_ | refine codeStep ?_ | refine drawStep ?_
  rw [bt_at hp]
  refine guardE_of ⟨by omega, by show (bt s 0 : Int) < 256; omega⟩ ?_
  repeat first | refine opsStep ?_ | refine codeStep ?_ | refine drawStep ?_
  refine optE_of (c := .int .u8 35) ((byt_at (by omega)).trans (by rw [hx])) ?_
  iterate 2 refine opsStep ?_
  refine VCode.ent (Ent.fr' (l := [(0, .str s), (4, .int .i64 s.length), (5, .int .u8 (bt s 0)), (6, .int .u8 35)]) (H' := []) ⟨(by kernel_rfl), (by kernel_rfl), (by kernel_rfl), (by kernel_rfl), trivial⟩ (by kernel_rfl)) ?_
  repeat first | refine opsStep ?_ | refine codeStep ?_ | refine drawStep ?_
  refine decB_dec (fun h1 => ?_) (fun h1 => ?_)
  · have hl1 : (s.length : Int) < 3 := h1
    clear h1
    repeat first | refine opsStep ?_ | refine codeStep ?_ | refine drawStep ?_
    exact finV (v' := .tup [.int .i32 65533, .int .i64 1]) (by kernel_rfl) (by rw [hd, if_neg (by omega)] <;> rfl)
  have hl1 : ¬ (s.length : Int) < 3 := h1
  clear h1
  refine VCode.ent (Ent.fr' (l := [(0, .str s), (4, .int .i64 s.length), (5, .int .u8 (bt s 0)), (8, .int .i64 3), (9, .ref 0 0 0)]) (H' := [.cells 0 [.int .u8 128, .int .u8 159]]) ⟨(by kernel_rfl), (by kernel_rfl), (by kernel_rfl), (by kernel_rfl), (by kernel_rfl), trivial⟩ (by kernel_rfl)) ?_
  repeat first | refine opsStep ?_ | refine codeStep ?_ | refine drawStep ?_
  refine optE_of (c := s[1]) (by simp <;> omega) ?_
  rw [bt_at (show 1 < s.length by omega)]
  iterate 2 refine opsStep ?_
  refine VCode.ent (Ent.fr' (l := [(0, .str s), (4, .int .i64 s.length), (5, .int .u8 (bt s 0)), (8, .int .i64 3), (9, .ref 0 0 0), (10, .int .u8 (bt s 1))]) (H' := [.cells 0 [.int .u8 128, .int .u8 159]]) ⟨(by kernel_rfl), (by kernel_rfl), (by kernel_rfl), (by kernel_rfl), (by kernel_rfl), (by kernel_rfl), trivial⟩ (by kernel_rfl)) ?_
  repeat first | refine opsStep ?_ | refine codeStep ?_ | refine drawStep ?_
  refine decB_dec (fun k1 => ?_) (fun k1 => ?_)
  · have l1 : (bt s 1 : Int) < 128 := k1
    clear k1
    repeat first | refine opsStep ?_ | refine codeStep ?_ | refine drawStep ?_
    exact finV (v' := .tup [.int .i32 65533, .int .i64 1]) (by kernel_rfl) (by rw [hd, if_neg (by omega)] <;> rfl)
  have l1 : ¬ (bt s 1 : Int) < 128 := k1
  clear k1
  repeat first | refine opsStep ?_ | refine codeStep ?_ | refine drawStep ?_
  refine decB_dec (fun k2 => ?_) (fun k2 => ?_)
  · have l2 : (159 : Int) < bt s 1 := k2
    clear k2
    repeat first | refine opsStep ?_ | refine codeStep ?_ | refine drawStep ?_
    exact finV (v' := .tup [.int .i32 65533, .int .i64 1]) (by kernel_rfl) (by rw [hd, if_neg (by omega)] <;> rfl)
  have l2 : ¬ (159 : Int) < bt s 1 := k2
  clear k2
  refine VCode.ent (Ent.fr' (l := [(0, .str s), (4, .int .i64 s.length), (5, .int .u8 (bt s 0)), (8, .int .i64 3), (9, .ref 0 0 0), (10, .int .u8 (bt s 1))]) (H' := [.cells 0 [.int .u8 128, .int .u8 159]]) ⟨(by kernel_rfl), (by kernel_rfl), (by kernel_rfl), (by kernel_rfl), (by kernel_rfl), (by kernel_rfl), trivial⟩ (by kernel_rfl)) ?_
  repeat first | refine opsStep ?_ | refine codeStep ?_ | refine drawStep ?_
  refine optE_of (c := s[2]) (by simp <;> omega) ?_
  rw [bt_at (show 2 < s.length by omega)]
  iterate 2 refine opsStep ?_
  refine VCode.ent (Ent.fr' (l := [(0, .str s), (4, .int .i64 s.length), (5, .int .u8 (bt s 0)), (8, .int .i64 3), (10, .int .u8 (bt s 1)), (11, .int .u8 (bt s 2))]) (H' := [.cells 0 [.int .u8 128, .int .u8 159]]) (by refine ⟨(by kernel_rfl), (by kernel_rfl), (by kernel_rfl), (by kernel_rfl), (by kernel_rfl), ?_⟩; first | exact ⟨(by kernel_rfl), trivial⟩ | exact ⟨(by kernel_rfl), (by kernel_rfl), trivial⟩) (by kernel_rfl)) ?_
  repeat first | refine opsStep ?_ | refine codeStep ?_ | refine drawStep ?_
  refine decB_dec (fun k3 => ?_) (fun k3 => ?_)
  · have l1 : (bt s 2 : Int) < 128 := k3
    clear k3
    repeat first | refine opsStep ?_ | refine codeStep ?_ | refine drawStep ?_
    exact finV (v' := .tup [.int .i32 65533, .int .i64 1]) (by kernel_rfl) (by rw [hd, if_neg (by omega)] <;> rfl)
  have l1 : ¬ (bt s 2 : Int) < 128 := k3
  clear k3
  repeat first | refine opsStep ?_ | refine codeStep ?_ | refine drawStep ?_
  refine decB_dec (fun k4 => ?_) (fun k4 => ?_)
  · have l2 : (191 : Int) < bt s 2 := k4
    clear k4
    repeat first | refine opsStep ?_ | refine codeStep ?_ | refine drawStep ?_
    exact finV (v' := .tup [.int .i32 65533, .int .i64 1]) (by kernel_rfl) (by rw [hd, if_neg (by omega)] <;> rfl)
  have l2 : ¬ (191 : Int) < bt s 2 := k4
  clear k4
  repeat first | refine opsStep ?_ | refine codeStep ?_ | refine drawStep ?_
  exact finV (v' := .tup [.int .i32 (bits .or .i32 (bits .or .i32 (IntKind.wrap .i32 (IntKind.wrap .i32 (bits .and .u8 (bt s 0 : Int) 15) * 2 ^ 12)) (IntKind.wrap .i32 (IntKind.wrap .i32 (bits .and .u8 (bt s 1 : Int) 63) * 2 ^ 6))) (IntKind.wrap .i32 (bits .and .u8 (bt s 2 : Int) 63))), .int .i64 3]) (by kernel_rfl) (by rw [hd, if_pos (by omega), or3 _ _ _ hb hb1 hb2] <;> rfl)
theorem slow_3c (s : Str) (h1 : 224 ≤ bt s 0) (h2 : bt s 0 < 240) (hc : bt s 0 ≠ 224 ∧ bt s 0 ≠ 237) (hp : 0 < s.length) (hl : s.length < 2^62) : Pure Tryd.prog 132 [.str s] (.tup [.int .i32 (dec s 0).1, .int .i64 (dec s 0).2]) := by
  have hb := bt_lt s 0
  have hb1 := bt_lt s 1
  have hb2 := bt_lt s 2
  have hx : fstV (bt s 0) = 3 := by unfold fstV; (repeat' split) <;> first | rfl | omega
  have hd := d3 (lo := 128) (hi := 191) h1 h2 (by split <;> first | rfl | omega) (by split <;> first | rfl | omega)
  refine Pure.of_sw 117 Tryd.func132 rfl Tryd.ntmps132 (by kernel_rfl) (Nat.le_of_ble_eq_true (by kernel_rfl)) (by simp [closeds, AV.closed, aSs_closed, aIs_closed, aBs_closed, aRs_closed, aDen_closed]) (by simp [AV.closed, closeds, aSs_closed, aIs_closed, aBs_closed, aRs_closed, aDen_closed]) ?_; refine SW.of_vc ?_
  repeat first | refine opsStep ?_ | refine codeStep ?_ | refine drawStep ?_
  refine decB_dec (fun h0 => ?_) (fun h0 => ?_)
  · exfalso; have : (s.length : Int) < 1 := h0; omega
  repeat first | refine opsStep ?_ | refine codeStep ?_ | refine drawStep ?_
  refine optE_of (c := s[0]) (by simp [hp]) ?_
  repeat first | refine opsStep ?_ | refine codeStep ?_ | refine drawStep ?_
  rw [bt_at hp]
  refine guardE_of ⟨by omega, by show (bt s 0 : Int) < 256; omega⟩ ?_
  repeat first | refine opsStep ?_ | refine codeStep ?_ | refine drawStep ?_
  refine optE_of (c := .int .u8 3) ((byt_at (by omega)).trans (by rw [hx])) ?_
  iterate 2 refine opsStep ?_
  refine VCode.ent (Ent.fr' (l := [(0, .str s), (4, .int .i64 s.length), (5, .int .u8 (bt s 0)), (6, .int .u8 3)]) (H' := []) ⟨(by kernel_rfl), (by kernel_rfl), (by kernel_rfl), (by kernel_rfl), trivial⟩ (by kernel_rfl)) ?_
  repeat first | refine opsStep ?_ | refine codeStep ?_ | refine drawStep ?_
  refine decB_dec (fun h1 => ?_) (fun h1 => ?_)
  · have hl1 : (s.length : Int) < 3 := h1
    clear h1
    repeat first | refine opsStep ?_ | refine codeStep ?_ | refine drawStep ?_
    exact finV (v' := .tup [.int .i32 65533, .int .i64 1]) (by kernel_rfl) (by rw [hd, if_neg (by omega)] <;> rfl)
  have hl1 : ¬ (s.length : Int) < 3 := h1
  clear h1
  refine VCode.ent (Ent.fr' (l := [(0, .str s), (4, .int .i64 s.length), (5, .int .u8 (bt s 0)), (8, .int .i64 3), (9, .ref 0 0 0)]) (H' := [.cells 0 [.int .u8 128, .int .u8 191]]) ⟨(by kernel_rfl), (by kernel_rfl), (by kernel_rfl), (by kernel_rfl), (by kernel_rfl), trivial⟩ (by kernel_rfl)) ?_
  repeat first | refine opsStep ?_ | refine codeStep ?_ | refine drawStep ?_
  refine optE_of (c := s[1]) (by simp <;> omega) ?_
  rw [bt_at (show 1 < s.length by omega)]
  iterate 2 refine opsStep ?_
  refine VCode.ent (Ent.fr' (l := [(0, .str s), (4, .int .i64 s.length), (5, .int .u8 (bt s 0)), (8, .int .i64 3), (9, .ref 0 0 0), (10, .int .u8 (bt s 1))]) (H' := [.cells 0 [.int .u8 128, .int .u8 191]]) ⟨(by kernel_rfl), (by kernel_rfl), (by kernel_rfl), (by kernel_rfl), (by kernel_rfl), (by kernel_rfl), trivial⟩ (by kernel_rfl)) ?_
  repeat first | refine opsStep ?_ | refine codeStep ?_ | refine drawStep ?_
  refine decB_dec (fun k1 => ?_) (fun k1 => ?_)
  · have l1 : (bt s 1 : Int) < 128 := k1
    clear k1
    repeat first | refine opsStep ?_ | refine codeStep ?_ | refine drawStep ?_
    exact finV (v' := .tup [.int .i32 65533, .int .i64 1]) (by kernel_rfl) (by rw [hd, if_neg (by omega)] <;> rfl)
  have l1 : ¬ (bt s 1 : Int) < 128 := k1
  clear k1
  repeat first | refine opsStep ?_ | refine codeStep ?_ | refine drawStep ?_
  refine decB_dec (fun k2 => ?_) (fun k2 => ?_)
  · have l2 : (191 : Int) < bt s 1 := k2
    clear k2
    repeat first | refine opsStep ?_ | refine codeStep ?_ | refine drawStep ?_
    exact finV (v' := .tup [.int .i32 65533, .int .i64 1]) (by kernel_rfl) (by rw [hd, if_neg (by omega)] <;> rfl)
  have l2 : ¬ (191 : Int) < bt s 1 := k2
  clear k2
  refine VCode.ent (Ent.fr' (l := [(0, .str s), (4, .int .i64 s.length), (5, .int .u8 (bt s 0)), (8, .int .i64 3), (9, .ref 0 0 0), (10, .int .u8 (bt s 1))]) (H' := [.cells 0 [.int .u8 128, .int .u8 191]]) ⟨(by kernel_rfl), (by kernel_rfl), (by kernel_rfl), (by kernel_rfl), (by kernel_rfl), (by kernel_rfl), trivial⟩ (by kernel_rfl)) ?_
  repeat first | refine opsStep ?_ | refine codeStep ?_ | refine drawStep ?_
  refine optE_of (c := s[2]) (by simp <;> omega) ?_
  rw [bt_at (show 2 < s.length by omega)]
  iterate 2 refine opsStep ?_
  refine VCode.ent (Ent.fr' (l := [(0, .str s), (4, .int .i64 s.length), (5, .int .u8 (bt s 0)), (8, .int .i64 3), (10, .int .u8 (bt s 1)), (11, .int .u8 (bt s 2))]) (H' := [.cells 0 [.int .u8 128, .int .u8 191]]) (by refine ⟨(by kernel_rfl), (by kernel_rfl), (by kernel_rfl), (by kernel_rfl), (by kernel_rfl), ?_⟩; first | exact ⟨(by kernel_rfl), trivial⟩ | exact ⟨(by kernel_rfl), (by kernel_rfl), trivial⟩) (by kernel_rfl)) ?_
  repeat first | refine opsStep ?_ | refine codeStep ?_ | refine drawStep ?_
  refine decB_dec (fun k3 => ?_) (fun k3 => ?_)
  · have l1 : (bt s 2 : Int) < 128 := k3
    clear k3
    repeat first | refine opsStep ?_ | refine codeStep ?_ | refine drawStep ?_
    exact finV (v' := .tup [.int .i32 65533, .int .i64 1]) (by kernel_rfl) (by rw [hd, if_neg (by omega)] <;> rfl)
  have l1 : ¬ (bt s 2 : Int) < 128 := k3
  clear k3
  repeat first | refine opsStep ?_ | refine codeStep ?_ | refine drawStep ?_
  refine decB_dec (fun k4 => ?_) (fun k4 => ?_)
  · have l2 : (191 : Int) < bt s 2 := k4
    clear k4
    repeat first | refine opsStep ?_ | refine codeStep ?_ | refine drawStep ?_
    exact finV (v' := .tup [.int .i32 65533, .int .i64 1]) (by kernel_rfl) (by rw [hd, if_neg (by omega)] <;> rfl)
  have l2 : ¬ (191 : Int) < bt s 2 := k4
  clear k4
  repeat first | refine opsStep ?_ | refine codeStep ?_ | refine drawStep ?_
  exact finV (v' := .tup [.int .i32 (bits .or .i32 (bits .or .i32 (IntKind.wrap .i32 (IntKind.wrap .i32 (bits .and .u8 (bt s 0 : Int) 15) * 2 ^ 12)) (IntKind.wrap .i32 (IntKind.wrap .i32 (bits .and .u8 (bt s 1 : Int) 63) * 2 ^ 6))) (IntKind.wrap .i32 (bits .and .u8 (bt s 2 : Int) 63))), .int .i64 3]) (by kernel_rfl) (by rw [hd, if_pos (by omega), or3 _ _ _ hb hb1 hb2] <;> rfl)

end Tab

/- Decoding of a text's first character: the walk, characters of four bytes. -/
namespace Tab
open Go Go.Proofs
set_option maxRecDepth 10000
set_option linter.unusedVariables false
set_option linter.unusedSimpArgs false
set_option linter.unusedSectionVars false
set_option maxHeartbeats 1000000

theorem slow_4a (s : Str) (h1 : 240 ≤ bt s 0) (h2 : bt s 0 < 245) (hc : bt s 0 = 240) (hp : 0 < s.length) (hl : s.length < 2^62) : Pure Tryd.prog 132 [.str s] (.tup [.int .i32 (dec s 0).1, .int .i64 (dec s 0).2]) := by
  have hb := bt_lt s 0
  have hb1 := bt_lt s 1
  have hb2 := bt_lt s 2
  have hb3 := bt_lt s 3
  have hx : fstV (bt s 0) = 52 := by unfold fstV; (repeat' split) <;> first | rfl | omega
  have hd := d4 (lo := 144) (hi := 191) h1 h2 (by split <;> first | rfl | omega) (by split <;> first | rfl | omega)
  refine Pure.of_sw 117 Tryd.func132 rfl Tryd.ntmps132 (by kernel_rfl) (Nat.le_of_ble_eq_true (by kernel_rfl)) (by simp [closeds, AV.closed, aSs_closed, aIs_closed, aBs_closed, aRs_closed, aDen_closed]) (by simp [AV.closed, closeds, aSs_closed, aIs_closed, aBs_closed, aRs_closed, aDen_closed]) ?_; refine SW.of_vc ?_
  repeat first | refine opsStep ?_ | refine codeStep ?_ | refine drawStep ?_
  refine decB_dec (fun h0 => ?_) (fun h0 => ?_)
  · exfalso; have : (s.length : Int) < 1 := h0; omega
  repeat first | refine opsStep ?_ | refine codeStep ?_ | refine drawStep ?_
  refine optE_of (c := s[0]) (by simp [hp]) ?_
  repeat first | refine opsStep ?_ | refine codeStep ?_ | refine drawStep ?_
  rw [bt_at hp]
  refine guardE_of ⟨by omega, by show (bt s 0 : Int) < 256; omega⟩ ?_
  repeat first | refine opsStep ?_ | refine codeStep ?_ | refine drawStep ?_
  refine optE_of (c := .int .u8 52) ((byt_at (by omega)).trans (by rw [hx])) ?_
  iterate 2 refine opsStep ?_
  refine VCode.ent (Ent.fr' (l := [(0, .str s), (4, .int .i64 s.length), (5, .int .u8 (bt s 0)), (6, .int .u8 52)]) (H' := []) ⟨(by kernel_rfl), (by kernel_rfl), (by kernel_rfl), (by kernel_rfl), trivial⟩ (by kernel_rfl)) ?_
  repeat first | refine opsStep ?_ | refine codeStep ?_ | refine drawStep ?_
  refine decB_dec (fun h1 => ?_) (fun h1 => ?_)
  · have hl1 : (s.length : Int) < 4 := h1
    clear h1
    repeat first | refine opsStep ?_ | refine codeStep ?_ | refine drawStep ?_
    exact finV (v' := .tup [.int .i32 65533, .int .i64 1]) (by kernel_rfl) (by rw [hd, if_neg (by omega)] <;> rfl)
  have hl1 : ¬ (s.length : Int) < 4 := h1
  clear h1
  refine VCode.ent (Ent.fr' (l := [(0, .str s), (4, .int .i64 s.length), (5, .int .u8 (bt s 0)), (8, .int .i64 4), (9, .ref 0 0 0)]) (H' := [.cells 0 [.int .u8 144, .int .u8 191]]) ⟨(by kernel_rfl), (by kernel_rfl), (by kernel_rfl), (by kernel_rfl), (by kernel_rfl), trivial⟩ (by kernel_rfl)) ?_
  repeat first | refine opsStep ?_ | refine codeStep ?_ | refine drawStep ?_
  refine optE_of (c := s[1]) (by simp <;> omega) ?_
  rw [bt_at (show 1 < s.length by omega)]
  iterate 2 refine opsStep ?_
  refine VCode.ent (Ent.fr' (l := [(0, .str s), (4, .int .i64 s.length), (5, .int .u8 (bt s 0)), (8, .int .i64 4), (9, .ref 0 0 0), (10, .int .u8 (bt s 1))]) (H' := [.cells 0 [.int .u8 144, .int .u8 191]]) ⟨(by kernel_rfl), (by kernel_rfl), (by kernel_rfl), (by kernel_rfl), (by kernel_rfl), (by kernel_rfl), trivial⟩ (by kernel_rfl)) ?_
  repeat first | refine opsStep ?_ | refine codeStep ?_ | refine drawStep ?_
  refine decB_dec (fun k1 => ?_) (fun k1 => ?_)
  · have l1 : (bt s 1 : Int) < 144 := k1
    clear k1
    repeat first | refine opsStep ?_ | refine codeStep ?_ | refine drawStep ?_
    exact finV (v' := .tup [.int .i32 65533, .int .i64 1]) (by kernel_rfl) (by rw [hd, if_neg (by omega)] <;> rfl)
  have l1 : ¬ (bt s 1 : Int) < 144 := k1
  clear k1
  repeat first | refine opsStep ?_ | refine codeStep ?_ | refine drawStep ?_
  refine decB_dec (fun k2 => ?_) (fun k2 => ?_)
  · have l2 : (191 : Int) < bt s 1 := k2
    clear k2
    repeat first | refine opsStep ?_ | refine codeStep ?_ | refine drawStep ?_
    exact finV (v' := .tup [.int .i32 65533, .int .i64 1]) (by kernel_rfl) (by rw [hd, if_neg (by omega)] <;> rfl)
  have l2 : ¬ (191 : Int) < bt s 1 := k2
  clear k2
  refine VCode.ent (Ent.fr' (l := [(0, .str s), (4, .int .i64 s.length), (5, .int .u8 (bt s 0)), (8, .int .i64 4), (9, .ref 0 0 0), (10, .int .u8 (bt s 1))]) (H' := [.cells 0 [.int .u8 144, .int .u8 191]]) ⟨(by kernel_rfl), (by kernel_rfl), (by kernel_rfl), (by kernel_rfl), (by kernel_rfl), (by kernel_rfl), trivial⟩ (by kernel_rfl)) ?_
  repeat first | refine opsStep ?_ | refine codeStep ?_ | refine drawStep ?_
  refine optE_of (c := s[2]) (by simp <;> omega) ?_
  rw [bt_at (show 2 < s.length by omega)]
  iterate 2 refine opsStep ?_
  refine VCode.ent (Ent.fr' (l := [(0, .str s), (4, .int .i64 s.length), (5, .int .u8 (bt s 0)), (8, .int .i64 4), (10, .int .u8 (bt s 1)), (11, .int .u8 (bt s 2))]) (H' := [.cells 0 [.int .u8 144, .int .u8 191]]) (by refine ⟨(by kernel_rfl), (by kernel_rfl), (by kernel_rfl), (by kernel_rfl), (by kernel_rfl), ?_⟩; first | exact ⟨(by kernel_rfl), trivial⟩ | exact ⟨(by kernel_rfl), (by kernel_rfl), trivial⟩) (by kernel_rfl)) ?_
  repeat first | refine opsStep ?_ | refine codeStep ?_ | refine drawStep ?_
  refine decB_dec (fun k3 => ?_) (fun k3 => ?_)
  · have l1 : (bt s 2 : Int) < 128 := k3
    clear k3
    repeat first | refine opsStep ?_ | refine codeStep ?_ | refine drawStep ?_
    exact finV (v' := .tup [.int .i32 65533, .int .i64 1]) (by kernel_rfl) (by rw [hd, if_neg (by omega)] <;> rfl)
  have l1 : ¬ (bt s 2 : Int) < 128 := k3
  clear k3
  repeat first | refine opsStep ?_ | refine codeStep ?_ | refine drawStep ?_
  refine decB_dec (fun k4 => ?_) (fun k4 => ?_)
  · have l2 : (191 : Int) < bt s 2 := k4
    clear k4
    repeat first | refine opsStep ?_ | refine codeStep ?_ | refine drawStep ?_
    exact finV (v' := .tup [.int .i32 65533, .int .i64 1]) (by kernel_rfl) (by rw [hd, if_neg (by omega)] <;> rfl)
  have l2 : ¬ (191 : Int) < bt s 2 := k4
  clear k4
  repeat first | refine opsStep ?_ | refine codeStep ?_ | refine drawStep ?_
  refine optE_of (c := s[3]) (by simp <;> omega) ?_
  rw [bt_at (show 3 < s.length by omega)]
  iterate 2 refine opsStep ?_
  refine VCode.ent (Ent.fr' (l := [(0, .str s), (4, .int .i64 s.length), (5, .int .u8 (bt s 0)), (8, .int .i64 4), (10, .int .u8 (bt s 1)), (11, .int .u8 (bt s 2)), (12, .int .u8 (bt s 3))]) (H' := [.cells 0 [.int .u8 144, .int .u8 191]]) (by refine ⟨(by kernel_rfl), (by kernel_rfl), (by kernel_rfl), (by kernel_rfl), (by kernel_rfl), ?_⟩; first | exact ⟨(by kernel_rfl), trivial⟩ | exact ⟨(by kernel_rfl), (by kernel_rfl), trivial⟩) (by kernel_rfl)) ?_
  repeat first | refine opsStep ?_ | refine codeStep ?_ | refine drawStep ?_
  refine decB_dec (fun k5 => ?_) (fun k5 => ?_)
  · have l1 : (bt s 3 : Int) < 128 := k5
    clear k5
    repeat first | refine opsStep ?_ | refine codeStep ?_ | refine drawStep ?_
    exact finV (v' := .tup [.int .i32 65533, .int .i64 1]) (by kernel_rfl) (by rw [hd, if_neg (by omega)] <;> rfl)
  have l1 : ¬ (bt s 3 : Int) < 128 := k5
  clear k5
  repeat first | refine opsStep ?_ | refine codeStep ?_ | refine drawStep ?_
  refine decB_dec (fun k6 => ?_) (fun k6 => ?_)
  · have l2 : (191 : Int) < bt s 3 := k6
    clear k6
    repeat first | refine opsStep ?_ | refine codeStep ?_ | refine drawStep ?_
    exact finV (v' := .tup [.int .i32 65533, .int .i64 1]) (by kernel_rfl) (by rw [hd, if_neg (by omega)] <;> rfl)
  have l2 : ¬ (191 : Int) < bt s 3 := k6
  clear k6
  repeat first | refine opsStep ?_ | refine codeStep ?_ | refine drawStep ?_
  exact finV (v' := .tup [.int .i32 (bits .or .i32 (bits .or .i32 (bits .or .i32 (IntKind.wrap .i32 (IntKind.wrap .i32 (bits .and .u8 (bt s 0 : Int) 7) * 2 ^ 18)) (IntKind.wrap .i32 (IntKind.wrap .i32 (bits .and .u8 (bt s 1 : Int) 63) * 2 ^ 12))) (IntKind.wrap .i32 (IntKind.wrap .i32 (bits .and .u8 (bt s 2 : Int) 63) * 2 ^ 6))) (IntKind.wrap .i32 (bits .and .u8 (bt s 3 : Int) 63))), .int .i64 4]) (by kernel_rfl) (by rw [hd, if_pos (by omega), or4 _ _ _ _ hb hb1 hb2 hb3] <;> rfl)
theorem slow_4b (s : Str) (h1 : 240 ≤ bt s 0) (h2 : bt s 0 < 245) (hc : bt s 0 = 244) (hp : 0 < s.length) (hl : s.length < 2^62) : Pure Tryd.prog 132 [.str s] (.tup [.int .i32 (dec s 0).1, .int .i64 (dec s 0).2]) := by
  have hb := bt_lt s 0
  have hb1 := bt_lt s 1
  have hb2 := bt_lt s 2
  have hb3 := bt_lt s 3
  have hx : fstV (bt s 0) = 68 := by unfold fstV; (repeat' split) <;> first | rfl | omega
  have hd := d4 (lo := 128) (hi := 143) h1 h2 (by split <;> first | rfl | omega) (by split <;> first | rfl | omega)
  refine Pure.of_sw 117 Tryd.func132 rfl Tryd.ntmps132 (by kernel_rfl) (Nat.le_of_ble_eq_true (by kernel_rfl)) (by simp [closeds, AV.closed, aSs_closed, aIs_closed, aBs_closed, aRs_closed, aDen_closed]) (by simp [AV.closed, closeds, aSs_closed, aIs_closed, aBs_closed, aRs_closed, aDen_closed]) ?_; refine SW.of_vc ?_
  repeat first | refine opsStep ?_ | refine codeStep ?_ | refine drawStep ?_
  refine decB_dec (fun h0 => ?_) (fun h0 => ?_)
  · exfalso; have : (s.length : Int) < 1 := h0; omega
  repeat first | refine opsStep ?_ | refine codeStep ?_ | refine drawStep ?_
  refine optE_of (c := s[0]) (by simp [hp]) ?_
  repeat first | refine opsStep ?_ | refine codeStep ?_ | refine drawStep ?_
  rw [bt_at hp]
  refine guardE_of ⟨by omega, by show (bt s 0 : Int) < 256; omega⟩ ?_
  repeat first | refine opsStep ?_ | refine codeStep ?_ | refine drawStep ?_
  refine optE_of (c := .int .u8 68) ((byt_at (by omega)).trans (by rw [hx])) ?_
  iterate 2 refine opsStep ?_
  refine VCode.ent (Ent.fr' (l := [(0, .str s), (4, .int .i64 s.length), (5, .int .u8 (bt s 0)), (6, .int .u8 68)]) (H' := []) ⟨(by kernel_rfl), (by kernel_rfl), (by kernel_rfl), (by kernel_rfl), trivial⟩ (by kernel_rfl)) ?_
  repeat first | refine opsStep ?_ | refine codeStep ?_ | refine drawStep ?_
  refine decB_dec (fun h1 => ?_) (fun h1 => ?_)
  · have hl1 : (s.length : Int) < 4 := h1
    clear h1
    repeat first | refine opsStep ?_ | refine codeStep ?_ | refine drawStep ?_
    exact finV (v' := .tup [.int .i32 65533, .int .i64 1]) (by kernel_rfl) (by rw [hd, if_neg (by omega)] <;> rfl)
  have hl1 : ¬ (s.length : Int) < 4 := h1
  clear h1
  refine VCode.ent (Ent.fr' (l := [(0, .str s), (4, .int .i64 s.length), (5, .int .u8 (bt s 0)), (8, .int .i64 4), (9, .ref 0 0 0)]) (H' := [.cells 0 [.int .u8 128, .int .u8 143]]) ⟨(by kernel_rfl), (by kernel_rfl), (by kernel_rfl), (by kernel_rfl), (by kernel_rfl), trivial⟩ (by kernel_rfl)) ?_
  repeat first | refine opsStep ?_ | refine codeStep ?_ | refine drawStep ?_
  refine optE_of (c := s[1]) (by simp <;> omega) ?_
  rw [bt_at (show 1 < s.length by omega)]
  iterate 2 refine opsStep ?_
  refine VCode.ent (Ent.fr' (l := [(0, .str s), (4, .int .i64 s.length), (5, .int .u8 (bt s 0)), (8, .int .i64 4), (9, .ref 0 0 0), (10, .int .u8 (bt s 1))]) (H' := [.cells 0 [.int .u8 128, .int .u8 143]]) ⟨(by kernel_rfl), (by kernel_rfl), (by kernel_rfl), (by kernel_rfl), (by kernel_rfl), (by kernel_rfl), trivial⟩ (by kernel_rfl)) ?_
  repeat first | refine opsStep ?_ | refine codeStep ?_ | refine drawStep ?_
  refine decB_dec (fun k1 => ?_) (fun k1 => ?_)
  · have l1 : (bt s 1 : Int) < 128 := k1
    clear k1
    repeat first | refine opsStep ?_ | refine codeStep ?_ | refine drawStep ?_
    exact finV (v' := .tup [.int .i32 65533, .int .i64 1]) (by kernel_rfl) (by rw [hd, if_neg (by omega)] <;> rfl)
  have l1 : ¬ (bt s 1 : Int) < 128 := k1
  clear k1
  repeat first | refine opsStep ?_ | refine codeStep ?_ | refine drawStep ?_
  refine decB_dec (fun k2 => ?_) (fun k2 => ?_)
  · have l2 : (143 : Int) < bt s 1 := k2
    clear k2
    repeat first | refine opsStep ?_ | refine codeStep ?_ | refine drawStep ?_
    exact finV (v' := .tup [.int .i32 65533, .int .i64 1]) (by kernel_rfl) (by rw [hd, if_neg (by omega)] <;> rfl)
  have l2 : ¬ (143 : Int) < bt s 1 := k2
  clear k2
  refine VCode.ent (Ent.fr' (l := [(0, .str s), (4, .int .i64 s.length), (5, .int .u8 (bt s 0)), (8, .int .i64 4), (9, .ref 0 0 0), (10, .int .u8 (bt s 1))]) (H' := [.cells 0 [.int .u8 128, .int .u8 143]]) ⟨(by kernel_rfl), (by kernel_rfl), (by kernel_rfl), (by kernel_rfl), (by kernel_rfl), (by kernel_rfl), trivial⟩ (by kernel_rfl)) ?_
  repeat first | refine opsStep ?_ | refine codeStep ?_ | refine drawStep ?_
  refine optE_of (c := s[2]) (by simp <;> omega) ?_
  rw [bt_at (show 2 < s.length by omega)]
  iterate 2 refine opsStep ?_
  refine VCode.ent (Ent.fr' (l := [(0, .str s), (4, .int .i64 s.length), (5, .int .u8 (bt s 0)), (8, .int .i64 4), (10, .int .u8 (bt s 1)), (11, .int .u8 (bt s 2))]) (H' := [.cells 0 [.int .u8 128, .int .u8 143]]) (by refine ⟨(by kernel_rfl), (by kernel_rfl), (by kernel_rfl), (by kernel_rfl), (by kernel_rfl), ?_⟩; first | exact ⟨(by kernel_rfl), trivial⟩ | exact ⟨(by kernel_rfl), (by kernel_rfl), trivial⟩) (by kernel_rfl)) ?_
  repeat first | refine opsStep ?_ | refine codeStep ?_ | refine drawStep ?_
  refine decB_dec (fun k3 => ?_) (fun k3 => ?_)
  · have l1 : (bt s 2 : Int) < 128 := k3
    clear k3
    repeat first | refine opsStep ?_ | refine codeStep ?_ | refine drawStep ?_
    exact finV (v' := .tup [.int .i32 65533, .int .i64 1]) (by kernel_rfl) (by rw [hd, if_neg (by omega)] <;> rfl)
  have l1 : ¬ (bt s 2 : Int) < 128 := k3
  clear k3
  repeat first | refine opsStep ?_ | refine codeStep ?_ | refine drawStep ?_
  refine decB_dec (fun k4 => ?_) (fun k4 => ?_)
  · have l2 : (191 : Int) < bt s 2 := k4
    clear k4
    repeat first | refine opsStep ?_ | refine codeStep ?_ | refine drawStep ?_
    exact finV (v' := .tup [.int .i32 65533, .int .i64 1]) (by kernel_rfl) (by rw [hd, if_neg (by omega)] <;> rfl)
  have l2 : ¬ (191 : Int) < bt s 2 := k4
  clear k4
  repeat first | refine opsStep ?_ | refine codeStep ?_ | refine drawStep ?_
  refine optE_of (c := s[3]) (by simp <;> omega) ?_
  rw [bt_at (show 3 < s.length by omega)]
  iterate 2 refine opsStep ?_
  refine VCode.ent (Ent.fr' (l := [(0, .str s), (4, .int .i64 s.length), (5, .int .u8 (bt s 0)), (8, .int .i64 4), (10, .int .u8 (bt s 1)), (11, .int .u8 (bt s 2)), (12, .int .u8 (bt s 3))]) (H' := [.cells 0 [.int .u8 128, .int .u8 143]]) (by refine ⟨(by kernel_rfl), (by kernel_rfl), (by kernel_rfl), (by kernel_rfl), (by kernel_rfl), ?_⟩; first | exact ⟨(by kernel_rfl), trivial⟩ | exact ⟨(by kernel_rfl), (by kernel_rfl), trivial⟩) (by kernel_rfl)) ?_
  repeat first | refine opsStep ?_ | refine codeStep ?_ | refine drawStep ?_
  refine decB_dec (fun k5 => ?_) (fun k5 => ?_)
  · have l1 : (bt s 3 : Int) < 128 := k5
    clear k5
    repeat first | refine opsStep ?_ | refine codeStep ?_ | refine drawStep ?_
    exact finV (v' := .tup [.int .i32 65533, .int .i64 1]) (by kernel_rfl) (by rw [hd, if_neg (by omega)] <;> rfl)
  have l1 : ¬ (bt s 3 : Int) < 128 := k5
  clear k5
  repeat first | refine opsStep ?_ | refine codeStep ?_ | refine drawStep ?_
  refine decB_dec (fun k6 => ?_) (fun k6 => ?_)
  · have l2 : (191 : Int) < bt s 3 := k6
    clear k6
    repeat first | refine opsStep ?_ | refine codeStep ?_ | refine drawStep ?_
    exact finV (v' := .tup [.int .i32 65533, .int .i64 1]) (by kernel_rfl) (by rw [hd, if_neg (by omega)] <;> rfl)
  have l2 : ¬ (191 : Int) < bt s 3 := k6
  clear k6
  repeat first | refine opsStep ?_ | refine codeStep ?_ | refine drawStep ?_
  exact finV (v' := .tup [.int .i32 (bits .or .i32 (bits .or .i32 (bits .or .i32 (IntKind.wrap .i32 (IntKind.wrap .i32 (bits .and .u8 (bt s 0 : Int) 7) * 2 ^ 18)) (IntKind.wrap .i32 (IntKind.wrap .i32 (bits .and .u8 (bt s 1 : Int) 63) * 2 ^ 12))) (IntKind.wrap .i32 (IntKind.wrap .i32 (bits .and .u8 (bt s 2 : Int) 63) * 2 ^ 6))) (IntKind.wrap .i32 (bits .and .u8 (bt s 3 : Int) 63))), .int .i64 4]) (by kernel_rfl) (by rw [hd, if_pos (by omega), or4 _ _ _ _ hb hb1 hb2 hb3] <;> rfl)
theorem slow_4c (s : Str) (h1 : 240 ≤ bt s 0) (h2 : bt s 0 < 245) (hc : bt s 0 ≠ 240 ∧ bt s 0 ≠ 244) (hp : 0 < s.length) (hl : s.length < 2^62) : Pure Tryd.prog 132 [.str s] (.tup [.int .i32 (dec s 0).1, .int .i64 (dec s 0).2]) := by
  have hb := bt_lt s 0
  have hb1 := bt_lt s 1
  have hb2 := bt_lt s 2
  have hb3 := bt_lt s 3
  have hx : fstV (bt s 0) = 4 := by unfold fstV; (repeat' split) <;> first | rfl | omega
  have hd := d4 (lo := 128) (hi := 191) h1 h2 (by split <;> first | rfl | omega) (by split <;> first | rfl | omega)
  refine Pure.of_sw 117 Tryd.func132 rfl Tryd.ntmps132 (by kernel_rfl) (Nat.le_of_ble_eq_true (by kernel_rfl)) (by simp [closeds, AV.closed, aSs_closed, aIs_closed, aBs_closed, aRs_closed, aDen_closed]) (by simp [AV.closed, closeds, aSs_closed, aIs_closed, aBs_closed, aRs_closed, aDen_closed]) ?_; refine SW.of_vc ?_
  repeat first | refine opsStep ?_ | refine codeStep ?_ | refine drawStep ?_
  refine decB_dec (fun h0 => ?_) (fun h0 => ?_)
  · exfalso; have : (s.length : Int) < 1 := h0; omega
  repeat first | refine opsStep ?_ | refine codeStep ?_ | refine drawStep ?_
  refine optE_of (c := s[0]) (by simp [hp]) ?_
  repeat first | refine opsStep ?_ | refine codeStep ?_ | refine drawStep ?_
  rw [bt_at hp]
  refine guardE_of ⟨by omega, by show (bt s 0 : Int) < 256; omega⟩ ?_
  repeat first | refine opsStep ?_ | refine codeStep ?_ | refine drawStep ?_
  refine optE_of (c := .int .u8 4) ((byt_at (by omega)).trans (by rw [hx])) ?_
  iterate 2 refine opsStep ?_
  refine VCode.ent (Ent.fr' (l := [(0, .str s), (4, .int .i64 s.length), (5, .int .u8 (bt s 0)), (6, .int .u8 4)]) (H' := []) ⟨(by kernel_rfl), (by kernel_rfl), (by kernel_rfl), (by kernel_rfl), trivial⟩ (by kernel_rfl)) ?_
  repeat first | refine opsStep ?_ | refine codeStep ?_ | refine drawStep ?_
  refine decB_dec (fun h1 => ?_) (fun h1 => ?_)
  · have hl1 : (s.length : Int) < 4 := h1
    clear h1
    repeat first | refine opsStep ?_ | refine codeStep ?_ | refine drawStep ?_
    exact finV (v' := .tup [.int .i32 65533, .int .i64 1]) (by kernel_rfl) (by rw [hd, if_neg (by omega)] <;> rfl)
  have hl1 : ¬ (s.length : Int) < 4 := h1
  clear h1
  refine VCode.ent (Ent.fr' (l := [(0, .str s), (4, .int .i64 s.length), (5, .int .u8 (bt s 0)), (8, .int .i64 4), (9, .ref 0 0 0)]) (H' := [.cells 0 [.int .u8 128, .int .u8 191]]) ⟨(by kernel_rfl), (by kernel_rfl), (by kernel_rfl), (by kernel_rfl), (by kernel_rfl), trivial⟩ (by kernel_rfl)) ?_
  repeat first | refine opsStep ?_ | refine codeStep ?_ | refine drawStep ?_
  refine optE_of (c := s[1]) (by simp <;> omega) ?_
  rw [bt_at (show 1 < s.length by omega)]
  iterate 2 refine opsStep ?_
  refine VCode.ent (Ent.fr' (l := [(0, .str s), (4, .int .i64 s.length), (5, .int .u8 (bt s 0)), (8, .int .i64 4), (9, .ref 0 0 0), (10, .int .u8 (bt s 1))]) (H' := [.cells 0 [.int .u8 128, .int .u8 191]]) ⟨(by kernel_rfl), (by kernel_rfl), (by kernel_rfl), (by kernel_rfl), (by kernel_rfl), (by kernel_rfl), trivial⟩ (by kernel_rfl)) ?_
  repeat first | refine opsStep ?_ | refine codeStep ?_ | refine drawStep ?_
  refine decB_dec (fun k1 => ?_) (fun k1 => ?_)
  · have l1 : (bt s 1 : Int) < 128 := k1
    clear k1
    repeat first | refine opsStep ?_ | refine codeStep ?_ | refine drawStep ?_
    exact finV (v' := .tup [.int .i32 65533, .int .i64 1]) (by kernel_rfl) (by rw [hd, if_neg (by omega)] <;> rfl)
  have l1 : ¬ (bt s 1 : Int) < 128 := k1
  clear k1
  repeat first | refine opsStep ?_ | refine codeStep ?_ | refine drawStep ?_
  refine decB_dec (fun k2 => ?_) (fun k2 => ?_)
  · have l2 : (191 : Int) < bt s 1 := k2
    clear k2
    repeat first | refine opsStep ?_ | refine codeStep ?_ | refine drawStep ?_
    exact finV (v' := .tup [.int .i32 65533, .int .i64 1]) (by kernel_rfl) (by rw [hd, if_neg (by omega)] <;> rfl)
  have l2 : ¬ (191 : Int) < bt s 1 := k2
  clear k2
  refine VCode.ent (Ent.fr' (l := [(0, .str s), (4, .int .i64 s.length), (5, .int .u8 (bt s 0)), (8, .int .i64 4), (9, .ref 0 0 0), (10, .int .u8 (bt s 1))]) (H' := [.cells 0 [.int .u8 128, .int .u8 191]]) ⟨(by kernel_rfl), (by kernel_rfl), (by kernel_rfl), (by kernel_rfl), (by kernel_rfl), (by kernel_rfl), trivial⟩ (by kernel_rfl)) ?_
  repeat first | refine opsStep ?_ | refine codeStep ?_ | refine drawStep ?_
  refine optE_of (c := s[2]) (by simp <;> omega) ?_
  rw [bt_at (show 2 < s.length by omega)]
  iterate 2 refine opsStep ?_
  refine VCode.ent (Ent.fr' (l := [(0, .str s), (4, .int .i64 s.length), (5, .int .u8 (bt s 0)), (8, .int .i64 4), (10, .int .u8 (bt s 1)), (11, .int .u8 (bt s 2))]) (H' := [.cells 0 [.int .u8 128, .int .u8 191]]) (by refine ⟨(by kernel_rfl), (by kernel_rfl), (by kernel_rfl), (by kernel_rfl), (by kernel_rfl), ?_⟩; first | exact ⟨(by kernel_rfl), trivial⟩ | exact ⟨(by kernel_rfl), (by kernel_rfl), trivial⟩) (by kernel_rfl)) ?_
  repeat first | refine opsStep ?_ | refine codeStep ?_ | refine drawStep ?_
  refine decB_dec (fun k3 => ?_) (fun k3 => ?_)
  · have l1 : (bt s 2 : Int) < 128 := k3
    clear k3
    repeat first | refine opsStep ?_ | refine codeStep ?_ | refine drawStep ?_
    exact finV (v' := .tup [.int .i32 65533, .int .i64 1]) (by kernel_rfl) (by rw [hd, if_neg (by omega)] <;> rfl)
  have l1 : ¬ (bt s 2 : Int) < 128 := k3
  clear k3
  repeat first | refine opsStep ?_ | refine codeStep ?_ | refine drawStep ?_
  refine decB_dec (fun k4 => ?_) (fun k4 => ?_)
  · have l2 : (191 : Int) < bt s 2 := k4
    clear k4
    repeat first | refine opsStep ?_ | refine codeStep ?_ | refine drawStep ?_
    exact finV (v' := .tup [.int .i32 65533, .int .i64 1]) (by kernel_rfl) (by rw [hd, if_neg (by omega)] <;> rfl)
  have l2 : ¬ (191 : Int) < bt s 2 := k4
  clear k4
  repeat first | refine opsStep ?_ | refine codeStep ?_ | refine drawStep ?_
  refine optE_of (c := s[3]) (by simp <;> omega) ?_
  rw [bt_at (show 3 < s.length by omega)]
  iterate 2 refine opsStep ?_
  refine VCode.ent (Ent.fr' (l := [(0, .str s), (4, .int .i64 s.length), (5, .int .u8 (bt s 0)), (8, .int .i64 4), (10, .int .u8 (bt s 1)), (11, .int .u8 (bt s 2)), (12, .int .u8 (bt s 3))]) (H' := [.cells 0 [.int .u8 128, .int .u8 191]]) (by refine ⟨(by kernel_rfl), (by kernel_rfl), (by kernel_rfl), (by kernel_rfl), (by kernel_rfl), ?_⟩; first | exact ⟨(by kernel_rfl), trivial⟩ | exact ⟨(by kernel_rfl), (by kernel_rfl), trivial⟩) (by kernel_rfl)) ?_
  repeat first | refine opsStep ?_ | refine codeStep ?_ | refine drawStep ?_
  refine decB_dec (fun k5 => ?_) (fun k5 => ?_)
  · have l1 : (bt s 3 : Int) < 128 := k5
    clear k5
    repeat first | refine opsStep ?_ | refine codeStep ?_ | refine drawStep ?_
    exact finV (v' := .tup [.int .i32 65533, .int .i64 1]) (by kernel_rfl) (by rw [hd, if_neg (by omega)] <;> rfl)
  have l1 : ¬ (bt s 3 : Int) < 128 := k5
  clear k5
  repeat first | refine opsStep ?_ | refine codeStep ?_ | refine drawStep ?_
  refine decB_dec (fun k6 => ?_) (fun k6 => ?_)
  · have l2 : (191 : Int) < bt s 3 := k6
    clear k6
    repeat first | refine opsStep ?_ | refine codeStep ?_ | refine drawStep ?_
    exact finV (v' := .tup [.int .i32 65533, .int .i64 1]) (by kernel_rfl) (by rw [hd, if_neg (by omega)] <;> rfl)
  have l2 : ¬ (191 : Int) < bt s 3 := k6
  clear k6
  repeat first | refine opsStep ?_ | refine codeStep ?_ | refine drawStep ?_
  exact finV (v' := .tup [.int .i32 (bits .or .i32 (bits .or .i32 (bits .or .i32 (IntKind.wrap .i32 (IntKind.wrap .i32 (bits .and .u8 (bt s 0 : Int) 7) * 2 ^ 18)) (IntKind.wrap .i32 (IntKind.wrap .i32 (bits .and .u8 (bt s 1 : Int) 63) * 2 ^ 12))) (IntKind.wrap .i32 (IntKind.wrap .i32 (bits .and .u8 (bt s 2 : Int) 63) * 2 ^ 6))) (IntKind.wrap .i32 (bits .and .u8 (bt s 3 : Int) 63))), .int .i64 4]) (by kernel_rfl) (by rw [hd, if_pos (by omega), or4 _ _ _ _ hb hb1 hb2 hb3] <;> rfl)

end Tab

/- Decoding of a text's first character. -/
namespace Tab
open Go Go.Proofs
set_option maxRecDepth 10000
set_option linter.unusedVariables false
set_option linter.unusedSimpArgs false
set_option linter.unusedSectionVars false

theorem slow (s : Str) (h : 128 ≤ bt s 0) (hp : 0 < s.length) (hl : s.length < 2^62) : Pure Tryd.prog 132 [.str s] (.tup [.int .i32 (dec s 0).1, .int .i64 (dec s 0).2]) := by
  by_cases c1 : (128 ≤ bt s 0 ∧ bt s 0 < 194) ∨ 245 ≤ bt s 0
  · exact slow_x s c1 hp hl
  by_cases c2 : bt s 0 < 224
  · exact slow_2 s (by omega) c2 hp hl
  by_cases c3 : bt s 0 < 240
  · by_cases e1 : bt s 0 = 224
    · exact slow_3a s (by omega) c3 e1 hp hl
    by_cases e2 : bt s 0 = 237
    · exact slow_3b s (by omega) c3 e2 hp hl
    exact slow_3c s (by omega) c3 ⟨e1, e2⟩ hp hl
  by_cases e1 : bt s 0 = 240
  · exact slow_4a s (by omega) (by omega) e1 hp hl
  by_cases e2 : bt s 0 = 244
  · exact slow_4b s (by omega) (by omega) e2 hp hl
  exact slow_4c s (by omega) (by omega) ⟨e1, e2⟩ hp hl

theorem decodeS (s : Str) (hp : 0 < s.length) (hl : s.length < 2^62) : Pure Tryd.prog 111 [.str s] (.tup [.int .i32 (dec s 0).1, .int .i64 (dec s 0).2]) := by
  have hb := bt_lt s 0
  have hne : decide (s ≠ []) = true := by cases s with
    | nil => simp at hp
    | cons _ _ => simp
  refine Pure.of_sw 19 Tryd.func111 rfl Tryd.ntmps111 (by kernel_rfl) (Nat.le_of_ble_eq_true (by kernel_rfl)) (by simp [closeds, AV.closed, aSs_closed, aIs_closed, aBs_closed, aRs_closed, aDen_closed]) (by simp [AV.closed, closeds, aSs_closed, aIs_closed, aBs_closed, aRs_closed, aDen_closed]) ?_; refine SW.of_vc ?_
  repeat first | refine opsStep ?_ | refine codeStep ?_ | refine drawStep ?_
  refine decB_true (b := decide (s ≠ [])) hne ?_
  repeat first | refine opsStep ?_ | refine codeStep ?_ | refine drawStep ?_
  refine optE_of (c := s[0]) (by simp [hp]) ?_
  repeat first | refine opsStep ?_ | refine codeStep ?_ | refine drawStep ?_
  rw [bt_at hp]
  refine decB_dec (fun h1 => ?_) (fun h1 => ?_)
  · have l1 : (bt s 0 : Int) < 128 := h1
    repeat first | refine opsStep ?_ | refine codeStep ?_ | refine drawStep ?_
    refine optE_of (c := s[0]) (by simp [hp]) ?_
    repeat first | refine opsStep ?_ | refine codeStep ?_ | refine drawStep ?_
    rw [bt_at hp]
    exact finV (v' := .tup [.int .i32 (IntKind.wrap .i32 (bt s 0 : Int)), .int .i64 1]) (by kernel_rfl) (by rw [dec_ascii (by omega), IntWalk.i32_in _ (by omega)]; rfl)
  · have l1 : ¬ (bt s 0 : Int) < 128 := h1
    repeat first | refine opsStep ?_ | refine codeStep ?_ | refine drawStep ?_
    refine callP (slow s (by omega) hp hl) ?_
    repeat first | refine opsStep ?_ | refine codeStep ?_ | refine drawStep ?_
    exact finV (v' := .tup [.int .i32 (dec s 0).1, .int .i64 (dec s 0).2]) (by kernel_rfl) rfl

end Tab

/- A number's digits, a name. -/
namespace Tab
open Go Go.Proofs
set_option maxRecDepth 10000
set_option linter.unusedVariables false
set_option linter.unusedSimpArgs false
set_option linter.unusedSectionVars false

theorem lex_number (t : Str) (hl : t.length < 2^62) (hd : ∀ i, i < t.length → 48 ≤ bt t i ∧ bt t i ≤ 57) : Pure Tryd.prog 116 [.str t] (.tup [.int .i64 ((numS t).getD 0 : Nat), .bool (numS t).isSome]) := by
  refine Pure.of_sw 27 Tryd.func116 rfl Tryd.ntmps116 (by kernel_rfl) (Nat.le_of_ble_eq_true (by kernel_rfl)) (by simp [closeds, AV.closed, aSs_closed, aIs_closed, aBs_closed, aRs_closed, aDen_closed]) (by simp [AV.closed, closeds, aSs_closed, aIs_closed, aBs_closed, aRs_closed, aDen_closed]) ?_; refine SW.of_vc ?_
  repeat first | refine opsStep ?_ | refine codeStep ?_ | refine drawStep ?_
  refine loopE_of (ι := {x : Nat × Nat // numS t = numL x.2 (t.drop x.1) ∧ x.1 ≤ t.length ∧ x.2 < 2^63}) (fun x => (fr [(0, .str t), (4, .int .u64 x.1.2), (9, .ref 0 0 0)], [.siter t x.1.1])) (fun x => t.length - x.1.1)
    ⟨(0, 0), by simp [numS], Nat.zero_le _, by decide⟩ (Ent.fr' ⟨(by kernel_rfl), (by kernel_rfl), (by kernel_rfl), trivial⟩ (by kernel_rfl)) ?_
  rintro ⟨⟨a, n⟩, h1, h2, h3⟩
  simp only at h1 h2 h3
  repeat first | refine opsStep ?_ | refine codeStep ?_ | refine drawStep ?_
  refine decB_dec (fun hp => ?_) (fun hp => ?_)
  · have hp' : a < t.length := hp
    clear hp
    obtain ⟨b1, b2⟩ := hd a hp'
    have e0 : dec t a = (bt t a, 1) := dec_ascii (by omega)
    rw [e0]
    have hc : t.drop a = t[a] :: t.drop (a + 1) := List.drop_eq_getElem_cons hp'
    have hcb : (t[a]).toNat = bt t a := bt_at hp'
    have w1 : IntKind.wrap .u64 (IntKind.wrap .i32 ((bt t a : Int) - 48)) = ((bt t a - 48 : Nat) : Int) := by
      rw [IntWalk.i32_in _ (by omega), IntWalk.u64_in _ (by omega)]; omega
    have w2 : IntKind.wrap .u64 ((IntKind.wrap .u64 (9223372036854775807 - ((bt t a - 48 : Nat) : Int))).tdiv 10) = (((9223372036854775807 - (bt t a - 48)) / 10 : Nat) : Int) := by
      rw [IntWalk.u64_in (9223372036854775807 - ((bt t a - 48 : Nat) : Int)) (by omega)]
      have : (9223372036854775807 - ((bt t a - 48 : Nat) : Int)) = ((9223372036854775807 - (bt t a - 48) : Nat) : Int) := by omega
      rw [this, show ((10 : Int)) = ((10 : Nat) : Int) from rfl, ← Int.ofNat_tdiv]
      exact IntWalk.u64_in _ (by omega)
    rw [hc, numL, hcb] at h1
    repeat first | refine opsStep ?_ | refine codeStep ?_ | refine drawStep ?_
    refine decB_dec (p := (n : Int) > IntKind.wrap .u64 ((IntKind.wrap .u64 (9223372036854775807 - IntKind.wrap .u64 (IntKind.wrap .i32 ((bt t a : Int) - 48)))).tdiv 10)) (fun k => ?_) (fun k => ?_)
    · rw [w1, w2] at k
      repeat first | refine opsStep ?_ | refine codeStep ?_ | refine drawStep ?_
      exact finV (v' := .tup [.int .i64 0, .bool false]) (by kernel_rfl) (by rw [h1, if_pos (by omega)]; rfl)
    · rw [w1, w2] at k
      rw [if_neg (by omega)] at h1
      repeat first | refine opsStep ?_ | refine codeStep ?_ | refine drawStep ?_
      refine ⟨⟨(a + 1, 10 * n + (bt t a - 48)), h1, hp', by simp only; omega⟩, (by show t.length - (a + 1) < t.length - a; omega), Ent.fr' ⟨(by kernel_rfl), ?_, (by kernel_rfl), trivial⟩ (by kernel_rfl)⟩
      show AV.int .u64 (IntKind.wrap .u64 (IntKind.wrap .u64 (10 * (n : Int)) + IntKind.wrap .u64 (IntKind.wrap .i32 ((bt t a : Int) - 48)))) = AV.int .u64 ((10 * n + (bt t a - 48) : Nat) : Int)
      rw [w1, IntWalk.u64_in (10 * (n : Int)) (by omega), IntWalk.u64_in _ (by omega)]
      congr 1
  · have hp' : ¬ a < t.length := hp
    repeat first | refine opsStep ?_ | refine codeStep ?_ | refine drawStep ?_
    exact finV (v' := .tup [.int .i64 (IntKind.wrap .i64 (n : Int)), .bool true]) (by kernel_rfl) (by rw [h1, List.drop_eq_nil_of_le (by omega), numL, IntWalk.i64_in _ (by omega)]; rfl)

abbrev tokC (T : Tok) : List AV := [.int .i64 T.kind, .str T.text, .int .i64 T.num, .int .i64 0, .int .i64 0]
theorem lex_name (t : Str) (n : Nat) (hl : t.length < 2^62) : Pure Tryd.prog 114 [.str t] (.tup [.agg (tokC (nameT t n)), .int .i64 (nameT t n).err]) := by
  refine Pure.of_sw 16 Tryd.func114 rfl Tryd.ntmps114 (by kernel_rfl) (Nat.le_of_ble_eq_true (by kernel_rfl)) (by simp [closeds, AV.closed, aSs_closed, aIs_closed, aBs_closed, aRs_closed, aDen_closed]) (by simp [AV.closed, closeds, aSs_closed, aIs_closed, aBs_closed, aRs_closed, aDen_closed]) ?_; refine SW.of_vc ?_
  repeat first | refine opsStep ?_ | refine codeStep ?_ | refine drawStep ?_
  refine callP (glyph_Reserved t) ?_
  repeat first | refine opsStep ?_ | refine codeStep ?_ | refine drawStep ?_
  refine decB_split (fun h => ?_) (fun h => ?_)
  · repeat first | refine opsStep ?_ | refine codeStep ?_ | refine drawStep ?_
    exact finV (v' := .tup [.agg [.int .i64 2, .str t, .int .i64 0, .int .i64 0, .int .i64 0], .int .i64 0]) (by kernel_rfl) (by rw [nameT, if_pos h]; rfl)
  · repeat first | refine opsStep ?_ | refine codeStep ?_ | refine drawStep ?_
    refine callP (runeCount t hl) ?_
    repeat first | refine opsStep ?_ | refine codeStep ?_ | refine drawStep ?_
    refine decB_dec (fun k => ?_) (fun k => ?_)
    · have k' : (chS t : Int) > 16 := k
      repeat first | refine opsStep ?_ | refine codeStep ?_ | refine drawStep ?_
      exact finV (v' := .tup [.agg [.int .i64 0, .str [], .int .i64 0, .int .i64 0, .int .i64 0], .int .i64 6]) (by kernel_rfl) (by rw [nameT, if_neg (by simp [h]), if_pos (by omega)]; rfl)
    · have k' : ¬ (chS t : Int) > 16 := k
      repeat first | refine opsStep ?_ | refine codeStep ?_ | refine drawStep ?_
      exact finV (v' := .tup [.agg [.int .i64 0, .str t, .int .i64 0, .int .i64 0, .int .i64 0], .int .i64 0]) (by kernel_rfl) (by rw [nameT, if_neg (by simp [h]), if_neg (by omega)]; rfl)

end Tab

/- The signs, cut at blanks. -/
namespace Tab
open Go Go.Proofs
set_option maxRecDepth 10000
set_option linter.unusedVariables false
set_option linter.unusedSimpArgs false
set_option linter.unusedSectionVars false
set_option maxHeartbeats 1000000

def sgB : Str := [60, 45, 62, 32, 60, 61, 32, 62, 61, 32, 33, 61, 32, 45, 62, 32, 40, 32, 41, 32, 91, 32, 93, 32, 44, 32, 46, 32, 43, 32, 45, 32, 42, 32, 61, 32, 60, 32, 62, 32, 126]
def cc (i : Nat) : UInt8 := sgB.getD i 0
def wsA : Nat → Int
  | 0 => 1
  | i + 1 => IntKind.wrap .i64 (spcV (cc i).toNat)
def cnA : Nat → Int
  | 0 => 0
  | i + 1 => IntKind.wrap .i64 (cnA i + IntKind.wrap .i64 ((BitVec.ofInt 64 (wsA i) &&& BitVec.ofInt 64 (IntKind.wrap .i64 ((BitVec.ofInt 64 (-1) ^^^ BitVec.ofInt 64 (wsA (i + 1))).toNat))).toNat))
def sbA : Nat → Int
  | 0 => 0
  | i + 1 => IntKind.wrap .u8 ((BitVec.ofInt 8 (sbA i) ||| BitVec.ofInt 8 ((cc i).toNat : Int)).toNat)
def naA (i : Nat) : Nat := (sgB.take i).count 32
def fsA : Nat → Nat
  | 0 => 0
  | i + 1 => if cc i = 32 then i + 1 else fsA i
def clL (k : Nat) : List Str := signL.take k ++ List.replicate (18 - k) []
def clA (k : Nat) : List AV := (clL k).map .str

theorem sg_get {i : Nat} (h : i < 41) : sgB[i]? = some (cc i) := by
  have : i < sgB.length := h
  rw [List.getElem?_eq_getElem this, cc, List.getD_eq_getElem?_getD, List.getElem?_eq_getElem this]
  rfl
theorem cc_lt (i : Nat) : (cc i).toNat < 256 := (cc i).toNat_lt
theorem sg_no {i : Nat} (h : i < 41) (e : spcV (cc i).toNat = 0) : naA (i + 1) = naA i ∧ fsA (i + 1) = fsA i := by
  have k : (List.range 41).all (fun i => !decide (spcV (cc i).toNat = 0) || (decide (naA (i + 1) = naA i) && decide (fsA (i + 1) = fsA i))) = true := by kernel_rfl
  have := List.all_eq_true.1 k i (List.mem_range.2 h)
  simpa [e] using this
theorem sg_yes {i : Nat} (h : i < 41) (e : ¬ spcV (cc i).toNat = 0) : naA (i + 1) = naA i + 1 ∧ fsA (i + 1) = i + 1 ∧ fsA i ≤ i ∧ i + 1 < 41 ∧ spcV (cc (i + 1)).toNat = 0 ∧ naA i < 17 ∧ (sgB.drop (fsA i)).take (i - fsA i) = signL.getD (naA i) [] := by
  have k : (List.range 41).all (fun i => decide (spcV (cc i).toNat = 0) || decide (naA (i + 1) = naA i + 1 ∧ fsA (i + 1) = i + 1 ∧ fsA i ≤ i ∧ i + 1 < 41 ∧ spcV (cc (i + 1)).toNat = 0 ∧ naA i < 17 ∧ (sgB.drop (fsA i)).take (i - fsA i) = signL.getD (naA i) [])) = true := by kernel_rfl
  have := List.all_eq_true.1 k i (List.mem_range.2 h)
  simpa only [e, decide_false, Bool.false_or, decide_eq_true_eq] using this
theorem cl_next {k : Nat} (h : k < 18) : over (clA k) k [.str (signL.getD k [])] = clA (k + 1) := by
  have q : (List.range 18).all (fun k => decide ((clL k).set k (signL.getD k []) = clL (k + 1)) && decide (k < (clL k).length)) = true := by kernel_rfl
  have := List.all_eq_true.1 q k (List.mem_range.2 h)
  simp only [Bool.and_eq_true, decide_eq_true_eq] at this
  rw [over_one (by rw [clA, List.length_map]; exact this.2), clA, clA, ← this.1, List.map_set]

theorem cl_len {k : Nat} (h : k ≤ 18) : (clA k).length = 18 := by
  have q : (List.range 19).all (fun k => decide ((clL k).length = 18)) = true := by kernel_rfl
  have := List.all_eq_true.1 q k (List.mem_range.2 (by omega))
  rw [clA, List.length_map]
  simpa using this

theorem fields : Pure Tryd.prog 118 [.str sgB] (aSs .any signL) := by
  refine Pure.of_sw 106 Tryd.func118 rfl Tryd.ntmps118 (by kernel_rfl) (Nat.le_of_ble_eq_true (by kernel_rfl)) (by simp [closeds, AV.closed, aSs_closed, aIs_closed, aBs_closed, aRs_closed, aDen_closed]) (by simp [AV.closed, closeds, aSs_closed, aIs_closed, aBs_closed, aRs_closed, aDen_closed]) ?_; refine SW.of_vc ?_
  repeat first | refine opsStep ?_ | refine codeStep ?_ | refine drawStep ?_
  refine loopE_of (ι := {i : Nat // i ≤ 41}) (fun i => (fr [(0, .str sgB), (3, .int .i64 (cnA i.1)), (4, .int .i64 (wsA i.1)), (5, .int .u8 (sbA i.1)), (6, .int .i64 i.1)], [])) (fun i => 41 - i.1)
    ⟨0, by omega⟩ (Ent.fr' ⟨(by kernel_rfl), (by kernel_rfl), (by kernel_rfl), (by kernel_rfl), (by kernel_rfl), trivial⟩ (by kernel_rfl)) ?_
  rintro ⟨i, hi⟩
  have hcl := cc_lt i
  repeat first | refine opsStep ?_ | refine codeStep ?_ | refine drawStep ?_
  refine decB_dec (fun h => ?_) (fun h => ?_)
  · have hi' : i < 41 := by have : (i : Int) < (41 : Nat) := h; omega
    clear h
    repeat first | refine opsStep ?_ | refine codeStep ?_ | refine drawStep ?_
    refine optE_of (c := cc i) (sg_get hi') ?_
    repeat first | refine opsStep ?_ | refine codeStep ?_ | refine drawStep ?_
    refine guardE_of ⟨by omega, by show ((cc i).toNat : Int) < 256; omega⟩ ?_
    repeat first | refine opsStep ?_ | refine codeStep ?_ | refine drawStep ?_
    refine optE_of (c := .int .u8 (spcV (cc i).toNat)) (byt_at (cc_lt i)) ?_
    repeat first | refine opsStep ?_ | refine codeStep ?_ | refine drawStep ?_
    exact ⟨⟨i + 1, by omega⟩, (by show 41 - (i + 1) < 41 - i; omega), Ent.fr' ⟨(by kernel_rfl), (by kernel_rfl), (by kernel_rfl), (by kernel_rfl), inc_slot (i := i) (by omega), trivial⟩ (by kernel_rfl)⟩
  · have hi' : i = 41 := by have : ¬ (i : Int) < (41 : Nat) := h; omega
    clear h
    subst hi'
    refine VCode.ent (Ent.fr' (l := [(0, .str sgB), (3, .int .i64 18), (5, .int .u8 127)]) (H' := []) ⟨(by kernel_rfl), (by kernel_rfl), (by kernel_rfl), trivial⟩ (by kernel_rfl)) ?_
    repeat first | refine opsStep ?_ | refine codeStep ?_ | refine drawStep ?_
    refine loopE_of (ι := Unit) (fun _ => (fr [(0, .str sgB), (9, .hs 0 0 0 18 1), (10, .int .i64 0), (11, .int .i64 0), (12, .int .i64 0)], [.cells 0 (clA 0)])) (fun _ => 0)
      () (Ent.fr' ⟨(by kernel_rfl), (by kernel_rfl), (by kernel_rfl), (by kernel_rfl), (by kernel_rfl), trivial⟩ (by kernel_rfl)) ?_
    rintro ⟨⟩
    repeat first | refine opsStep ?_ | refine codeStep ?_ | refine drawStep ?_
    refine loopE_of (ι := {i : Nat // i ≤ 41}) (fun i => (fr [(0, .str sgB), (9, .hs 0 0 0 18 1), (10, .int .i64 (naA i.1)), (11, .int .i64 (fsA i.1)), (12, .int .i64 i.1)], [.cells 0 (clA (naA i.1))])) (fun i => 41 - i.1)
      ⟨0, by omega⟩ (Ent.fr' ⟨(by kernel_rfl), (by kernel_rfl), (by kernel_rfl), (by kernel_rfl), (by kernel_rfl), trivial⟩ (by kernel_rfl)) ?_
    rintro ⟨i, hi⟩
    have hcl := cc_lt i
    have hlen : sgB.length = 41 := rfl
    repeat first | refine opsStep ?_ | refine codeStep ?_ | refine drawStep ?_
    refine decB_dec (fun h => ?_) (fun h => ?_)
    · have hi' : i < 41 := by have : (i : Int) < (41 : Nat) := h; omega
      clear h
      repeat first | refine opsStep ?_ | refine codeStep ?_ | refine drawStep ?_
      refine optE_of (c := cc i) (sg_get hi') ?_
      repeat first | refine opsStep ?_ | refine codeStep ?_ | refine drawStep ?_
      refine guardE_of ⟨by omega, by show ((cc i).toNat : Int) < 256; omega⟩ ?_
      repeat first | refine opsStep ?_ | refine codeStep ?_ | refine drawStep ?_
      refine optE_of (c := .int .u8 (spcV (cc i).toNat)) (byt_at (cc_lt i)) ?_
      repeat first | refine opsStep ?_ | refine codeStep ?_ | refine drawStep ?_
      refine decB_dec (fun e => ?_) (fun e => ?_)
      · obtain ⟨e1, e2⟩ := sg_no hi' e
        repeat first | refine opsStep ?_ | refine codeStep ?_ | refine drawStep ?_
        exact ⟨⟨i + 1, by omega⟩, (by show 41 - (i + 1) < 41 - i; omega), Ent.fr' ⟨(by kernel_rfl), (by kernel_rfl), by show AV.int .i64 (naA i : Nat) = AV.int .i64 (naA (i + 1) : Nat); rw [e1], by show AV.int .i64 (fsA i : Nat) = AV.int .i64 (fsA (i + 1) : Nat); rw [e2], inc_slot (i := i) (by omega), trivial⟩ (by show [Blk.cells 0 (clA (naA i))] = [Blk.cells 0 (clA (naA (i + 1)))]; rw [e1])⟩
      · obtain ⟨e1, e2, e3, e4, e5, e6, e7⟩ := sg_yes hi' e
        repeat first | refine opsStep ?_ | refine codeStep ?_ | refine drawStep ?_
        refine guardE_of (by simp; omega) ?_
        repeat first | refine opsStep ?_ | refine codeStep ?_ | refine drawStep ?_
        refine guardE_of ⟨by omega, by show (naA i : Int) < (18 : Nat); omega⟩ ?_
        repeat first | refine opsStep ?_ | refine codeStep ?_ | refine drawStep ?_
        refine guardE_of ⟨rfl, by decide, by show 0 + naA i * 1 + 1 ≤ (clA (naA i)).length; rw [cl_len (by omega)]; omega⟩ ?_
        repeat first | refine opsStep ?_ | refine codeStep ?_ | refine drawStep ?_
        have hov : over (clA (naA i)) (0 + (naA i : Int).toNat * 1) [.str ((sgB.drop (fsA i)).take (i - fsA i))] = clA (naA i + 1) := by
          rw [e7, Int.toNat_natCast, Nat.zero_add, Nat.mul_one]; exact cl_next (by omega)
        refine loopE_of (ι := Unit) (fun _ => (fr [(0, .str sgB), (9, .hs 0 0 0 18 1), (10, .int .i64 ((naA i + 1 : Nat))), (12, .int .i64 ((i + 1 : Nat)))], [.cells 0 (clA (naA i + 1))])) (fun _ => 0)
          () (Ent.fr' ⟨(by kernel_rfl), (by kernel_rfl), inc_slot (i := naA i) (by omega), inc_slot (i := i) (by omega), trivial⟩ (Eq.trans (b := [Blk.cells 0 (over (clA (naA i)) (0 + (naA i : Int).toNat * 1) [.str ((sgB.drop (fsA i)).take (i - fsA i))])]) (by kernel_rfl) (by rw [hov]))) ?_
        rintro ⟨⟩
        have hcl' := cc_lt (i + 1)
        repeat first | refine opsStep ?_ | refine codeStep ?_ | refine drawStep ?_
        refine decB_true (b := decide (((i + 1 : Nat) : Int) < (41 : Nat))) (by simp; omega) ?_
        repeat first | refine opsStep ?_ | refine codeStep ?_ | refine drawStep ?_
        refine optE_of (c := cc (i + 1)) (sg_get e4) ?_
        repeat first | refine opsStep ?_ | refine codeStep ?_ | refine drawStep ?_
        refine guardE_of ⟨by omega, by show ((cc (i + 1)).toNat : Int) < 256; omega⟩ ?_
        repeat first | refine opsStep ?_ | refine codeStep ?_ | refine drawStep ?_
        refine optE_of (c := .int .u8 (spcV (cc (i + 1)).toNat)) (byt_at (cc_lt (i + 1))) ?_
        repeat first | refine opsStep ?_ | refine codeStep ?_ | refine drawStep ?_
        refine decB_false (b := decide (spcV (cc (i + 1)).toNat ≠ 0)) (by simp [e5]) ?_
        repeat first | refine opsStep ?_ | refine codeStep ?_ | refine drawStep ?_
        exact ⟨⟨i + 1, by omega⟩, (by show 41 - (i + 1) < 41 - i; omega), Ent.fr' ⟨(by kernel_rfl), (by kernel_rfl), by show AV.int .i64 (naA i + 1 : Nat) = AV.int .i64 (naA (i + 1) : Nat); rw [e1], by show AV.int .i64 (i + 1 : Nat) = AV.int .i64 (fsA (i + 1) : Nat); rw [e2], (by kernel_rfl), trivial⟩ (by show [Blk.cells 0 (clA (naA i + 1))] = [Blk.cells 0 (clA (naA (i + 1)))]; rw [e1])⟩
    · have hi' : i = 41 := by have : ¬ (i : Int) < (41 : Nat) := h; omega
      clear h
      subst hi'
      refine VCode.ent (Ent.fr' (l := [(0, .str sgB), (9, .hs 0 0 0 18 1), (10, .int .i64 17), (11, .int .i64 40), (12, .int .i64 41)]) (H' := [.cells 0 (clA 17)]) ⟨(by kernel_rfl), (by kernel_rfl), (by kernel_rfl), (by kernel_rfl), (by kernel_rfl), trivial⟩ (by kernel_rfl)) ?_
      repeat first | refine opsStep ?_ | refine codeStep ?_ | refine drawStep ?_
      exact finFrz 2 (g := 0) (b := 0) (es := 1) (by kernel_rfl) (by kernel_rfl) (by kernel_rfl) (by kernel_rfl)

end Tab

/- One word of a text. -/
namespace Tab
open Go Go.Proofs
set_option maxRecDepth 10000
set_option linter.unusedVariables false
set_option linter.unusedSimpArgs false
set_option linter.unusedSectionVars false
set_option maxHeartbeats 1000000

theorem run_dig : ∀ (n : Nat) (s : Str), s.length = n → ∀ i, i < runS digR s → 48 ≤ bt s i ∧ bt s i ≤ 57 := by
  intro n
  induction n using Nat.strongRecOn with
  | _ n ih =>
    intro s hn i hi
    by_cases hs : s.length = 0
    · rw [runS_nil hs] at hi; omega
    cases h : digR (dec s 0).1 with
    | false => rw [runS_no h] at hi; omega
    | true =>
      have hd : 48 ≤ (dec s 0).1 ∧ (dec s 0).1 ≤ 57 := by simp [digR] at h; omega
      have hb := dec_small (s := s) (p := 0) (by omega)
      have e0 := dec_ascii hb
      rw [e0] at hd
      cases i with
      | zero => exact hd
      | succ i =>
        rw [runS_yes hs h, e0] at hi
        have := ih (s.drop 1).length (by rw [List.length_drop]; omega) (s.drop 1) rfl i (by simp only at hi; omega)
        rw [bt_drop, Nat.add_comm 1 i] at this
        exact this
theorem bt_takeN {s : Str} {n i : Nat} (h : i < n) : bt (s.take n) i = bt s i := by
  simp [bt, List.getD_eq_getElem?_getD, List.getElem?_take, h]
theorem find_mid {s t : Str} {L A B : List Str} (hL : L = A ++ t :: B) (hn : (A.find? fun t => t.isPrefixOf s) = none) (h : t.isPrefixOf s = true) : (L.find? fun t => t.isPrefixOf s) = some t := by
  rw [hL, List.find?_append, hn, List.find?_cons, h]
  rfl
theorem signT_some {s t : Str} (h : (signL.find? fun t => t.isPrefixOf s) = some t) : signT s = ⟨2, t, 0, t.length, 0⟩ := by rw [signT, h]
theorem signT_none {s : Str} (h : (signL.find? fun t => t.isPrefixOf s) = none) : signT s = tokBad 51 := by rw [signT, h]


theorem sign_len : ∀ t ∈ signL, t.length ≤ 3 := by
  have : signL.all (fun t => decide (t.length ≤ 3)) = true := by kernel_rfl
  intro t ht
  simpa using List.all_eq_true.1 this t ht

theorem lex_word (s : Str) (hp : 0 < s.length) (hl : s.length < 2^62) : Pure Tryd.prog 87 [.str s] (.tup [.agg (tokC (tokS s)), .int .i64 (tokS s).n, .int .i64 (tokS s).err]) := by
  have hw := dec_width s 0
  refine Pure.of_sw 84 Tryd.func87 rfl Tryd.ntmps87 (by kernel_rfl) (Nat.le_of_ble_eq_true (by kernel_rfl)) (by simp [closeds, AV.closed, aSs_closed, aIs_closed, aBs_closed, aRs_closed, aDen_closed]) (by simp [AV.closed, closeds, aSs_closed, aIs_closed, aBs_closed, aRs_closed, aDen_closed]) ?_; refine SW.of_vc ?_
  repeat first | refine opsStep ?_ | refine codeStep ?_ | refine drawStep ?_
  refine callP (decodeS s hp hl) ?_
  repeat first | refine opsStep ?_ | refine codeStep ?_ | refine drawStep ?_
  refine decB_dec (fun c1 => ?_) (fun c1 => ?_)
  · have c1' : ((dec s 0).1 : Int) = 65533 := c1
    clear c1
    have c1 : (dec s 0).1 = 65533 := by omega
    clear c1'
    repeat first | refine opsStep ?_ | refine codeStep ?_ | refine drawStep ?_
    refine decB_dec (fun c2 => ?_) (fun c2 => ?_)
    · have c2' : ((dec s 0).2 : Int) ≤ 1 := c2
      repeat first | refine opsStep ?_ | refine codeStep ?_ | refine drawStep ?_
      exact finV (v' := .tup [.agg [.int .i64 0, .str [], .int .i64 0, .int .i64 0, .int .i64 0], .int .i64 0, .int .i64 50]) (by kernel_rfl) (by rw [tokS, if_pos ⟨c1, by omega⟩]; rfl)
    · have c2' : ¬ ((dec s 0).2 : Int) ≤ 1 := c2
      clear c2
      have f1 : startR (dec s 0).1 = false := by rw [c1]; unfold startR; decide
      have f2 : digR (dec s 0).1 = false := by rw [c1]; decide
      have f3 : plainS (dec s 0).1 = [] := by rw [c1]; decide
      have hS : tokS s = signT s := by rw [tokS, if_neg (by omega), if_neg (by rw [f1]; simp), if_neg (by rw [f2]; simp), if_neg (by rw [f3]; simp)]
      repeat first | refine opsStep ?_ | refine codeStep ?_ | refine drawStep ?_
      refine callP (glyph_Start _) ?_
      repeat first | refine opsStep ?_ | refine codeStep ?_ | refine drawStep ?_
      refine decB_false (b := startR (dec s 0).1) f1 ?_
      repeat first | refine opsStep ?_ | refine codeStep ?_ | refine drawStep ?_
      refine callP (lex_digit _) ?_
      repeat first | refine opsStep ?_ | refine codeStep ?_ | refine drawStep ?_
      refine decB_false (b := digR (dec s 0).1) f2 ?_
      repeat first | refine opsStep ?_ | refine codeStep ?_ | refine drawStep ?_
      refine callP (glyph_Plain _) ?_
      repeat first | refine opsStep ?_ | refine codeStep ?_ | refine drawStep ?_
      refine decB_false (b := decide (plainS (dec s 0).1 ≠ [])) (by simp [f3]) ?_
      repeat first | refine opsStep ?_ | refine codeStep ?_ | refine drawStep ?_
      refine callP fields ?_
      repeat first | refine opsStep ?_ | refine codeStep ?_ | refine drawStep ?_
      refine loopE_of (ι := {i : Nat // i ≤ 18 ∧ ((signL.take i).find? fun t => t.isPrefixOf s) = none}) (fun i => (fr [(0, .str s), (2, .ref 0 0 0), (69, aSs .any signL), (70, .int .i64 18), (71, .int .i64 i.1)], [.cells 0 (tokC (tokBad 0))])) (fun i => 18 - i.1)
        ⟨0, by omega, rfl⟩ (Ent.fr' ⟨(by kernel_rfl), (by kernel_rfl), (by kernel_rfl), (by kernel_rfl), (by kernel_rfl), trivial⟩ (by kernel_rfl)) ?_
      rintro ⟨i, hi, hn⟩
      repeat first | refine opsStep ?_ | refine codeStep ?_ | refine drawStep ?_
      refine decB_dec (fun h => ?_) (fun h => ?_)
      · have hi' : i < signL.length := by have : (i : Int) < 18 := h; have : signL.length = 18 := rfl; omega
        have hi18 : i < 18 := hi'
        clear h
        have hsp : signL = signL.take i ++ signL[i]'hi' :: signL.drop (i + 1) := by rw [← List.drop_eq_getElem_cons hi', List.take_append_drop]
        have hlen : (signL[i]'hi').length < 2^62 := Nat.lt_of_le_of_lt (sign_len _ (List.getElem_mem hi')) (by decide)
        repeat first | refine opsStep ?_ | refine codeStep ?_ | refine drawStep ?_
        refine guardE_of ⟨by omega, by show (i : Int) < (18 : Nat); omega⟩ ?_
        repeat first | refine opsStep ?_ | refine codeStep ?_ | refine drawStep ?_
        refine optE_of (c := .str (signL[i]'hi')) (by simp [Value.cells, hi']) ?_
        repeat first | refine opsStep ?_ | refine codeStep ?_ | refine drawStep ?_
        refine callP (hasPrefix s (signL[i]'hi') hl hlen) ?_
        repeat first | refine opsStep ?_ | refine codeStep ?_ | refine drawStep ?_
        refine decB_split (fun h => ?_) (fun h => ?_)
        · have hts : tokS s = ⟨2, signL[i]'hi', 0, (signL[i]'hi').length, 0⟩ := hS.trans (signT_some (find_mid hsp hn h))
          repeat first | refine opsStep ?_ | refine codeStep ?_ | refine drawStep ?_
          exact finV (v' := .tup [.agg [.int .i64 2, .str (signL[i]'hi'), .int .i64 0, .int .i64 0, .int .i64 0], .int .i64 (signL[i]'hi').length, .int .i64 0]) (by kernel_rfl) (by rw [hts]; rfl)
        · repeat first | refine opsStep ?_ | refine codeStep ?_ | refine drawStep ?_
          refine ⟨⟨i + 1, by omega, ?_⟩, (by show 18 - (i + 1) < 18 - i; omega), Ent.fr' ⟨(by kernel_rfl), (by kernel_rfl), (by kernel_rfl), (by kernel_rfl), inc_slot (i := i) (by omega), trivial⟩ (by kernel_rfl)⟩
          rw [List.take_succ_eq_append_getElem hi', List.find?_append, hn]
          simp [h]
      · have hi' : i = 18 := by have : ¬ (i : Int) < 18 := h; omega
        clear h
        subst hi'
        have hts : tokS s = tokBad 51 := hS.trans (signT_none (by rw [show signL.take 18 = signL from rfl] at hn; exact hn))
        repeat first | refine opsStep ?_ | refine codeStep ?_ | refine drawStep ?_
        exact finV (v' := .tup [.agg [.int .i64 0, .str [], .int .i64 0, .int .i64 0, .int .i64 0], .int .i64 0, .int .i64 51]) (by kernel_rfl) (by rw [hts]; rfl)
  · have c1' : ¬ ((dec s 0).1 : Int) = 65533 := c1
    clear c1
    have hbad : ¬ ((dec s 0).1 = 65533 ∧ (dec s 0).2 ≤ 1) := by omega
    repeat first | refine opsStep ?_ | refine codeStep ?_ | refine drawStep ?_
    refine callP (glyph_Start _) ?_
    repeat first | refine opsStep ?_ | refine codeStep ?_ | refine drawStep ?_
    refine decB_split (fun h => ?_) (fun h => ?_)
    · have f1 : startR (dec s 0).1 = true := h
      clear h
      have hrl := runS_le restR _ s rfl
      have hT : tokS s = nameT (s.take (runS restR s)) (runS restR s) := by rw [tokS, if_neg hbad, if_pos f1]
      rw [hT]
      have hn : (nameT (s.take (runS restR s)) (runS restR s)).n = runS restR s := by unfold nameT; (repeat' split) <;> rfl
      rw [hn]
      repeat first | refine opsStep ?_ | refine codeStep ?_ | refine drawStep ?_
      refine callP (lex_run s _ restR hl glyph_Rest) ?_
      repeat first | refine opsStep ?_ | refine codeStep ?_ | refine drawStep ?_
      refine guardE_of (by simp; omega) ?_
      repeat first | refine opsStep ?_ | refine codeStep ?_ | refine drawStep ?_
      refine callP (lex_name (s.take (runS restR s)) (runS restR s) (by rw [List.length_take]; omega)) ?_
      generalize nameT (s.take (runS restR s)) (runS restR s) = T
      repeat first | refine opsStep ?_ | refine codeStep ?_ | refine drawStep ?_
      exact finV (v' := .tup [.agg (tokC T), .int .i64 (runS restR s), .int .i64 T.err]) (by kernel_rfl) rfl
    · have f1 : startR (dec s 0).1 = false := h
      clear h
      repeat first | refine opsStep ?_ | refine codeStep ?_ | refine drawStep ?_
      refine callP (lex_digit _) ?_
      repeat first | refine opsStep ?_ | refine codeStep ?_ | refine drawStep ?_
      refine decB_split (fun h => ?_) (fun h => ?_)
      · have f2 : digR (dec s 0).1 = true := h
        clear h
        have hrl := runS_le digR _ s rfl
        have hT : tokS s = (match numS (s.take (runS digR s)) with | some v => ⟨1, [], v, runS digR s, 0⟩ | none => tokBad 52) := by rw [tokS, if_neg hbad, if_neg (by rw [f1]; simp), if_pos f2] <;> rfl
        have hlt : (s.take (runS digR s)).length < 2^62 := by rw [List.length_take]; omega
        have hdg : ∀ i, i < (s.take (runS digR s)).length → 48 ≤ bt (s.take (runS digR s)) i ∧ bt (s.take (runS digR s)) i ≤ 57 := by
          intro i hi
          have hi2 : i < runS digR s := by rw [List.length_take] at hi; omega
          rw [bt_takeN hi2]
          exact run_dig _ s rfl i hi2
        have hcall := lex_number (s.take (runS digR s)) hlt hdg
        cases hv : numS (s.take (runS digR s)) with
        | none =>
          rw [hv] at hcall hT
          repeat first | refine opsStep ?_ | refine codeStep ?_ | refine drawStep ?_
          refine callP (lex_run s _ digR hl lex_digit) ?_
          repeat first | refine opsStep ?_ | refine codeStep ?_ | refine drawStep ?_
          refine guardE_of (by simp; omega) ?_
          repeat first | refine opsStep ?_ | refine codeStep ?_ | refine drawStep ?_
          refine callP hcall ?_
          repeat first | refine opsStep ?_ | refine codeStep ?_ | refine drawStep ?_
          exact finV (v' := .tup [.agg [.int .i64 0, .str [], .int .i64 0, .int .i64 0, .int .i64 0], .int .i64 0, .int .i64 52]) (by kernel_rfl) (by rw [hT]; rfl)
        | some v =>
          rw [hv] at hcall hT
          repeat first | refine opsStep ?_ | refine codeStep ?_ | refine drawStep ?_
          refine callP (lex_run s _ digR hl lex_digit) ?_
          repeat first | refine opsStep ?_ | refine codeStep ?_ | refine drawStep ?_
          refine guardE_of (by simp; omega) ?_
          repeat first | refine opsStep ?_ | refine codeStep ?_ | refine drawStep ?_
          refine callP hcall ?_
          repeat first | refine opsStep ?_ | refine codeStep ?_ | refine drawStep ?_
          exact finV (v' := .tup [.agg [.int .i64 1, .str [], .int .i64 v, .int .i64 0, .int .i64 0], .int .i64 (runS digR s), .int .i64 0]) (by kernel_rfl) (by rw [hT] <;> rfl)
      · have f2 : digR (dec s 0).1 = false := h
        clear h
        repeat first | refine opsStep ?_ | refine codeStep ?_ | refine drawStep ?_
        refine callP (glyph_Plain _) ?_
        repeat first | refine opsStep ?_ | refine codeStep ?_ | refine drawStep ?_
        refine decB_dec (fun f3 => ?_) (fun f3 => ?_)
        · have f3' : plainS (dec s 0).1 ≠ [] := f3
          have hT : tokS s = ⟨2, plainS (dec s 0).1, 0, (dec s 0).2, 0⟩ := by rw [tokS, if_neg hbad, if_neg (by rw [f1]; simp), if_neg (by rw [f2]; simp), if_pos f3']
          repeat first | refine opsStep ?_ | refine codeStep ?_ | refine drawStep ?_
          refine callP (glyph_Plain _) ?_
          repeat first | refine opsStep ?_ | refine codeStep ?_ | refine drawStep ?_
          exact finV (v' := .tup [.agg [.int .i64 2, .str (plainS (dec s 0).1), .int .i64 0, .int .i64 0, .int .i64 0], .int .i64 (dec s 0).2, .int .i64 0]) (by kernel_rfl) (by rw [hT] <;> rfl)
        · have hS : tokS s = signT s := by rw [tokS, if_neg hbad, if_neg (by rw [f1]; simp), if_neg (by rw [f2]; simp), if_neg f3]
          repeat first | refine opsStep ?_ | refine codeStep ?_ | refine drawStep ?_
          refine callP fields ?_
          repeat first | refine opsStep ?_ | refine codeStep ?_ | refine drawStep ?_
          refine loopE_of (ι := {i : Nat // i ≤ 18 ∧ ((signL.take i).find? fun t => t.isPrefixOf s) = none}) (fun i => (fr [(0, .str s), (2, .ref 0 0 0), (69, aSs .any signL), (70, .int .i64 18), (71, .int .i64 i.1)], [.cells 0 (tokC (tokBad 0))])) (fun i => 18 - i.1)
            ⟨0, by omega, rfl⟩ (Ent.fr' ⟨(by kernel_rfl), (by kernel_rfl), (by kernel_rfl), (by kernel_rfl), (by kernel_rfl), trivial⟩ (by kernel_rfl)) ?_
          rintro ⟨i, hi, hn⟩
          repeat first | refine opsStep ?_ | refine codeStep ?_ | refine drawStep ?_
          refine decB_dec (fun h => ?_) (fun h => ?_)
          · have hi' : i < signL.length := by have : (i : Int) < 18 := h; have : signL.length = 18 := rfl; omega
            have hi18 : i < 18 := hi'
            clear h
            have hsp : signL = signL.take i ++ signL[i]'hi' :: signL.drop (i + 1) := by rw [← List.drop_eq_getElem_cons hi', List.take_append_drop]
            have hlen : (signL[i]'hi').length < 2^62 := Nat.lt_of_le_of_lt (sign_len _ (List.getElem_mem hi')) (by decide)
            repeat first | refine opsStep ?_ | refine codeStep ?_ | refine drawStep ?_
            refine guardE_of ⟨by omega, by show (i : Int) < (18 : Nat); omega⟩ ?_
            repeat first | refine opsStep ?_ | refine codeStep ?_ | refine drawStep ?_
            refine optE_of (c := .str (signL[i]'hi')) (by simp [Value.cells, hi']) ?_
            repeat first | refine opsStep ?_ | refine codeStep ?_ | refine drawStep ?_
            refine callP (hasPrefix s (signL[i]'hi') hl hlen) ?_
            repeat first | refine opsStep ?_ | refine codeStep ?_ | refine drawStep ?_
            refine decB_split (fun h => ?_) (fun h => ?_)
            · have hts : tokS s = ⟨2, signL[i]'hi', 0, (signL[i]'hi').length, 0⟩ := hS.trans (signT_some (find_mid hsp hn h))
              repeat first | refine opsStep ?_ | refine codeStep ?_ | refine drawStep ?_
              exact finV (v' := .tup [.agg [.int .i64 2, .str (signL[i]'hi'), .int .i64 0, .int .i64 0, .int .i64 0], .int .i64 (signL[i]'hi').length, .int .i64 0]) (by kernel_rfl) (by rw [hts]; rfl)
            · repeat first | refine opsStep ?_ | refine codeStep ?_ | refine drawStep ?_
              refine ⟨⟨i + 1, by omega, ?_⟩, (by show 18 - (i + 1) < 18 - i; omega), Ent.fr' ⟨(by kernel_rfl), (by kernel_rfl), (by kernel_rfl), (by kernel_rfl), inc_slot (i := i) (by omega), trivial⟩ (by kernel_rfl)⟩
              rw [List.take_succ_eq_append_getElem hi', List.find?_append, hn]
              simp [h]
          · have hi' : i = 18 := by have : ¬ (i : Int) < 18 := h; omega
            clear h
            subst hi'
            have hts : tokS s = tokBad 51 := hS.trans (signT_none (by rw [show signL.take 18 = signL from rfl] at hn; exact hn))
            repeat first | refine opsStep ?_ | refine codeStep ?_ | refine drawStep ?_
            exact finV (v' := .tup [.agg [.int .i64 0, .str [], .int .i64 0, .int .i64 0, .int .i64 0], .int .i64 0, .int .i64 51]) (by kernel_rfl) (by rw [hts]; rfl)

end Tab

/- The words of a text. -/
namespace Tab
open Go Go.Proofs
set_option maxRecDepth 10000
set_option linter.unusedVariables false
set_option linter.unusedSimpArgs false
set_option linter.unusedSectionVars false
set_option maxHeartbeats 1000000

def wdC (w : Wd) : List AV := [.int .i64 w.kind, .str w.text, .int .i64 w.num, .int .i64 w.at', .int .i64 w.ch]
def fltC (f : Flt) : List AV := [.int .i64 f.why, .int .i64 f.at', .int .i64 f.ch]
def wdsC (l : List Wd) : List AV := l.flatMap wdC
def aWs (k : SK) (l : List Wd) : AV := .sl k l.length (wdsC l)
theorem wdsC_len (l : List Wd) : (wdsC l).length = l.length * 5 := by
  induction l with
  | nil => rfl
  | cons w l ih => simp only [wdsC, List.flatMap_cons, List.length_append, List.length_cons, wdC, List.length_nil] at ih ⊢; omega
theorem wdC_closed (w : Wd) : closeds (wdC w) := by simp [wdC, closeds, AV.closed]
theorem wdsC_closed (l : List Wd) : closeds (wdsC l) := closeds_iff.2 fun a h => by
  obtain ⟨w, _, hw⟩ := List.mem_flatMap.1 h
  exact closeds_iff.1 (wdC_closed w) a hw
theorem aWs_closed (k : SK) (l : List Wd) : (aWs k l).closed := by show (AV.sl _ _ _).closed; simp only [AV.closed]; exact wdsC_closed l
theorem fltC_closed (f : Flt) : closeds (fltC f) := by simp [fltC, closeds, AV.closed]

theorem wdsC_bel (n : Nat) (l : List Wd) : bels n (wdsC l) := by
  induction l with
  | nil => simp [wdsC, bels]
  | cons w l ih =>
    rw [wdsC, List.flatMap_cons, bels_append]
    exact ⟨by simp [wdC, bels, AV.bel], ih⟩
def comb (W : List Wd) (r : List Wd × Flt) : List Wd × Flt := if r.2.why ≠ 0 then ([], r.2) else (W ++ r.1, r.2)
def wdT (t : Tok) (a c : Nat) : Wd := ⟨t.kind, t.text, t.num, a, c⟩
structure LxInv (s : Str) (f a ch ct : Nat) (W : List Wd) : Prop where
  eq : lexS s = comb W (lexL s f a ch ct)
  fuel : s.length < f + a
  le : ct ≤ a
  len : a ≤ s.length
  chs : ch ≤ ct
  wds : W.length ≤ a
theorem LxInv.start {s : Str} (hl : s.length ≤ 4096) : LxInv s (s.length + 1) (runS blankR s) 0 0 [] := by
  have := runS_le blankR _ s rfl
  refine ⟨?_, by omega, by omega, by omega, by omega, by simp⟩
  rw [lexS, if_neg (by omega)]
  generalize hr : lexL s (s.length + 1) (runS blankR s) 0 0 = r
  rw [comb]
  by_cases h : r.2.why ≠ 0
  · rw [if_pos h]
    have : ∀ f a ch ct, (lexL s f a ch ct).2.why ≠ 0 → (lexL s f a ch ct).1 = [] := by
      intro f
      induction f with
      | zero => intro a ch ct h; exact absurd rfl h
      | succ f ih =>
        intro a ch ct h
        rw [lexL] at h ⊢
        simp only at h ⊢
        split at h
        · exact absurd rfl h
        · rename_i h1
          rw [if_neg h1]
          split at h
          · rename_i h2; rw [if_pos h2]
          · rename_i h2
            rw [if_neg h2]
            split at h
            · rename_i h3; rw [if_pos h3]
            · rename_i h3; exact absurd h h3
    rw [← hr] at h ⊢
    exact Prod.ext (this _ _ _ _ h) rfl
  · rw [if_neg h]; rfl
theorem LxInv.stop {s : Str} {f a ch ct W} (h : LxInv s f a ch ct W) (ha : ¬ a < s.length) : lexS s = (W, flt0) := by
  have := h.fuel
  have := h.len
  obtain ⟨g, rfl⟩ : ∃ g, f = g + 1 := ⟨f - 1, by omega⟩
  rw [h.eq, lexL, if_pos (by omega), comb, if_neg (by simp [flt0])]
  simp
def chA (s : Str) (a ch ct : Nat) : Nat := ch + chS ((s.drop ct).take (a - ct))
theorem LxInv.ch_le {s : Str} {f a ch ct W} (h : LxInv s f a ch ct W) : chA s a ch ct ≤ a := by
  have h1 := h.chs
  have h2 := h.le
  have := chS_le _ ((s.drop ct).take (a - ct)) rfl
  rw [List.length_take] at this
  rw [chA]
  omega
theorem LxInv.bad {s : Str} {f a ch ct W} (h : LxInv s f a ch ct W) (ha : a < s.length) (he : (tokS (s.drop a)).err ≠ 0) : lexS s = ([], ⟨(tokS (s.drop a)).err, a, chA s a ch ct⟩) := by
  have := h.fuel
  obtain ⟨g, rfl⟩ : ∃ g, f = g + 1 := ⟨f - 1, by omega⟩
  rw [h.eq, lexL, if_neg (by omega)]
  simp only [take_drop']
  rw [if_pos he, comb, if_pos he]
  rfl
theorem lexL_go {s : Str} {g a ch ct : Nat} (ha : ¬ s.length ≤ a) (he : (tokS (s.drop a)).err = 0) : lexL s (g + 1) a ch ct =
    if (lexL s g (a + (tokS (s.drop a)).n + runS blankR (s.drop (a + (tokS (s.drop a)).n))) (chA s a ch ct) a).2.why ≠ 0 then ([], (lexL s g (a + (tokS (s.drop a)).n + runS blankR (s.drop (a + (tokS (s.drop a)).n))) (chA s a ch ct) a).2)
    else (wdT (tokS (s.drop a)) a (chA s a ch ct) :: (lexL s g (a + (tokS (s.drop a)).n + runS blankR (s.drop (a + (tokS (s.drop a)).n))) (chA s a ch ct) a).1, (lexL s g (a + (tokS (s.drop a)).n + runS blankR (s.drop (a + (tokS (s.drop a)).n))) (chA s a ch ct) a).2) := by
  rw [lexL, if_neg ha]
  simp only [take_drop']
  rw [if_neg (by rw [he]; simp)]
  rfl
theorem LxInv.next {s : Str} {f a ch ct W} (h : LxInv s f a ch ct W) (ha : a < s.length) (he : (tokS (s.drop a)).err = 0) :
    1 ≤ (tokS (s.drop a)).n ∧ a + (tokS (s.drop a)).n ≤ s.length ∧ LxInv s (f - 1) (a + (tokS (s.drop a)).n + runS blankR (s.drop (a + (tokS (s.drop a)).n))) (chA s a ch ct) a (W ++ [wdT (tokS (s.drop a)) a (chA s a ch ct)]) := by
  have hf := h.fuel
  have hc := h.ch_le
  have hw := h.wds
  have hle := h.le
  obtain ⟨k1, k2, _⟩ := tok_cut (x := s.drop a) (by rw [List.length_drop]; omega) he
  have k3 := k1.le
  rw [List.length_drop] at k3
  have hr := runS_le blankR _ (s.drop (a + (tokS (s.drop a)).n)) rfl
  rw [List.length_drop] at hr
  refine ⟨k2, by omega, ?_, by omega, by omega, by omega, by omega, by simp; omega⟩
  obtain ⟨g, rfl⟩ : ∃ g, f = g + 1 := ⟨f - 1, by omega⟩
  rw [h.eq, lexL_go (by omega) he, Nat.add_sub_cancel]
  generalize lexL s g (a + (tokS (s.drop a)).n + runS blankR (s.drop (a + (tokS (s.drop a)).n))) (chA s a ch ct) a = r
  by_cases hr : r.2.why ≠ 0
  · rw [if_pos hr, comb, comb, if_pos hr, if_pos hr]
  · rw [if_neg hr, comb, comb, if_neg hr, if_neg hr, List.append_assoc]
    rfl

theorem lex_Words (s : Str) (hl : s.length < 2^62) : Pure Tryd.prog 59 [.str s] (.tup [aWs .any (lexS s).1, .agg (fltC (lexS s).2)]) := by
  refine Pure.of_sw 63 Tryd.func59 rfl Tryd.ntmps59 (by kernel_rfl) (Nat.le_of_ble_eq_true (by kernel_rfl)) (by simp [closeds, AV.closed]) (by simp only [AV.closed, closeds]; exact ⟨aWs_closed _ _, fltC_closed _, trivial⟩) ?_
  refine SW.of_vc ?_
  repeat first | refine opsStep ?_ | refine codeStep ?_ | refine drawStep ?_
  refine decB_dec (fun h0 => ?_) (fun h0 => ?_)
  · have h0' : (s.length : Int) > 4096 := h0
    clear h0
    repeat first | refine opsStep ?_ | refine codeStep ?_ | refine drawStep ?_
    refine ⟨_, _, (Ent.fr' (l := [(2, .sl .nil 0 []), (3, .ref 0 0 0)]) (H' := [.cells 0 (fltC ⟨70, 0, 0⟩)]) ⟨(by kernel_rfl), (by kernel_rfl), trivial⟩ (by kernel_rfl)).trans (Ent.slotTo (y := .sl .any 0 []) 2 rfl (fun _ _ _ _ h => sl_any h)), ?_⟩
    rw [lexS, if_pos (by omega)]
    kernel_rfl
  have h0' : ¬ (s.length : Int) > 4096 := h0
  clear h0
  have hlen : s.length ≤ 4096 := by omega
  repeat first | refine opsStep ?_ | refine codeStep ?_ | refine drawStep ?_
  refine callP (lex_run s _ blankR hl glyph_Blank) ?_
  repeat first | refine opsStep ?_ | refine codeStep ?_ | refine drawStep ?_
  refine loopE_of (ι := {x : Nat × Nat × Nat × Nat × List Wd // LxInv s x.1 x.2.1 x.2.2.1 x.2.2.2.1 x.2.2.2.2}) (fun x => (fr [(0, .str s), (3, .ref 0 0 0), (4, .hs 1 x.1.2.2.2.2.length 0 x.1.2.2.2.2.length 5), (5, .int .i64 x.1.2.2.1), (6, .int .i64 x.1.2.2.2.1), (7, .int .i64 x.1.2.1)], [.cells 0 (fltC flt0), .cells x.1.2.2.2.2.length (wdsC x.1.2.2.2.2)])) (fun x => s.length - x.1.2.1)
    ⟨(s.length + 1, runS blankR s, 0, 0, []), LxInv.start hlen⟩ (((Ent.fr' (l := [(0, .str s), (3, .ref 0 0 0), (4, .sl .nil 0 []), (5, .int .i64 0), (6, .int .i64 0), (7, .int .i64 (runS blankR s))]) (H' := [.cells 0 (fltC flt0)]) ⟨(by kernel_rfl), (by kernel_rfl), (by kernel_rfl), (by kernel_rfl), (by kernel_rfl), (by kernel_rfl), trivial⟩ (by kernel_rfl)).trans (Ent.nil 4 5 rfl)).trans (Ent.fr' ⟨(by kernel_rfl), (by kernel_rfl), (by kernel_rfl), (by kernel_rfl), (by kernel_rfl), (by kernel_rfl), trivial⟩ (by kernel_rfl))) ?_
  rintro ⟨⟨f, a, ch, ct, W⟩, hi⟩
  simp only at hi
  have h1 := hi.le
  have h2 := hi.len
  have h3 := hi.chs
  have h4 := hi.wds
  have h5 := hi.ch_le
  repeat first | refine opsStep ?_ | refine codeStep ?_ | refine drawStep ?_
  refine decB_dec (fun h => ?_) (fun h => ?_)
  · have ha : a < s.length := by have : (a : Int) < s.length := h; omega
    clear h
    have hcr : IntKind.wrap .i64 ((ch : Int) + (chS ((s.drop ct).take (a - ct)) : Nat)) = ((chA s a ch ct : Nat) : Int) := by
      rw [IntWalk.i64_in _ (by rw [chA] at h5; omega)]; rfl
    have hd0 : 0 < (s.drop a).length := by rw [List.length_drop]; omega
    have hd1 : (s.drop a).length < 2^62 := by rw [List.length_drop]; omega
    repeat first | refine opsStep ?_ | refine codeStep ?_ | refine drawStep ?_
    refine guardE_of (by simp; omega) ?_
    repeat first | refine opsStep ?_ | refine codeStep ?_ | refine drawStep ?_
    refine callP (runeCount ((s.drop ct).take (a - ct)) (by rw [List.length_take]; omega)) ?_
    repeat first | refine opsStep ?_ | refine codeStep ?_ | refine drawStep ?_
    refine guardE_of (by simp; omega) ?_
    have htk : (s.drop a).take (s.length - a) = s.drop a := List.take_of_length_le (by rw [List.length_drop]; omega)
    have hcall : Pure Tryd.prog 87 [.str ((s.drop a).take (s.length - a))] (.tup [.agg (tokC (tokS (s.drop a))), .int .i64 (tokS (s.drop a)).n, .int .i64 (tokS (s.drop a)).err]) := by
      rw [htk]; exact lex_word _ hd0 hd1
    repeat first | refine opsStep ?_ | refine codeStep ?_ | refine drawStep ?_
    refine callP hcall ?_
    repeat first | refine opsStep ?_ | refine codeStep ?_ | refine drawStep ?_
    refine decB_dec (fun he => ?_) (fun he => ?_)
    · have he' : (tokS (s.drop a)).err ≠ 0 := he
      clear he
      refine VCode.ent (Ent.fr' (l := [(3, .ref 0 0 0), (8, .ref 2 0 0), (11, .int .i64 (tokS (s.drop a)).err)]) (H' := [.cells 0 (fltC flt0), .cells W.length (wdsC W), .cells 0 [.int .i64 a, .int .i64 (chA s a ch ct : Nat)], .cells 0 (tokC (tokS (s.drop a)))]) ⟨(by kernel_rfl), (by kernel_rfl), (by kernel_rfl), trivial⟩ (Eq.trans (b := [.cells 0 (fltC flt0), .cells W.length (wdsC W), .cells 0 [.int .i64 a, .int .i64 (IntKind.wrap .i64 ((ch : Int) + (chS ((s.drop ct).take (a - ct)) : Nat)))], .cells 0 (tokC (tokS (s.drop a)))]) (by kernel_rfl) (by rw [hcr]))) ?_
      repeat first | refine opsStep ?_ | refine codeStep ?_ | refine drawStep ?_
      refine SW.drawn rfl (by kernel_rfl) ?_
      repeat first | refine opsStep ?_ | refine codeStep ?_ | refine drawStep ?_
      refine ⟨by kernel_rfl, ?_⟩
      repeat first | refine opsStep ?_ | refine codeStep ?_ | refine drawStep ?_
      have hE := hi.bad ha he'
      refine ⟨_, _, (Ent.fr' (l := [(2, .sl .nil 0 []), (3, .ref 0 0 0)]) (H' := [.cells 0 (fltC ⟨(tokS (s.drop a)).err, a, chA s a ch ct⟩), .cells W.length (wdsC W), .cells 0 [.int .i64 a, .int .i64 (chA s a ch ct : Nat)], .cells 0 (tokC (tokS (s.drop a)))]) ⟨(by kernel_rfl), (by kernel_rfl), trivial⟩ (by kernel_rfl)).trans (Ent.slotTo (y := .sl .any 0 []) 2 rfl (fun _ _ _ _ h => sl_any h)), ?_⟩
      rw [hE]
      kernel_rfl
    · have he' : (tokS (s.drop a)).err = 0 := Decidable.of_not_not he
      clear he
      have hN := hi.next ha he'
      have n1 := hN.1
      have n2 := hN.2.1
      have hnx := hN.2.2
      clear hN
      have htd : ((wdsC W).drop 0).take (W.length * 5) = wdsC W := by rw [List.drop_zero, List.take_of_length_le (by rw [wdsC_len]; omega)]
      have hsn : ∀ x : Wd, wdsC (W ++ [x]) = wdsC W ++ wdC x := fun x => by simp [wdsC]
      have han : IntKind.wrap .i64 ((a : Int) + ((tokS (s.drop a)).n : Nat)) = ((a + (tokS (s.drop a)).n : Nat) : Int) := by rw [IntWalk.i64_in _ (by omega)]; simp
      have hrl := runS_le blankR _ (s.drop (a + (tokS (s.drop a)).n)) rfl
      rw [List.length_drop] at hrl
      have har : IntKind.wrap .i64 (((a + (tokS (s.drop a)).n : Nat) : Int) + (runS blankR (s.drop (a + (tokS (s.drop a)).n)) : Nat)) = ((a + (tokS (s.drop a)).n + runS blankR (s.drop (a + (tokS (s.drop a)).n)) : Nat) : Int) := by rw [IntWalk.i64_in _ (by omega)]; simp
      refine VCode.ent (Ent.fr' (l := [(0, .str s), (3, .ref 0 0 0), (4, .hs 1 W.length 0 W.length 5), (5, .int .i64 (chA s a ch ct : Nat)), (6, .int .i64 a), (7, .int .i64 a), (8, .ref 2 0 0), (9, .ref 3 0 0), (10, .int .i64 (tokS (s.drop a)).n)]) (H' := [.cells 0 (fltC flt0), .cells W.length (wdsC W), .cells 0 [.int .i64 a, .int .i64 (chA s a ch ct : Nat)], .cells 0 (tokC (tokS (s.drop a)))]) ⟨(by kernel_rfl), (by kernel_rfl), (by kernel_rfl), congrArg (AV.int .i64) hcr, (by kernel_rfl), (by kernel_rfl), (by kernel_rfl), (by kernel_rfl), (by kernel_rfl), trivial⟩ (Eq.trans (b := [.cells 0 (fltC flt0), .cells W.length (wdsC W), .cells 0 [.int .i64 a, .int .i64 (IntKind.wrap .i64 ((ch : Int) + (chS ((s.drop ct).take (a - ct)) : Nat)))], .cells 0 (tokC (tokS (s.drop a)))]) (by kernel_rfl) (by rw [hcr]))) ?_
      repeat first | refine opsStep ?_ | refine codeStep ?_ | refine drawStep ?_
      refine guardE_of ⟨rfl, by rw [wdsC_len]; omega⟩ ?_
      refine guardE_of rfl ?_
      refine guardE_of ⟨by show W.length + 1 ≤ 9223372036854775807; omega, by show (W.length + 1) * 48 ≤ 140737488355328; omega⟩ ?_
      iterate 2 refine opsStep ?_
      refine VCode.ent (Ent.frD (l := [(0, .str s), (3, .ref 0 0 0), (4, .hs 1 (W.length + 1) 0 (W.length + 1) 5), (5, .int .i64 (chA s a ch ct : Nat)), (6, .int .i64 a), (7, .int .i64 a), (10, .int .i64 (tokS (s.drop a)).n)])
        (H' := [.cells 0 (fltC flt0), .cells (W.length + 1) (wdsC (W ++ [wdT (tokS (s.drop a)) a (chA s a ch ct)]))])
        (X := [.cells 0 [.int .i64 a, .int .i64 (chA s a ch ct : Nat)], .cells 0 (wdC (wdT (tokS (s.drop a)) a (chA s a ch ct))), .cells 0 (wdC (wdT (tokS (s.drop a)) a (chA s a ch ct)))])
        ⟨(by kernel_rfl), (by kernel_rfl), (by kernel_rfl), (by kernel_rfl), (by kernel_rfl), (by kernel_rfl), (by kernel_rfl), trivial⟩ (Eq.trans (b := [.cells 0 (fltC flt0), .cells (W.length + 1) (((wdsC W).drop 0).take (W.length * 5) ++ wdC (wdT (tokS (s.drop a)) a (chA s a ch ct))), .cells 0 [.int .i64 a, .int .i64 (chA s a ch ct : Nat)], .cells 0 (wdC (wdT (tokS (s.drop a)) a (chA s a ch ct))), .cells 0 (wdC (wdT (tokS (s.drop a)) a (chA s a ch ct)))]) (by kernel_rfl) (by rw [htd, hsn]; rfl)) (Nat.zero_le _)
        (by simp [frBel, AV.bel]) (by simp only [blksBel, Blk.bel, List.length_cons, List.length_nil]; exact ⟨by simp [fltC, bels, AV.bel], wdsC_bel _ _, trivial⟩)) ?_
      repeat first | refine opsStep ?_ | refine codeStep ?_ | refine drawStep ?_
      refine guardE_of (by show (0 : Int) ≤ IntKind.wrap .i64 ((a : Int) + ((tokS (s.drop a)).n : Nat)) ∧ IntKind.wrap .i64 ((a : Int) + ((tokS (s.drop a)).n : Nat)) ≤ (s.length : Int) ∧ (s.length : Int) ≤ s.length; rw [han]; omega) ?_
      have hcall2 : Pure Tryd.prog 85 [.str ((s.drop (IntKind.wrap .i64 ((a : Int) + ((tokS (s.drop a)).n : Nat))).toNat).take (s.length - (IntKind.wrap .i64 ((a : Int) + ((tokS (s.drop a)).n : Nat))).toNat)), .fn (.func 86) [] []] (.int .i64 (runS blankR (s.drop (a + (tokS (s.drop a)).n)))) := by
        rw [han, Int.toNat_natCast, List.take_of_length_le (by rw [List.length_drop]; omega)]
        exact lex_run _ _ blankR (by rw [List.length_drop]; omega) glyph_Blank
      repeat first | refine opsStep ?_ | refine codeStep ?_ | refine drawStep ?_
      refine callP hcall2 ?_
      repeat first | refine opsStep ?_ | refine codeStep ?_ | refine drawStep ?_
      refine ⟨⟨(f - 1, a + (tokS (s.drop a)).n + runS blankR (s.drop (a + (tokS (s.drop a)).n)), chA s a ch ct, a, W ++ [wdT (tokS (s.drop a)) a (chA s a ch ct)]), hnx⟩, (by show s.length - (a + (tokS (s.drop a)).n + runS blankR (s.drop (a + (tokS (s.drop a)).n))) < s.length - a; omega), Ent.fr' ⟨(by kernel_rfl), (by kernel_rfl), ?_, (by kernel_rfl), (by kernel_rfl), ?_, trivial⟩ ?_⟩
      · show AV.hs 1 (W.length + 1) 0 (W.length + 1) 5 = AV.hs 1 (W ++ [wdT (tokS (s.drop a)) a (chA s a ch ct)]).length 0 (W ++ [wdT (tokS (s.drop a)) a (chA s a ch ct)]).length 5
        rw [List.length_append]; rfl
      · show AV.int .i64 (IntKind.wrap .i64 (IntKind.wrap .i64 ((a : Int) + ((tokS (s.drop a)).n : Nat)) + (runS blankR (s.drop (a + (tokS (s.drop a)).n)) : Nat))) = _
        rw [han, har]
      · show [Blk.cells 0 (fltC flt0), .cells (W.length + 1) (wdsC (W ++ [wdT (tokS (s.drop a)) a (chA s a ch ct)]))] = [Blk.cells 0 (fltC flt0), .cells (W ++ [wdT (tokS (s.drop a)) a (chA s a ch ct)]).length (wdsC (W ++ [wdT (tokS (s.drop a)) a (chA s a ch ct)]))]
        rw [List.length_append]; rfl
  · have ha : ¬ a < s.length := by have : ¬ (a : Int) < s.length := h; omega
    clear h
    have hE := hi.stop ha
    repeat first | refine opsStep ?_ | refine codeStep ?_ | refine drawStep ?_
    refine ⟨_, _, (Ent.fr' (l := [(2, .hs 1 W.length 0 W.length 5), (3, .ref 0 0 0)]) (H' := [.cells 0 (fltC flt0), .cells W.length (wdsC W)]) ⟨(by kernel_rfl), (by kernel_rfl), trivial⟩ (by kernel_rfl)).trans (Ent.freeze (n := W.length) (cs := wdsC W) (es := 5) (g := W.length) (b := 1) 2 rfl rfl (wdsC_len W).symm), ?_⟩
    rw [hE]
    kernel_rfl

end Tab

/- The reader's own steps. -/
namespace Tab
open Go Go.Proofs
set_option maxRecDepth 10000
set_option linter.unusedVariables false
set_option linter.unusedSimpArgs false
set_option linter.unusedSectionVars false
set_option maxHeartbeats 1000000

def rdC (e : Nat × Nat) (r : Rs) : List AV := [aWs .any r.ws, .int .i64 e.1, .int .i64 e.2, .int .i64 r.fl.why, .int .i64 r.fl.at', .int .i64 r.fl.ch]
def rdH (e : Nat × Nat) (r : Rs) : List Blk := [.cells 0 (rdC e r)]
theorem rdC_bel (e : Nat × Nat) (r : Rs) (n : Nat) : bels n (rdC e r) := by
  simp only [rdC, bels, AV.bel]
  exact ⟨AV.closed_bel _ (aWs_closed _ _), trivial, trivial, trivial, trivial, trivial, trivial⟩
theorem rdH_bel (e : Nat × Nat) (r : Rs) (n : Nat) : blksBel n (rdH e r) := ⟨rdC_bel e r n, trivial⟩

theorem rd_bad (e : Nat × Nat) (r : Rs) : ACall Tryd.prog 42 [.ref 0 0 0] (rdH e r) fun o H' => o = .ret (.bool (decide (r.fl.why ≠ 0))) ∧ H' = rdH e r := by
  refine ACall.of_sw 9 Tryd.func42 rfl Tryd.ntmps42 (by kernel_rfl) (Nat.le_of_ble_eq_true (by kernel_rfl)) ?_; refine SW.of_vc ?_
  repeat first | refine opsStep ?_ | refine codeStep ?_ | refine drawStep ?_
  exact finR (l := [(2, .bool (decide (r.fl.why ≠ 0)))]) (v := .bool (decide (r.fl.why ≠ 0))) (H₁ := rdH e r) ⟨(by kernel_rfl), trivial⟩ (by kernel_rfl) (Ent.refl _ _ _) (by kernel_rfl) ⟨rfl, rfl⟩

theorem rd_sign (e : Nat × Nat) (r : Rs) : ACall Tryd.prog 89 [.ref 0 0 0] (rdH e r) fun o H' => o = .ret (.str r.sign) ∧ H' = rdH e r := by
  rcases r with ⟨ws, fl⟩
  cases ws with
  | nil =>
    refine ACall.of_sw 26 Tryd.func89 rfl Tryd.ntmps89 (by kernel_rfl) (Nat.le_of_ble_eq_true (by kernel_rfl)) ?_; refine SW.of_vc ?_
    repeat first | refine opsStep ?_ | refine codeStep ?_ | refine drawStep ?_
    exact finR (l := [(2, .str [])]) (v := .str []) (H₁ := rdH e ⟨[], fl⟩) ⟨(by kernel_rfl), trivial⟩ (by kernel_rfl) (Ent.refl _ _ _) (by kernel_rfl) ⟨rfl, rfl⟩
  | cons w l =>
    have hs : Rs.sign ⟨w :: l, fl⟩ = if w.kind = 2 then w.text else [] := rfl
    rw [hs]
    refine ACall.of_sw 26 Tryd.func89 rfl Tryd.ntmps89 (by kernel_rfl) (Nat.le_of_ble_eq_true (by kernel_rfl)) ?_; refine SW.of_vc ?_
    repeat first | refine opsStep ?_ | refine codeStep ?_ | refine drawStep ?_
    refine decB_dec (fun h => ?_) (fun h => ?_)
    · clear h
      repeat first | refine opsStep ?_ | refine codeStep ?_ | refine drawStep ?_
      refine guardE_of ⟨by decide, by show (0 : Int) < ((l.length + 1 : Nat) : Int); omega⟩ ?_
      repeat first | refine opsStep ?_ | refine codeStep ?_ | refine drawStep ?_
      refine decB_dec (fun hk => ?_) (fun hk => ?_)
      · have hk : w.kind = 2 := hk
        repeat first | refine opsStep ?_ | refine codeStep ?_ | refine drawStep ?_
        refine guardE_of ⟨by decide, by show (0 : Int) < ((l.length + 1 : Nat) : Int); omega⟩ ?_
        repeat first | refine opsStep ?_ | refine codeStep ?_ | refine drawStep ?_
        exact finR (l := [(2, .str w.text)]) (v := .str w.text) (H₁ := rdH e ⟨w :: l, fl⟩) ⟨(by kernel_rfl), trivial⟩ (by kernel_rfl) (Ent.refl _ _ _) (by kernel_rfl) ⟨by rw [if_pos hk], rfl⟩
      · have hk : ¬ w.kind = 2 := hk
        repeat first | refine opsStep ?_ | refine codeStep ?_ | refine drawStep ?_
        exact finR (l := [(2, .str [])]) (v := .str []) (H₁ := rdH e ⟨w :: l, fl⟩) ⟨(by kernel_rfl), trivial⟩ (by kernel_rfl) (Ent.refl _ _ _) (by kernel_rfl) ⟨by rw [if_neg hk], rfl⟩
    · exact absurd (show ((l.length + 1 : Nat) : Int) > 0 by omega) h

theorem rd_wrong (e : Nat × Nat) (r : Rs) (y : Int) : ACall Tryd.prog 64 [.ref 0 0 0, .int .i64 y] (rdH e r) fun o H' => o = .ret (.tup []) ∧ H' = rdH e (r.wrong e y) := by
  unfold Rs.wrong
  refine ACall.of_sw 36 Tryd.func64 rfl Tryd.ntmps64 (by kernel_rfl) (Nat.le_of_ble_eq_true (by kernel_rfl)) ?_; refine SW.of_vc ?_
  repeat first | refine opsStep ?_ | refine codeStep ?_ | refine drawStep ?_
  refine decB_dec (fun h => ?_) (fun h => ?_)
  · have h : r.fl.why ≠ 0 := h
    rw [if_pos h]
    repeat first | refine opsStep ?_ | refine codeStep ?_ | refine drawStep ?_
    exact finR (l := []) (v := .tup []) (H₁ := rdH e r) trivial (by kernel_rfl) (Ent.refl _ _ _) (by kernel_rfl) ⟨rfl, rfl⟩
  · have h : ¬ r.fl.why ≠ 0 := h
    rw [if_neg h]
    rcases r with ⟨ws, fl⟩
    cases ws with
    | nil =>
      repeat first | refine opsStep ?_ | refine codeStep ?_ | refine drawStep ?_
      exact finR (l := []) (v := .tup []) (H₁ := rdH e ⟨[], ⟨y, e.1, e.2⟩⟩) trivial (by kernel_rfl) (Ent.refl _ _ _) (by kernel_rfl) ⟨rfl, rfl⟩
    | cons w l =>
      repeat first | refine opsStep ?_ | refine codeStep ?_ | refine drawStep ?_
      refine decB_dec (fun h2 => ?_) (fun h2 => ?_)
      · clear h2
        repeat first | refine opsStep ?_ | refine codeStep ?_ | refine drawStep ?_
        refine guardE_of ⟨by decide, by show (0 : Int) < ((l.length + 1 : Nat) : Int); omega⟩ ?_
        repeat first | refine opsStep ?_ | refine codeStep ?_ | refine drawStep ?_
        exact finR (l := []) (v := .tup []) (H₁ := rdH e ⟨w :: l, ⟨y, w.at', w.ch⟩⟩) trivial (by kernel_rfl) (Ent.refl _ _ _) (by kernel_rfl) ⟨rfl, rfl⟩
      · exact absurd (show ((l.length + 1 : Nat) : Int) > 0 by omega) h2

theorem wds_cut (w : Wd) (l : List Wd) : ((wdsC (w :: l)).drop (1 * 5)).take ((l.length + 1 - 1) * 5) = wdsC l := by
  have h : wdsC (w :: l) = wdC w ++ wdsC l := by simp [wdsC]
  rw [h, List.drop_left' (by rfl), List.take_of_length_le (by rw [wdsC_len]; omega)]

theorem rd_take (e : Nat × Nat) (r : Rs) (L : List Str) (hL : L.length < 100) (h0 : [] ∉ L) :
    ACall Tryd.prog 62 [.ref 0 0 0, aSs .any L] (rdH e r) fun o H' => o = .ret (.str (r.take L).1) ∧ H' = rdH e (r.take L).2 := by
  have hsg := rd_sign e r
  unfold Rs.take
  refine ACall.of_sw 29 Tryd.func62 rfl Tryd.ntmps62 (by kernel_rfl) (Nat.le_of_ble_eq_true (by kernel_rfl)) ?_; refine SW.of_vc ?_
  repeat first | refine opsStep ?_ | refine codeStep ?_ | refine drawStep ?_
  refine callH (rd_bad e r) ?_
  repeat first | refine opsStep ?_ | refine codeStep ?_ | refine drawStep ?_
  refine decB_dec (fun h => ?_) (fun h => ?_)
  · have h : r.fl.why ≠ 0 := h
    have hE : (if r.fl.why = 0 ∧ r.sign ∈ L then (r.sign, (⟨r.ws.tail, r.fl⟩ : Rs)) else ([], r)) = ([], r) := if_neg fun k => h k.1
    repeat first | refine opsStep ?_ | refine codeStep ?_ | refine drawStep ?_
    exact finR (l := [(4, .str [])]) (v := .str []) (H₁ := rdH e r) ⟨(by kernel_rfl), trivial⟩ (by kernel_rfl) (Ent.refl _ _ _) (by kernel_rfl) ⟨by rw [hE], by rw [hE]⟩
  · have h : r.fl.why = 0 := Decidable.of_not_not h
    repeat first | refine opsStep ?_ | refine codeStep ?_ | refine drawStep ?_
    refine loopE_of (ι := {i : Nat // i ≤ L.length ∧ r.sign ∉ L.take i}) (fun i => (fr [(0, .ref 0 0 0), (9, aSs .any L), (10, .int .i64 L.length), (11, .int .i64 i.1)], rdH e r)) (fun i => L.length - i.1)
      ⟨0, Nat.zero_le _, by simp⟩ (Ent.fr' ⟨(by kernel_rfl), (by kernel_rfl), (by kernel_rfl), (by kernel_rfl), trivial⟩ (by kernel_rfl)) ?_
    rintro ⟨i, hi, hn⟩
    repeat first | refine opsStep ?_ | refine codeStep ?_ | refine drawStep ?_
    refine decB_dec (fun hlt => ?_) (fun hlt => ?_)
    · have hi' : i < L.length := by have : (i : Int) < L.length := hlt; omega
      clear hlt
      have hm : L[i]'hi' ∈ L := List.getElem_mem hi'
      have hld : (L.map AV.str)[i]? = some (.str (L[i]'hi')) := by simp [hi']
      have hn' : r.sign ≠ L[i]'hi' → r.sign ∉ L.take (i + 1) := fun hne hm => by
        rw [List.take_succ_eq_append_getElem hi'] at hm
        rcases List.mem_append.1 hm with hm | hm
        · exact hn hm
        · exact hne (by simpa using hm)
      generalize L[i]'hi' = x at *
      repeat first | refine opsStep ?_ | refine codeStep ?_ | refine drawStep ?_
      refine guardE_of ⟨by omega, by show (i : Int) < L.length; omega⟩ ?_
      repeat first | refine opsStep ?_ | refine codeStep ?_ | refine drawStep ?_
      refine optE_of (c := AV.str x) (by show ((L.map AV.str).drop ((i : Int).toNat * 1))[0]? = _; rw [List.getElem?_drop, Int.toNat_natCast]; simpa using hld) ?_
      repeat first | refine opsStep ?_ | refine codeStep ?_ | refine drawStep ?_
      refine callH hsg ?_
      repeat first | refine opsStep ?_ | refine codeStep ?_ | refine drawStep ?_
      refine decB_dec (fun hx => ?_) (fun hx => ?_)
      · have hx : r.sign = x := hx
        have hE : (if r.fl.why = 0 ∧ r.sign ∈ L then (r.sign, (⟨r.ws.tail, r.fl⟩ : Rs)) else ([], r)) = (x, ⟨r.ws.tail, r.fl⟩) := by rw [if_pos ⟨h, hx ▸ hm⟩, hx]
        have hx0 : x ≠ [] := fun h => h0 (h ▸ hm)
        rcases r with ⟨ws, fl⟩
        cases ws with
        | nil => exact absurd hx.symm hx0
        | cons w l =>
          have hcut := wds_cut w l
          repeat first | refine opsStep ?_ | refine codeStep ?_ | refine drawStep ?_
          refine guardE_of (by show (0 : Int) ≤ 1 ∧ (1 : Int) ≤ ((l.length + 1 : Nat) : Int) ∧ ((l.length + 1 : Nat) : Int) ≤ ((l.length + 1 : Nat) : Int); omega) ?_
          repeat first | refine opsStep ?_ | refine codeStep ?_ | refine drawStep ?_
          refine finR (l := [(4, .str x)]) (v := .str x) (H₁ := rdH e ⟨l, fl⟩) ⟨(by kernel_rfl), trivial⟩ (Eq.trans (b := [.cells 0 [.sl .any (((l.length + 1 : Nat) : Int).toNat - 1) (((wdsC (w :: l)).drop (1 * 5)).take ((((l.length + 1 : Nat) : Int).toNat - 1) * 5)), .int .i64 e.1, .int .i64 e.2, .int .i64 fl.why, .int .i64 fl.at', .int .i64 fl.ch]]) (by kernel_rfl) (by rw [Int.toNat_natCast, hcut]; rfl)) (Ent.refl _ _ _) (by kernel_rfl) ⟨by rw [hE], by rw [hE]; rfl⟩
      · have hx : r.sign ≠ x := hx
        repeat first | refine opsStep ?_ | refine codeStep ?_ | refine drawStep ?_
        exact ⟨⟨i + 1, hi', hn' hx⟩, (by show L.length - (i + 1) < L.length - i; omega), Ent.fr' ⟨(by kernel_rfl), (by kernel_rfl), (by kernel_rfl), inc_slot (i := i) (by omega), trivial⟩ (by kernel_rfl)⟩
    · have hi' : i = L.length := by have : ¬ (i : Int) < L.length := hlt; omega
      subst hi'
      rw [List.take_length] at hn
      have hE : (if r.fl.why = 0 ∧ r.sign ∈ L then (r.sign, (⟨r.ws.tail, r.fl⟩ : Rs)) else ([], r)) = ([], r) := if_neg fun k => hn k.2
      repeat first | refine opsStep ?_ | refine codeStep ?_ | refine drawStep ?_
      exact finR (l := [(4, .str [])]) (v := .str []) (H₁ := rdH e r) ⟨(by kernel_rfl), trivial⟩ (by kernel_rfl) (Ent.refl _ _ _) (by kernel_rfl) ⟨by rw [hE], by rw [hE]⟩

theorem rd_need (e : Nat × Nat) (r : Rs) (s : Str) (h0 : s ≠ []) : ACall Tryd.prog 124 [.ref 0 0 0, .str s] (rdH e r) fun o H' => o = .ret (.tup []) ∧ H' = rdH e (r.need e s) := by
  have ht := rd_take e r [s] (by simp) (by simpa using h0.symm)
  unfold Rs.need
  generalize r.take [s] = k at *
  refine ACall.of_sw 11 Tryd.func124 rfl Tryd.ntmps124 (by kernel_rfl) (Nat.le_of_ble_eq_true (by kernel_rfl)) ?_; refine SW.of_vc ?_
  repeat refine codeStep ?_
  iterate 2 refine opsStep ?_
  refine opsFrz ?_
  iterate 1 refine opsStep ?_
  refine callT (args := [.ref 0 0 0, aSs .any [s]]) ht [.fro 0 [.str s]] rfl rfl (by simp [bels, AV.bel, aSs, rdH]) (rdH_bel _ _ _) (rdH_bel _ _ _) (by simp [AV.bel, bels]) ?_
  repeat first | refine opsStep ?_ | refine codeStep ?_ | refine drawStep ?_
  refine decB_dec (fun h => ?_) (fun h => ?_)
  · have hE : (if k.1 = [] then k.2.wrong e 71 else k.2) = k.2.wrong e 71 := if_pos h
    have hw := rd_wrong e k.2 71
    repeat first | refine opsStep ?_ | refine codeStep ?_ | refine drawStep ?_
    refine callT (args := [.ref 0 0 0, .int .i64 71]) hw [.fro 0 [.str s]] rfl rfl (by simp [bels, AV.bel, rdH]) (rdH_bel _ _ _) (rdH_bel _ _ _) (by simp [AV.bel, bels]) ?_
    repeat first | refine opsStep ?_ | refine codeStep ?_ | refine drawStep ?_
    exact finR (l := []) (v := .tup []) (H₁ := rdH e (k.2.wrong e 71) ++ [.fro 0 [.str s]]) trivial (by kernel_rfl) (Ent.frD (l := []) trivial rfl (Nat.le_refl 1) trivial (rdH_bel _ _ _)) (by kernel_rfl) ⟨rfl, by rw [hE]⟩
  · have hE : (if k.1 = [] then k.2.wrong e 71 else k.2) = k.2 := if_neg h
    repeat first | refine opsStep ?_ | refine codeStep ?_ | refine drawStep ?_
    exact finR (l := []) (v := .tup []) (H₁ := rdH e k.2 ++ [.fro 0 [.str s]]) trivial (by kernel_rfl) (Ent.frD (l := []) trivial rfl (Nat.le_refl 1) trivial (rdH_bel _ _ _)) (by kernel_rfl) ⟨rfl, by rw [hE]⟩

def zW : List AV := [.int .i64 0, .str [], .int .i64 0, .int .i64 0, .int .i64 0]
theorem rd_word (e : Nat × Nat) (r : Rs) (k : Int) : ACall Tryd.prog 125 [.ref 0 0 0, .int .i64 k] (rdH e r) fun o H' => o = .ret (.agg (wdC (r.word e k).1)) ∧ H' = rdH e (r.word e k).2 := by
  refine ACall.drop ?_ (Nat.le_refl 1) (by simp only [AV.bel]; exact closeds_bel _ (wdC_closed _)) (rdH_bel _ _ _)
  have hwr := rd_wrong e r 71
  have hbd := rd_bad e r
  rcases r with ⟨ws, fl⟩
  cases ws with
  | nil =>
    have hE : Rs.word e ⟨[], fl⟩ k = (wd0, Rs.wrong e ⟨[], fl⟩ 71) := by unfold Rs.word; rw [if_pos (.inr (.inl rfl))]
    refine ACall.of_sw 45 Tryd.func125 rfl Tryd.ntmps125 (by kernel_rfl) (Nat.le_of_ble_eq_true (by kernel_rfl)) ?_; refine SW.of_vc ?_
    repeat first | refine opsStep ?_ | refine codeStep ?_ | refine drawStep ?_
    refine callT (args := [.ref 0 0 0]) hbd [.cells 0 zW] rfl rfl (by simp [bels, AV.bel, rdH]) (rdH_bel _ _ _) (rdH_bel _ _ _) (by simp [AV.bel, bels]) ?_
    repeat first | refine opsStep ?_ | refine codeStep ?_ | refine drawStep ?_
    refine decB_dec (fun h => ?_) (fun h => ?_)
    · repeat first | refine opsStep ?_ | refine codeStep ?_ | refine drawStep ?_
      refine callT (args := [.ref 0 0 0, .int .i64 71]) hwr [.cells 0 zW] rfl rfl (by simp [bels, AV.bel, rdH]) (rdH_bel _ _ _) (rdH_bel _ _ _) (by simp [AV.bel, bels]) ?_
      repeat first | refine opsStep ?_ | refine codeStep ?_ | refine drawStep ?_
      exact finC [.cells 0 zW] (by kernel_rfl) (v' := .agg (wdC wd0)) (by rw [hE]) (by rw [hE]; rfl)
    · repeat first | refine opsStep ?_ | refine codeStep ?_ | refine drawStep ?_
      refine callT (args := [.ref 0 0 0, .int .i64 71]) hwr [.cells 0 zW] rfl rfl (by simp [bels, AV.bel, rdH]) (rdH_bel _ _ _) (rdH_bel _ _ _) (by simp [AV.bel, bels]) ?_
      repeat first | refine opsStep ?_ | refine codeStep ?_ | refine drawStep ?_
      exact finC [.cells 0 zW] (by kernel_rfl) (v' := .agg (wdC wd0)) (by rw [hE]) (by rw [hE]; rfl)
  | cons w l =>
    have hE0 : fl.why ≠ 0 → Rs.word e ⟨w :: l, fl⟩ k = (wd0, Rs.wrong e ⟨w :: l, fl⟩ 71) := fun h => by unfold Rs.word; rw [if_pos (.inl h)]
    have hE1 : w.kind ≠ k → Rs.word e ⟨w :: l, fl⟩ k = (wd0, Rs.wrong e ⟨w :: l, fl⟩ 71) := fun h => by unfold Rs.word; rw [if_pos (.inr (.inr h))]
    have hE2 : fl.why = 0 → w.kind = k → Rs.word e ⟨w :: l, fl⟩ k = (w, ⟨l, fl⟩) := fun h h' => by
      unfold Rs.word
      rw [if_neg (by rintro (h1 | h1 | h1)
                     · exact h1 h
                     · cases h1
                     · exact h1 h')]
      rfl
    have hcut := wds_cut w l
    refine ACall.of_sw 45 Tryd.func125 rfl Tryd.ntmps125 (by kernel_rfl) (Nat.le_of_ble_eq_true (by kernel_rfl)) ?_; refine SW.of_vc ?_
    repeat first | refine opsStep ?_ | refine codeStep ?_ | refine drawStep ?_
    refine callT (args := [.ref 0 0 0]) hbd [.cells 0 zW] rfl rfl (by simp [bels, AV.bel, rdH]) (rdH_bel _ _ _) (rdH_bel _ _ _) (by simp [AV.bel, bels]) ?_
    repeat first | refine opsStep ?_ | refine codeStep ?_ | refine drawStep ?_
    refine decB_dec (fun h => ?_) (fun h => ?_)
    · have hE := hE0 h
      repeat first | refine opsStep ?_ | refine codeStep ?_ | refine drawStep ?_
      refine callT (args := [.ref 0 0 0, .int .i64 71]) hwr [.cells 0 zW] rfl rfl (by simp [bels, AV.bel, rdH]) (rdH_bel _ _ _) (rdH_bel _ _ _) (by simp [AV.bel, bels]) ?_
      repeat first | refine opsStep ?_ | refine codeStep ?_ | refine drawStep ?_
      exact finC [.cells 0 zW] (by kernel_rfl) (v' := .agg (wdC wd0)) (by rw [hE]) (by rw [hE]; rfl)
    · have h : fl.why = 0 := Decidable.of_not_not h
      repeat first | refine opsStep ?_ | refine codeStep ?_ | refine drawStep ?_
      refine guardE_of ⟨by decide, by show (0 : Int) < ((l.length + 1 : Nat) : Int); omega⟩ ?_
      repeat first | refine opsStep ?_ | refine codeStep ?_ | refine drawStep ?_
      refine decB_dec (fun hk => ?_) (fun hk => ?_)
      · have hE := hE1 hk
        repeat first | refine opsStep ?_ | refine codeStep ?_ | refine drawStep ?_
        refine callT (args := [.ref 0 0 0, .int .i64 71]) hwr [.cells 0 zW] rfl rfl (by simp [bels, AV.bel, rdH]) (rdH_bel _ _ _) (rdH_bel _ _ _) (by simp [AV.bel, bels]) ?_
        repeat first | refine opsStep ?_ | refine codeStep ?_ | refine drawStep ?_
        exact finC [.cells 0 zW] (by kernel_rfl) (v' := .agg (wdC wd0)) (by rw [hE]) (by rw [hE]; rfl)
      · have hE := hE2 h (Decidable.of_not_not hk)
        repeat first | refine opsStep ?_ | refine codeStep ?_ | refine drawStep ?_
        refine guardE_of ⟨by decide, by show (0 : Int) < ((l.length + 1 : Nat) : Int); omega⟩ ?_
        repeat first | refine opsStep ?_ | refine codeStep ?_ | refine drawStep ?_
        refine guardE_of (by show (0 : Int) ≤ 1 ∧ (1 : Int) ≤ ((l.length + 1 : Nat) : Int) ∧ ((l.length + 1 : Nat) : Int) ≤ ((l.length + 1 : Nat) : Int); omega) ?_
        repeat first | refine opsStep ?_ | refine codeStep ?_ | refine drawStep ?_
        exact finC (H₁ := rdH e (Rs.word e ⟨w :: l, fl⟩ k).2) [.cells 0 (wdC w), .cells 0 (wdC w)] (v' := .agg (wdC w)) (by kernel_rfl) (by rw [hE]) (Eq.trans (b := [.cells 0 [.sl .any (((l.length + 1 : Nat) : Int).toNat - 1) (((wdsC (w :: l)).drop (1 * 5)).take ((((l.length + 1 : Nat) : Int).toNat - 1) * 5)), .int .i64 e.1, .int .i64 e.2, .int .i64 fl.why, .int .i64 fl.at', .int .i64 fl.ch], .cells 0 (wdC w), .cells 0 (wdC w)]) (by kernel_rfl) (by rw [Int.toNat_natCast, hcut, hE]; rfl))

end Tab

/- The reader of terms. -/
namespace Tab
open Go Go.Proofs
set_option maxRecDepth 10000
set_option linter.unusedVariables false
set_option linter.unusedSimpArgs false
set_option linter.unusedSectionVars false
set_option maxHeartbeats 1000000

def tcl (t : TT) : List AV := [.int .i64 t.op, .int .i64 t.num, .str t.name, .sl t.k t.args.length (ttsC t.args)]
theorem tcl_closed (t : TT) : closeds (tcl t) := by have := TT.cells_closed t; rwa [TT.cells_eq] at this
theorem tcl_bel (n : Nat) (t : TT) : bels n (tcl t) := closeds_bel _ (tcl_closed t)
theorem tcl_two (op : Int) (a b : TT) : tcl (.mk op 0 [] .any [a, b]) = [.int .i64 op, .int .i64 0, .str [], .sl .any 2 (tcl a ++ tcl b)] := by
  simp only [tcl, TT.op, TT.num, TT.name, TT.k, TT.args, ttsC, TT.cells_eq, List.append_nil]; rfl
theorem tcl_one (op : Int) (a : TT) : tcl (.mk op 0 [] .any [a]) = [.int .i64 op, .int .i64 0, .str [], .sl .any 1 (tcl a)] := by
  simp only [tcl, TT.op, TT.num, TT.name, TT.k, TT.args, ttsC, TT.cells_eq, List.append_nil]; rfl
def zT : List AV := [.int .i64 0, .int .i64 0, .str [], .sl .nil 0 []]
theorem zT_bel (n : Nat) : bels n zT := by simp [zT, bels, AV.bel]
theorem rdX_bel {n : Nat} (e : Nat × Nat) (r : Rs) {X : List Blk} (h : blksBel n X) : blksBel n (rdH e r ++ X) := ⟨rdC_bel e r n, h⟩

def TermC (f : FuncId) (e : Nat × Nat) (r : Rs) (x : TT × Rs) : Prop := ACall Tryd.prog f [.ref 0 0 0] (rdH e r) fun o H' => o = .ret (.agg (tcl x.1)) ∧ H' = rdH e x.2
theorem TermC.of {f : FuncId} {e : Nat × Nat} {r : Rs} {x : TT × Rs} (h : ACall Tryd.prog f [.ref 0 0 0] (rdH e r) fun o H' => ∃ X, o = .ret (.agg (tcl x.1)) ∧ H' = rdH e x.2 ++ X) : TermC f e r x :=
  ACall.drop h (Nat.le_refl 1) (by simp only [AV.bel]; exact tcl_bel _ _) (rdH_bel _ _ _)


theorem w_product (e : Nat × Nat) (n : Nat) (hF : ∀ r : Rs, 16 * r.ws.length + 1 ≤ n → TermC 103 e r (pFa e n r)) (hFm : ∀ m, m < n → ∀ r : Rs, 16 * r.ws.length + 1 ≤ m → TermC 103 e r (pFa e m r)) (r : Rs) (hn : 16 * r.ws.length + 2 ≤ n + 1) : TermC 74 e r (pP e (n + 1) r) := by
  refine TermC.of ?_
  rw [pP]
  have hf := hF r (by omega)
  have hle := (terms_le e n).2.2.2.2 r
  generalize pFa e n r = x0 at *
  rcases x0 with ⟨t0, s0⟩
  simp only at hle hf ⊢
  have hn0 : 16 * s0.ws.length + 1 ≤ n := by omega
  clear hn hle
  generalize hfin : pPL e n (t0, s0) = fin at *
  refine ACall.of_sw 16 Tryd.func74 rfl Tryd.ntmps74 (by kernel_rfl) (Nat.le_of_ble_eq_true (by kernel_rfl)) ?_; refine SW.of_vc ?_
  repeat first | refine opsStep ?_ | refine codeStep ?_ | refine drawStep ?_
  refine callT (args := [.ref 0 0 0]) hf [.cells 0 zT] rfl rfl (by simp [bels, AV.bel, rdH]) (rdH_bel _ _ _) (rdH_bel _ _ _) (by simp only [AV.bel]; exact tcl_bel _ _) ?_
  repeat first | refine opsStep ?_ | refine codeStep ?_ | refine drawStep ?_
  refine loopE_of (ι := {x : (TT × Rs) × Nat // x.2 ≤ n ∧ pPL e x.2 x.1 = fin ∧ 16 * x.1.2.ws.length + 1 ≤ x.2}) (fun x => (fr [(0, .ref 0 0 0), (2, .ref 1 0 0), (3, .ref 2 0 0)], rdH e x.1.1.2 ++ [.cells 0 zT, .cells 0 (tcl x.1.1.1)])) (fun x => x.1.2)
    ⟨((t0, s0), n), Nat.le_refl _, hfin, hn0⟩ (Ent.fr' ⟨(by kernel_rfl), (by kernel_rfl), (by kernel_rfl), trivial⟩ (by kernel_rfl)) ?_
  rintro ⟨⟨⟨t, s⟩, m⟩, h0, h1, h2⟩
  simp only at h0 h1 h2
  obtain ⟨m, rfl⟩ : ∃ k, m = k + 1 := ⟨m - 1, by omega⟩
  have hk := rd_take e s [tMul] (by simp) (by simp [tMul])
  have hlt := @take_lt s [tMul] (by simp [tMul])
  rw [pPL] at h1
  simp only at h1
  generalize s.take [tMul] = k at *
  rcases k with ⟨kt, ks⟩
  simp only at hk hlt h1
  repeat refine codeStep ?_
  iterate 1 refine opsStep ?_
  refine opsFrz ?_
  iterate 1 refine opsStep ?_
  refine callT (args := [.ref 0 0 0, aSs .any [tMul]]) hk [.cells 0 zT, .cells 0 (tcl t), .fro 0 [.str tMul]] rfl rfl (by simp [bels, AV.bel, aSs, rdH]) (rdH_bel _ _ _) (rdH_bel _ _ _) (by simp [AV.bel, bels]) ?_
  repeat first | refine opsStep ?_ | refine codeStep ?_ | refine drawStep ?_
  refine decB_dec (fun hkt => ?_) (fun hkt => ?_)
  · have hkt : kt ≠ [] := hkt
    rw [if_pos hkt] at h1
    have hlt := hlt hkt
    have hf := hFm m (by omega) ks (by omega)
    have hle := (terms_le e m).2.2.2.2 ks
    generalize pFa e m ks = y at *
    rcases y with ⟨u, s'⟩
    simp only at hf hle h1
    repeat refine codeStep ?_
    refine SW.drawn rfl (by kernel_rfl) ?_
    iterate 2 refine drawStep ?_
    refine drawGot ?_
    refine gotCallW 0 hf rfl rfl (by kernel_rfl) (by kernel_rfl) (by kernel_rfl) (by simp [bels, AV.bel]) (rdC_bel _ _ _) (rdC_bel _ _ _) (by simp only [AV.closed]; exact tcl_closed _) ?_
    refine drawFrzN ?_
    refine optX_of (c := tcl t ++ tcl u) (by kernel_rfl) ?_
    repeat first | refine opsStep ?_ | refine codeStep ?_ | refine drawStep ?_
    refine ⟨by kernel_rfl, ?_⟩
    repeat first | refine opsStep ?_ | refine codeStep ?_ | refine drawStep ?_
    exact ⟨⟨((.mk 5 0 [] .any [t, u], s'), m), by omega, h1, by show 16 * s'.ws.length + 1 ≤ m; omega⟩, Nat.lt_succ_self m, Ent.frD (X := [.fro 0 [.str tMul], .fro 0 (tcl t ++ tcl u)]) ⟨(by kernel_rfl), (by kernel_rfl), (by kernel_rfl), trivial⟩ (Eq.trans (b := rdH e s' ++ [.cells 0 zT, .cells 0 [.int .i64 5, .int .i64 0, .str [], .sl .any 2 (tcl t ++ tcl u)], .fro 0 [.str tMul], .fro 0 (tcl t ++ tcl u)]) (by kernel_rfl) (congrArg (fun z => rdH e s' ++ [.cells 0 zT, .cells 0 z, .fro 0 [.str tMul], .fro 0 (tcl t ++ tcl u)]) (tcl_two 5 t u).symm)) (by show 1 ≤ 3; decide) (by simp [frBel, AV.bel, rdH]) (rdX_bel _ _ ⟨zT_bel _, tcl_bel _ _, trivial⟩)⟩
  · have hkt : kt = [] := Decidable.of_not_not hkt
    rw [if_neg (by simp [hkt])] at h1
    subst h1
    repeat first | refine opsStep ?_ | refine codeStep ?_ | refine drawStep ?_
    exact finC [.cells 0 (tcl t), .cells 0 (tcl t), .fro 0 [.str tMul]] (v' := .agg (tcl t)) (by kernel_rfl) rfl (by kernel_rfl)


def leafT (e : Nat × Nat) (s : Rs) : TT × Rs := if s.fl.why = 0 ∧ s.ws ≠ [] ∧ s.hd.kind = 0 then (.mk 1 0 (s.word e 0).1.text .nil [], (s.word e 0).2) else (.mk 0 (s.word e 1).1.num [] .nil [], (s.word e 1).2)
theorem w_factor (e : Nat × Nat) (n : Nat) (hT : ∀ r : Rs, 16 * r.ws.length + 3 ≤ n → TermC 48 e r (pT e n r)) (hF : ∀ r : Rs, 16 * r.ws.length + 1 ≤ n → TermC 103 e r (pFa e n r)) (r : Rs) (hn : 16 * r.ws.length + 1 ≤ n + 1) : TermC 103 e r (pFa e (n + 1) r) := by
  refine TermC.of ?_
  have hk := rd_take e r [tOpen, tSub] (by simp) (by simp [tOpen, tSub])
  have hlt := @take_lt r [tOpen, tSub] (by simp [tOpen, tSub])
  rw [pFa]
  generalize hfin : (if (r.take [tOpen, tSub]).1 = tOpen then _ else _ : TT × Rs) = fin
  generalize r.take [tOpen, tSub] = k at *
  rcases k with ⟨kt, ks⟩
  simp only at hk hlt hfin
  refine ACall.of_sw 49 Tryd.func103 rfl Tryd.ntmps103 (by kernel_rfl) (Nat.le_of_ble_eq_true (by kernel_rfl)) ?_; refine SW.of_vc ?_
  repeat refine codeStep ?_
  iterate 2 refine opsStep ?_
  repeat refine codeStep ?_
  iterate 1 refine opsStep ?_
  refine opsFrz ?_
  refine optX_of (c := [tOpen, tSub].map AV.str) (by kernel_rfl) ?_
  iterate 1 refine opsStep ?_
  refine callT (args := [.ref 0 0 0, aSs .any [tOpen, tSub]]) hk [.cells 0 zT, .fro 0 [.str tOpen, .str tSub]] rfl rfl (by simp [bels, AV.bel, aSs, rdH]) (rdH_bel _ _ _) (rdH_bel _ _ _) (by simp [AV.bel, bels]) ?_
  repeat first | refine opsStep ?_ | refine codeStep ?_ | refine drawStep ?_
  refine decB_dec (fun h1 => ?_) (fun h1 => ?_)
  · have h1 : kt = tOpen := h1
    rw [if_pos h1] at hfin
    have hlt := hlt (by rw [h1]; simp [tOpen])
    have hT := hT ks (by omega)
    generalize pT e n ks = y at *
    rcases y with ⟨t, s⟩
    simp only at hfin hT
    have hnd := rd_need e s tClose (by simp [tClose])
    repeat first | refine opsStep ?_ | refine codeStep ?_ | refine drawStep ?_
    refine callT (args := [.ref 0 0 0]) hT [.cells 0 zT, .fro 0 [.str tOpen, .str tSub]] rfl rfl (by simp [bels, AV.bel, rdH]) (rdH_bel _ _ _) (rdH_bel _ _ _) (by simp only [AV.bel]; exact tcl_bel _ _) ?_
    repeat first | refine opsStep ?_ | refine codeStep ?_ | refine drawStep ?_
    refine callT (args := [.ref 0 0 0, .str tClose]) hnd [.cells 0 zT, .fro 0 [.str tOpen, .str tSub], .cells 0 (tcl t)] rfl rfl (by simp [bels, AV.bel, rdH]) (rdH_bel _ _ _) (rdH_bel _ _ _) (by simp [AV.bel, bels]) ?_
    repeat first | refine opsStep ?_ | refine codeStep ?_ | refine drawStep ?_
    subst hfin
    exact finC [.cells 0 (tcl t), .fro 0 [.str tOpen, .str tSub], .cells 0 (tcl t)] (v' := .agg (tcl t)) (by kernel_rfl) rfl (by kernel_rfl)
  · have h1 : kt ≠ tOpen := h1
    rw [if_neg h1] at hfin
    repeat first | refine opsStep ?_ | refine codeStep ?_ | refine drawStep ?_
    refine decB_dec (fun h2 => ?_) (fun h2 => ?_)
    · have h2 : kt = tSub := h2
      rw [if_pos h2] at hfin
      have hlt := hlt (by rw [h2]; simp [tSub])
      have hF := hF ks (by omega)
      generalize pFa e n ks = y at *
      rcases y with ⟨t, s⟩
      simp only at hfin hF
      repeat refine codeStep ?_
      iterate 2 refine opsStep ?_
      refine callT (args := [.ref 0 0 0]) hF [.cells 0 zT, .fro 0 [.str tOpen, .str tSub]] rfl rfl (by simp [bels, AV.bel, rdH]) (rdH_bel _ _ _) (rdH_bel _ _ _) (by simp only [AV.bel]; exact tcl_bel _ _) ?_
      refine opsFrz ?_
      repeat first | refine opsStep ?_ | refine codeStep ?_ | refine drawStep ?_
      subst hfin
      exact finC [.cells 0 [.int .i64 2, .int .i64 0, .str [], .sl .any 1 (tcl t)], .fro 0 [.str tOpen, .str tSub], .fro 0 (tcl t)] (v' := .agg [.int .i64 2, .int .i64 0, .str [], .sl .any 1 (tcl t)]) (by kernel_rfl) (by rw [tcl_one]) (by kernel_rfl)
    · have h2 : kt ≠ tSub := h2
      rw [if_neg h2] at hfin
      have hfin : leafT e ks = fin := hfin
      unfold leafT at hfin
      have hbd := rd_bad e ks
      have hw1 := rd_word e ks 1
      have hw0 := rd_word e ks 0
      repeat first | refine opsStep ?_ | refine codeStep ?_ | refine drawStep ?_
      rcases ks with ⟨ws, fl⟩
      cases ws with
      | nil =>
        have hL := hfin.symm.trans (if_neg fun h => h.2.1 rfl)
        clear hfin
        refine callT (args := [.ref 0 0 0]) hbd [.cells 0 zT, .fro 0 [.str tOpen, .str tSub]] rfl rfl (by simp [bels, AV.bel, rdH]) (rdH_bel _ _ _) (rdH_bel _ _ _) (by simp [AV.bel, bels]) ?_
        repeat first | refine opsStep ?_ | refine codeStep ?_ | refine drawStep ?_
        refine decB_split (fun hb => ?_) (fun hb => ?_)
        · repeat first | refine opsStep ?_ | refine codeStep ?_ | refine drawStep ?_
          refine callT (args := [.ref 0 0 0, .int .i64 1]) hw1 [.cells 0 zT, .fro 0 [.str tOpen, .str tSub]] rfl rfl (by simp [bels, AV.bel, rdH]) (rdH_bel _ _ _) (rdH_bel _ _ _) (by simp only [AV.bel]; exact closeds_bel _ (wdC_closed _)) ?_
          generalize Rs.word e _ 1 = w at *
          repeat first | refine opsStep ?_ | refine codeStep ?_ | refine drawStep ?_
          exact finC [_, _] (v' := .agg (tcl (.mk 0 w.1.num [] .nil []))) (by kernel_rfl) (by rw [hL]) (by rw [hL]; try rfl)
        · repeat first | refine opsStep ?_ | refine codeStep ?_ | refine drawStep ?_
          refine callT (args := [.ref 0 0 0, .int .i64 1]) hw1 [.cells 0 zT, .fro 0 [.str tOpen, .str tSub]] rfl rfl (by simp [bels, AV.bel, rdH]) (rdH_bel _ _ _) (rdH_bel _ _ _) (by simp only [AV.bel]; exact closeds_bel _ (wdC_closed _)) ?_
          generalize Rs.word e _ 1 = w at *
          repeat first | refine opsStep ?_ | refine codeStep ?_ | refine drawStep ?_
          exact finC [_, _] (v' := .agg (tcl (.mk 0 w.1.num [] .nil []))) (by kernel_rfl) (by rw [hL]) (by rw [hL]; try rfl)
      | cons w l =>
        refine callT (args := [.ref 0 0 0]) hbd [.cells 0 zT, .fro 0 [.str tOpen, .str tSub]] rfl rfl (by simp [bels, AV.bel, rdH]) (rdH_bel _ _ _) (rdH_bel _ _ _) (by simp [AV.bel, bels]) ?_
        repeat first | refine opsStep ?_ | refine codeStep ?_ | refine drawStep ?_
        refine decB_split (fun hb => ?_) (fun hb => ?_)
        rotate_left
        · have hb : fl.why ≠ 0 := by simpa using hb
          have hL := hfin.symm.trans (if_neg fun h => hb h.1)
          clear hfin
          repeat first | refine opsStep ?_ | refine codeStep ?_ | refine drawStep ?_
          refine callT (args := [.ref 0 0 0, .int .i64 1]) hw1 [.cells 0 zT, .fro 0 [.str tOpen, .str tSub]] rfl rfl (by simp [bels, AV.bel, rdH]) (rdH_bel _ _ _) (rdH_bel _ _ _) (by simp only [AV.bel]; exact closeds_bel _ (wdC_closed _)) ?_
          generalize Rs.word e _ 1 = w at *
          repeat first | refine opsStep ?_ | refine codeStep ?_ | refine drawStep ?_
          exact finC [_, _] (v' := .agg (tcl (.mk 0 w.1.num [] .nil []))) (by kernel_rfl) (by rw [hL]) (by rw [hL]; try rfl)
        · have hb : fl.why = 0 := by simpa using hb
          repeat first | refine opsStep ?_ | refine codeStep ?_ | refine drawStep ?_
          refine decB_true (b := decide (((l.length + 1 : Nat) : Int) > 0)) (by simp) ?_
          repeat first | refine opsStep ?_ | refine codeStep ?_ | refine drawStep ?_
          refine guardE_of ⟨by decide, by show (0 : Int) < ((l.length + 1 : Nat) : Int); omega⟩ ?_
          repeat first | refine opsStep ?_ | refine codeStep ?_ | refine drawStep ?_
          refine decB_dec (fun hk0 => ?_) (fun hk0 => ?_)
          · have hL := hfin.symm.trans (if_pos ⟨hb, by simp, hk0⟩)
            clear hfin
            repeat first | refine opsStep ?_ | refine codeStep ?_ | refine drawStep ?_
            refine callT (args := [.ref 0 0 0, .int .i64 0]) hw0 [.cells 0 zT, .fro 0 [.str tOpen, .str tSub]] rfl rfl (by simp [bels, AV.bel, rdH]) (rdH_bel _ _ _) (rdH_bel _ _ _) (by simp only [AV.bel]; exact closeds_bel _ (wdC_closed _)) ?_
            generalize Rs.word e _ 0 = w at *
            repeat first | refine opsStep ?_ | refine codeStep ?_ | refine drawStep ?_
            exact finC [_, _] (v' := .agg (tcl (.mk 1 0 w.1.text .nil []))) (by kernel_rfl) (by rw [hL]) (by rw [hL]; try rfl)
          · have hL := hfin.symm.trans (if_neg fun h => hk0 h.2.2)
            clear hfin
            repeat first | refine opsStep ?_ | refine codeStep ?_ | refine drawStep ?_
            refine callT (args := [.ref 0 0 0, .int .i64 1]) hw1 [.cells 0 zT, .fro 0 [.str tOpen, .str tSub]] rfl rfl (by simp [bels, AV.bel, rdH]) (rdH_bel _ _ _) (rdH_bel _ _ _) (by simp only [AV.bel]; exact closeds_bel _ (wdC_closed _)) ?_
            generalize Rs.word e _ 1 = w at *
            repeat first | refine opsStep ?_ | refine codeStep ?_ | refine drawStep ?_
            exact finC [_, _] (v' := .agg (tcl (.mk 0 w.1.num [] .nil []))) (by kernel_rfl) (by rw [hL]) (by rw [hL]; try rfl)

theorem w_term (e : Nat × Nat) (n : Nat) (hP : ∀ r : Rs, 16 * r.ws.length + 2 ≤ n → TermC 74 e r (pP e n r)) (hPm : ∀ m, m < n → ∀ r : Rs, 16 * r.ws.length + 2 ≤ m → TermC 74 e r (pP e m r)) (r : Rs) (hn : 16 * r.ws.length + 3 ≤ n + 1) : TermC 48 e r (pT e (n + 1) r) := by
  refine TermC.of ?_
  rw [pT]
  have hf := hP r (by omega)
  have hle := (terms_le e n).2.2.1 r
  generalize pP e n r = x0 at *
  rcases x0 with ⟨t0, s0⟩
  simp only at hle hf ⊢
  have hn0 : 16 * s0.ws.length + 2 ≤ n := by omega
  clear hn hle
  generalize hfin : pTL e n (t0, s0) = fin at *
  refine ACall.of_sw 24 Tryd.func48 rfl Tryd.ntmps48 (by kernel_rfl) (Nat.le_of_ble_eq_true (by kernel_rfl)) ?_; refine SW.of_vc ?_
  repeat first | refine opsStep ?_ | refine codeStep ?_ | refine drawStep ?_
  refine callT (args := [.ref 0 0 0]) hf [.cells 0 zT] rfl rfl (by simp [bels, AV.bel, rdH]) (rdH_bel _ _ _) (rdH_bel _ _ _) (by simp only [AV.bel]; exact tcl_bel _ _) ?_
  repeat first | refine opsStep ?_ | refine codeStep ?_ | refine drawStep ?_
  refine loopE_of (ι := {x : (TT × Rs) × Nat // x.2 ≤ n ∧ pTL e x.2 x.1 = fin ∧ 16 * x.1.2.ws.length + 2 ≤ x.2}) (fun x => (fr [(0, .ref 0 0 0), (2, .ref 1 0 0), (3, .ref 2 0 0)], rdH e x.1.1.2 ++ [.cells 0 zT, .cells 0 (tcl x.1.1.1)])) (fun x => x.1.2)
    ⟨((t0, s0), n), Nat.le_refl _, hfin, hn0⟩ (Ent.fr' ⟨(by kernel_rfl), (by kernel_rfl), (by kernel_rfl), trivial⟩ (by kernel_rfl)) ?_
  rintro ⟨⟨⟨t, s⟩, m⟩, h0, h1, h2⟩
  simp only at h0 h1 h2
  obtain ⟨m, rfl⟩ : ∃ k, m = k + 1 := ⟨m - 1, by omega⟩
  have hk := rd_take e s [tAdd, tSub] (by simp) (by simp [tAdd, tSub])
  have hlt := @take_lt s [tAdd, tSub] (by simp [tAdd, tSub])
  rw [pTL] at h1
  simp only at h1
  generalize s.take [tAdd, tSub] = k at *
  rcases k with ⟨kt, ks⟩
  simp only at hk hlt h1
  repeat refine codeStep ?_
  iterate 1 refine opsStep ?_
  refine opsFrz ?_
  refine optX_of (c := [tAdd, tSub].map AV.str) (by kernel_rfl) ?_
  iterate 1 refine opsStep ?_
  refine callT (args := [.ref 0 0 0, aSs .any [tAdd, tSub]]) hk [.cells 0 zT, .cells 0 (tcl t), .fro 0 [.str tAdd, .str tSub]] rfl rfl (by simp [bels, AV.bel, aSs, rdH]) (rdH_bel _ _ _) (rdH_bel _ _ _) (by simp [AV.bel, bels]) ?_
  repeat first | refine opsStep ?_ | refine codeStep ?_ | refine drawStep ?_
  refine decB_dec (fun ha => ?_) (fun ha => ?_)
  · have ha : kt = tAdd := ha
    rw [if_pos ha] at h1
    have hlt := hlt (by rw [ha]; simp [tAdd])
    have hf := hPm m (by omega) ks (by omega)
    have hle := (terms_le e m).2.2.1 ks
    generalize pP e m ks = y at *
    rcases y with ⟨u, s'⟩
    simp only at hf hle h1
    repeat refine codeStep ?_
    refine SW.drawn rfl (by kernel_rfl) ?_
    iterate 2 refine drawStep ?_
    refine drawGot ?_
    refine gotCallW 0 hf rfl rfl (by kernel_rfl) (by kernel_rfl) (by kernel_rfl) (by simp [bels, AV.bel]) (rdC_bel _ _ _) (rdC_bel _ _ _) (by simp only [AV.closed]; exact tcl_closed _) ?_
    refine drawFrzN ?_
    refine optX_of (c := tcl t ++ tcl u) (by kernel_rfl) ?_
    repeat first | refine opsStep ?_ | refine codeStep ?_ | refine drawStep ?_
    refine ⟨by kernel_rfl, ?_⟩
    repeat first | refine opsStep ?_ | refine codeStep ?_ | refine drawStep ?_
    exact ⟨⟨((.mk 3 0 [] .any [t, u], s'), m), by omega, h1, by show 16 * s'.ws.length + 2 ≤ m; omega⟩, Nat.lt_succ_self m, Ent.frD (X := [.fro 0 [.str tAdd, .str tSub], .fro 0 (tcl t ++ tcl u)]) ⟨(by kernel_rfl), (by kernel_rfl), (by kernel_rfl), trivial⟩ (Eq.trans (b := rdH e s' ++ [.cells 0 zT, .cells 0 [.int .i64 3, .int .i64 0, .str [], .sl .any 2 (tcl t ++ tcl u)], .fro 0 [.str tAdd, .str tSub], .fro 0 (tcl t ++ tcl u)]) (by kernel_rfl) (congrArg (fun z => rdH e s' ++ [.cells 0 zT, .cells 0 z, .fro 0 [.str tAdd, .str tSub], .fro 0 (tcl t ++ tcl u)]) (tcl_two 3 t u).symm)) (by show 1 ≤ 3; decide) (by simp [frBel, AV.bel, rdH]) (rdX_bel _ _ ⟨zT_bel _, tcl_bel _ _, trivial⟩)⟩
  · have ha : kt ≠ tAdd := ha
    rw [if_neg ha] at h1
    repeat first | refine opsStep ?_ | refine codeStep ?_ | refine drawStep ?_
    refine decB_dec (fun hb => ?_) (fun hb => ?_)
    · have hb : kt = tSub := hb
      rw [if_pos hb] at h1
      have hlt := hlt (by rw [hb]; simp [tSub])
      have hf := hPm m (by omega) ks (by omega)
      have hle := (terms_le e m).2.2.1 ks
      generalize pP e m ks = y at *
      rcases y with ⟨u, s'⟩
      simp only at hf hle h1
      repeat refine codeStep ?_
      refine SW.drawn rfl (by kernel_rfl) ?_
      iterate 2 refine drawStep ?_
      refine drawGot ?_
      refine gotCallW 0 hf rfl rfl (by kernel_rfl) (by kernel_rfl) (by kernel_rfl) (by simp [bels, AV.bel]) (rdC_bel _ _ _) (rdC_bel _ _ _) (by simp only [AV.closed]; exact tcl_closed _) ?_
      refine drawFrzN ?_
      refine optX_of (c := tcl t ++ tcl u) (by kernel_rfl) ?_
      repeat first | refine opsStep ?_ | refine codeStep ?_ | refine drawStep ?_
      refine ⟨by kernel_rfl, ?_⟩
      repeat first | refine opsStep ?_ | refine codeStep ?_ | refine drawStep ?_
      exact ⟨⟨((.mk 4 0 [] .any [t, u], s'), m), by omega, h1, by show 16 * s'.ws.length + 2 ≤ m; omega⟩, Nat.lt_succ_self m, Ent.frD (X := [.fro 0 [.str tAdd, .str tSub], .fro 0 (tcl t ++ tcl u)]) ⟨(by kernel_rfl), (by kernel_rfl), (by kernel_rfl), trivial⟩ (Eq.trans (b := rdH e s' ++ [.cells 0 zT, .cells 0 [.int .i64 4, .int .i64 0, .str [], .sl .any 2 (tcl t ++ tcl u)], .fro 0 [.str tAdd, .str tSub], .fro 0 (tcl t ++ tcl u)]) (by kernel_rfl) (congrArg (fun z => rdH e s' ++ [.cells 0 zT, .cells 0 z, .fro 0 [.str tAdd, .str tSub], .fro 0 (tcl t ++ tcl u)]) (tcl_two 4 t u).symm)) (by show 1 ≤ 3; decide) (by simp [frBel, AV.bel, rdH]) (rdX_bel _ _ ⟨zT_bel _, tcl_bel _ _, trivial⟩)⟩
    · have hb : kt ≠ tSub := hb
      rw [if_neg hb] at h1
      subst h1
      repeat first | refine opsStep ?_ | refine codeStep ?_ | refine drawStep ?_
      exact finC [.cells 0 (tcl t), .cells 0 (tcl t), .fro 0 [.str tAdd, .str tSub]] (v' := .agg (tcl t)) (by kernel_rfl) rfl (by kernel_rfl)

theorem w_terms (e : Nat × Nat) : ∀ n, (∀ r : Rs, 16 * r.ws.length + 3 ≤ n → TermC 48 e r (pT e n r)) ∧ (∀ r : Rs, 16 * r.ws.length + 2 ≤ n → TermC 74 e r (pP e n r)) ∧ (∀ r : Rs, 16 * r.ws.length + 1 ≤ n → TermC 103 e r (pFa e n r)) := by
  intro n
  induction n using Nat.strongRecOn with
  | _ n ih =>
    cases n with
    | zero => exact ⟨fun r h => by omega, fun r h => by omega, fun r h => by omega⟩
    | succ n =>
      exact ⟨w_term e n (ih n (by omega)).2.1 (fun m hm => (ih m (by omega)).2.1), w_product e n (ih n (by omega)).2.2 (fun m hm => (ih m (by omega)).2.2), w_factor e n (ih n (by omega)).1 (ih n (by omega)).2.2⟩

end Tab

/- The reader of formulas. -/
namespace Tab
open Go Go.Proofs
set_option maxRecDepth 10000
set_option linter.unusedVariables false
set_option linter.unusedSimpArgs false
set_option linter.unusedSectionVars false
set_option maxHeartbeats 1000000

def fcl (f : FT) : List AV := [.int .i64 f.op, .str f.name, .int .i64 f.md, .sl f.tk f.terms.length (ttsC f.terms), .sl f.ak f.args.length (ftsC f.args)]
theorem fcl_closed (t : FT) : closeds (fcl t) := by have := FT.cells_closed t; rwa [FT.cells_eq] at this
theorem fcl_bel (n : Nat) (t : FT) : bels n (fcl t) := closeds_bel _ (fcl_closed t)
theorem fcl_atom (op md : Int) (a b : TT) : fcl (.mk op [] md .any [a, b] .nil []) = [.int .i64 op, .str [], .int .i64 md, .sl .any 2 (tcl a ++ tcl b), .sl .nil 0 []] := by
  simp only [fcl, tcl, FT.op, FT.name, FT.md, FT.tk, FT.ak, FT.terms, FT.args, ttsC, ftsC, TT.cells_eq, List.append_nil]; rfl
def FormC (f : FuncId) (xs : List AV) (e : Nat × Nat) (r : Rs) (x : FT × Rs) : Prop := ACall Tryd.prog f (.ref 0 0 0 :: xs) (rdH e r) fun o H' => o = .ret (.agg (fcl x.1)) ∧ H' = rdH e x.2
theorem FormC.of {f : FuncId} {xs : List AV} {e : Nat × Nat} {r : Rs} {x : FT × Rs} (h : ACall Tryd.prog f (.ref 0 0 0 :: xs) (rdH e r) fun o H' => ∃ X, o = .ret (.agg (fcl x.1)) ∧ H' = rdH e x.2 ++ X) : FormC f xs e r x :=
  ACall.drop h (Nat.le_refl 1) (by simp only [AV.bel]; exact fcl_bel _ _) (rdH_bel _ _ _)
end Tab

/- The reader of formulas: atoms, and all of it. -/
namespace Tab
open Go Go.Proofs
set_option maxRecDepth 10000
set_option linter.unusedVariables false
set_option linter.unusedSimpArgs false
set_option linter.unusedSectionVars false
set_option maxHeartbeats 1000000

end Tab

/- Words, places and faults are held against each other. -/
namespace Tab
open Go Go.Proofs
set_option maxRecDepth 10000
set_option linter.unusedVariables false
set_option linter.unusedSimpArgs false
set_option linter.unusedSectionVars false

def okJ (x : Int) : Prop := -9223372036854775808 ≤ x ∧ x ≤ 9223372036854775807
instance (x : Int) : Decidable (okJ x) := inferInstanceAs (Decidable (_ ∧ _))
theorem wfJ {x : Int} (h : okJ x) : (Lit.int .i64 x).wf = true := by
  obtain ⟨h1, h2⟩ := h
  simp only [Lit.wf, Bool.and_eq_true, decide_eq_true_eq, show IntKind.i64.min = -9223372036854775808 from rfl, show IntKind.i64.max = 9223372036854775807 from rfl]
  omega
theorem litI {t : TypeId} (hu : Tryd.prog.underlying t = some (.int .i64)) (n : Nat) {x : Int} (h : okJ x) : Tryd.prog.keyLits (n + 1) t [.int .i64 x] = some [.int .i64 x] := by
  unfold Program.keyLits
  rw [hu]
  exact if_pos ⟨rfl, wfJ h⟩
theorem placeT : Tryd.prog.underlying 42 = some (.struct #[{ name := "Byte", type := 3, offset := 0, embedded := false, tag := "", pkgPath := "", byteOffset := 0 }, { name := "Char", type := 3, offset := 1, embedded := false, tag := "", pkgPath := "", byteOffset := 8 }]) := (by kernel_rfl)
theorem litP (n : Nat) {a b : Int} (ha : okJ a) (hb : okJ b) : Tryd.prog.keyLits (n + 2) 42 [.int .i64 a, .int .i64 b] = some [.int .i64 a, .int .i64 b] := by
  have hc1 : Tryd.prog.cellsOf 3 = 1 := (by kernel_rfl)
  have hcP : Tryd.prog.cellsOf 42 = 2 := (by kernel_rfl)
  unfold Program.keyLits
  rw [placeT]
  simp only
  rw [if_pos ⟨by rw [hcP]; rfl, (by kernel_rfl)⟩]
  simp [hc1, litI (t := 3) (by kernel_rfl) n ha, litI (t := 3) (by kernel_rfl) n hb]
theorem faultT : Tryd.prog.underlying 44 = some (.struct #[{ name := "Why", type := 27, offset := 0, embedded := false, tag := "", pkgPath := "", byteOffset := 0 }, { name := "At", type := 42, offset := 1, embedded := false, tag := "", pkgPath := "", byteOffset := 8 }]) := (by kernel_rfl)
theorem litF (n : Nat) {w a b : Int} (hw : okJ w) (ha : okJ a) (hb : okJ b) : Tryd.prog.keyLits (n + 3) 44 [.int .i64 w, .int .i64 a, .int .i64 b] = some [.int .i64 w, .int .i64 a, .int .i64 b] := by
  have hc1 : Tryd.prog.cellsOf 27 = 1 := (by kernel_rfl)
  have hc2 : Tryd.prog.cellsOf 42 = 2 := (by kernel_rfl)
  have hcP : Tryd.prog.cellsOf 44 = 3 := (by kernel_rfl)
  unfold Program.keyLits
  rw [faultT]
  simp only
  rw [if_pos ⟨by rw [hcP]; rfl, (by kernel_rfl)⟩]
  simp [hc1, hc2, litI (t := 27) (by kernel_rfl) (n + 1) hw, litP n ha hb]
theorem eqlF {w a b w' c d : Int} (h0 : okJ w) (h1 : okJ a) (h2 : okJ b) (h0' : okJ w') (h3 : okJ c) (h4 : okJ d) : EqlE Tryd.prog 44 [.int .i64 w, .int .i64 a, .int .i64 b] [.int .i64 w', .int .i64 c, .int .i64 d] (decide (w = w' ∧ a = c ∧ b = d)) := by
  have hc : Tryd.prog.cellsOf 44 = 3 := (by kernel_rfl)
  have hf : ∀ z x y : Int, Value.formed Tryd.prog 44 (.agg #[.int .i64 z, .int .i64 x, .int .i64 y]) = true := fun z x y => by simp only [Value.formed, faultT, hc]; rfl
  refine .mk (xs := [.int .i64 w, .int .i64 a, .int .i64 b]) (ys := [.int .i64 w', .int .i64 c, .int .i64 d]) (la := [.int .i64 w, .int .i64 a, .int .i64 b]) (lb := [.int .i64 w', .int .i64 c, .int .i64 d]) (D := 0 + 3) (D' := 0 + 3) (m := 3) ?_ rfl rfl (litF 0 h0 h1 h2) (litF 0 h0' h3 h4) (by kernel_rfl) (by decide) (hf w a b) (hf w' c d) (by kernel_rfl)
  rw [decide_eq_true_eq]
  simp
structure okW (w : Wd) : Prop where
  kind : okJ w.kind
  text : w.text.length ≤ maxLen
  num : okJ w.num
  at' : okJ w.at'
  ch : okJ w.ch
end Tab

/- What the document fixes; two lists of words held against each other. -/
namespace Tab
open Go Go.Proofs
set_option maxRecDepth 10000
set_option linter.unusedVariables false
set_option linter.unusedSimpArgs false
set_option linter.unusedSectionVars false
set_option maxHeartbeats 1000000

end Tab

/- What is known of a text's words, plain. -/
namespace Tab
open Go
set_option maxRecDepth 10000
set_option linter.unusedVariables false
set_option linter.unusedSimpArgs false
set_option linter.unusedSectionVars false

theorem plain_len : (plainT.all fun p => decide (p.2.length ≤ 3)) = true := by kernel_rfl
theorem tok_ok (x : Str) : ((tokS x).kind = 0 ∨ (tokS x).kind = 1 ∨ (tokS x).kind = 2) ∧ (tokS x).text.length ≤ x.length + 3 ∧ (tokS x).num ≤ 9223372036854775807 ∧ 0 ≤ (tokS x).err ∧ (tokS x).err ≤ 52 := by
  by_cases h1 : (dec x 0).1 = 65533 ∧ (dec x 0).2 ≤ 1
  · rw [tokS, if_pos h1]; simp [tokBad]
  by_cases h2 : startR (dec x 0).1 = true
  · rw [tokS, if_neg h1, if_pos h2, nameT]
    have : (x.take (runS restR x)).length ≤ x.length := by rw [List.length_take]; omega
    split
    · exact ⟨by simp, by simp only; omega, by simp, by simp, by simp⟩
    · split
      · exact ⟨by simp, by simp, by simp, by simp, by simp⟩
      · exact ⟨by simp, by simp only; omega, by simp, by simp, by simp⟩
  by_cases h3 : digR (dec x 0).1 = true
  · rw [tokS, if_neg h1, if_neg h2, if_pos h3]
    cases e : numS (x.take (runS digR x)) with
    | none => simp [tokBad]
    | some v =>
      have hv : v ≤ 9223372036854775807 := numL_le _ 0 v (by omega) (fun c hc => by
        have := run_chars digR (fun r hr => by simp [digR] at hr; omega) _ x rfl c hc
        simp [digR] at this; omega) e
      exact ⟨by simp, by simp, hv, by simp, by simp⟩
  by_cases h4 : plainS (dec x 0).1 ≠ []
  · rw [tokS, if_neg h1, if_neg h2, if_neg h3, if_pos h4]
    obtain ⟨p, hp, he⟩ := List.mem_map.1 (plain_mem h4)
    have := List.all_eq_true.1 plain_len p hp
    rw [decide_eq_true_eq, he] at this
    exact ⟨by simp, by simp only; omega, by simp, by simp, by simp⟩
  rw [tokS, if_neg h1, if_neg h2, if_neg h3, if_neg h4, signT]
  split
  · rename_i t e
    have := sign_len t (List.mem_of_find?_eq_some e)
    exact ⟨by simp, by simp only; omega, by simp, by simp, by simp⟩
  · simp [tokBad]

structure WdOk (n : Nat) (w : Wd) : Prop where
  kind : w.kind = 0 ∨ w.kind = 1 ∨ w.kind = 2
  text : w.text.length ≤ n + 3
  num : w.num ≤ 9223372036854775807
theorem WdOk.up {n m : Nat} {w : Wd} (h : WdOk n w) (hm : n ≤ m) : WdOk m w := ⟨h.kind, by have := h.text; omega, h.num⟩
theorem lexW_ok : ∀ (n : Nat) (x : Str), x.length = n → ∀ (a ch : Nat), (∀ w ∈ (lexW x a ch).1, WdOk x.length w) ∧ (lexW x a ch).1.length ≤ x.length ∧ ((lexW x a ch).2.why = 0 → (lexW x a ch).2 = flt0) ∧ 0 ≤ (lexW x a ch).2.why ∧ (lexW x a ch).2.why ≤ 52 := by
  intro n
  induction n using Nat.strongRecOn with
  | _ n ih =>
    intro x hn a ch
    rcases part_of x with h | h
    · rw [lexW_nil h]; simp [flt0]
    · obtain ⟨l1, l2⟩ := h.lt
      have hx1 := h.some
      have hbl : (x.drop (runS blankR x)).length ≤ x.length := by rw [List.length_drop]; omega
      generalize hbe : runS blankR x = b at *
      generalize hxe : x.drop b = x1 at *
      have hok := tok_ok x1
      generalize hte : tokS x1 = t at *
      obtain ⟨o1, o2, o3, o4, o5⟩ := hok
      by_cases he : t.err = 0
      · obtain ⟨n1, n2, n3, _⟩ := h.tokN he
        rw [lexW_tok h he]
        obtain ⟨i1, i2, i3, i4, i5⟩ := ih _ (by rw [List.length_drop]; omega) (x1.drop t.n) rfl (a + b + t.n) (ch + chS (x.take b) + chS (x1.take t.n))
        have hdl : (x1.drop t.n).length ≤ x.length - 1 := by rw [List.length_drop]; omega
        refine ⟨fun w hw => ?_, by simp only [List.length_cons]; omega, i3, i4, i5⟩
        rcases List.mem_cons.1 hw with rfl | hw
        · exact ⟨o1, by simp only; omega, o3⟩
        · exact (i1 w hw).up (by omega)
      · rw [lexW_bad h he]
        exact ⟨by simp, by simp, fun h0 => absurd h0 he, o4, o5⟩

structure LexOk (s : Str) (W : List Wd) (F : Flt) : Prop where
  zero : F.why = 0 → F = flt0
  none : F.why ≠ 0 → W = []
  why : okJ F.why
  at' : F.at' ≤ s.length ∧ F.at' ≤ 4096
  ch : F.ch ≤ 4096
  cnt : W.length ≤ 4096
  wd : ∀ w ∈ W, okW w ∧ WdOk 4096 w ∧ w.at' < s.length
theorem chS_take_le {s : Str} {k : Nat} : chS (s.take k) ≤ k := by
  have := chS_le _ (s.take k) rfl
  rw [List.length_take] at this
  omega
theorem lexS_ok (s : Str) : LexOk s (lexS s).1 (lexS s).2 := by
  rw [lexS_eq]
  by_cases hl : 4096 < s.length
  · rw [if_pos hl]
    exact ⟨by simp, by simp, by simp only; decide, by simp, by simp, by simp, by simp⟩
  rw [if_neg hl]
  obtain ⟨i1, i2, i3, i4, i5⟩ := lexW_ok _ s rfl 0 0
  have hpl := (lex_places _ s rfl 0 0).1
  have hcut := lex_cut _ s rfl 0 0
  generalize lexW s 0 0 = r at *
  rw [finL]
  by_cases hw : r.2.why ≠ 0
  · rw [if_pos hw]
    obtain ⟨k, k1, _, k3, k4, _⟩ := hcut hw
    have := chS_take_le (s := s) (k := k)
    exact ⟨i3, by simp, ⟨by simp only; omega, by simp only; omega⟩, ⟨by simp only; omega, by simp only; omega⟩, by simp only; omega, by simp, by simp⟩
  · rw [if_neg hw]
    have hz := i3 (Decidable.of_not_not hw)
    refine ⟨i3, fun h => absurd h hw, ⟨by omega, by omega⟩, by rw [hz]; simp [flt0], by rw [hz]; simp [flt0], by omega, fun w hm => ?_⟩
    obtain ⟨k, k1, _, k3, k4, _⟩ := hpl w hm
    have := chS_take_le (s := s) (k := k)
    have ho := i1 w hm
    refine ⟨⟨?_, ?_, ?_, ?_, ?_⟩, ho.up (by omega), by omega⟩
    · rcases ho.kind with e | e | e <;> rw [e] <;> decide
    · have := ho.text; have : s.length ≤ 4096 := by omega
      exact Nat.le_trans (by omega : w.text.length ≤ 4099) (by decide)
    · have := ho.num; exact ⟨by omega, by omega⟩
    · exact ⟨by omega, by omega⟩
    · exact ⟨by omega, by omega⟩

end Tab

/- The reader, plain: its trees can be handed on, and are right where there is no fault. -/
namespace Tab
open Go
set_option maxRecDepth 10000
set_option linter.unusedVariables false
set_option linter.unusedSimpArgs false
set_option linter.unusedSectionVars false

def WsOk (r : Rs) : Prop := ∀ w ∈ r.ws, w.text.length ≤ 4099 ∧ w.num ≤ 9223372036854775807
theorem hd_mem {r : Rs} (h : r.ws ≠ []) : r.hd ∈ r.ws := by
  cases hw : r.ws with
  | nil => exact absurd hw h
  | cons w l => rw [Rs.hd, hw]; simp
theorem mono_ws (e : Nat × Nat) (p : Wd → Prop) : Mono e (fun r => ∀ w ∈ r.ws, p w) where
  take r L h := by
    unfold Rs.take
    split
    · exact fun w hw => h w (List.mem_of_mem_tail hw)
    · exact h
  wrong r y _ h := by rw [wrong_ws]; exact h
  word r k h := by
    unfold Rs.word
    split
    · rw [wrong_ws]; exact h
    · exact fun w hw => h w (List.mem_of_mem_tail hw)
theorem word_of (e : Nat × Nat) (r : Rs) (k : Int) : ((r.word e k).1 = wd0 ∧ (r.word e k).2 = r.wrong e 71) ∨ (r.fl.why = 0 ∧ (r.word e k).1 ∈ r.ws ∧ (r.word e k).1.kind = k) := by
  unfold Rs.word
  split
  · exact .inl ⟨rfl, rfl⟩
  · rename_i h
    have h1 : ¬ r.fl.why ≠ 0 := fun k => h (.inl k)
    have h2 : ¬ r.ws = [] := fun k => h (.inr (.inl k))
    have h3 : ¬ r.hd.kind ≠ k := fun k => h (.inr (.inr k))
    exact .inr ⟨Decidable.of_not_not h1, hd_mem h2, Decidable.of_not_not h3⟩
theorem word_ok (e : Nat × Nat) (r : Rs) (k : Int) (h : WsOk r) : (r.word e k).1.text.length ≤ 4099 ∧ (r.word e k).1.num ≤ 9223372036854775807 := by
  rcases word_of e r k with h1 | h1
  · rw [h1.1]; exact ⟨by decide, by decide⟩
  · exact h _ h1.2.1
theorem tt_ok_nil {op num : Int} {s : Str} (h1 : 0 ≤ op ∧ op ≤ 15) (h2 : okI6 num) (h3 : s.length ≤ 4099) : (TT.mk op num s .nil []).ok := by
  rw [TT.ok]; exact ⟨⟨by omega, by omega⟩, h2, by omega, by simp, by rw [ttsOk]; trivial⟩
theorem tt_ok_two {op : Int} {a b : TT} (h1 : 0 ≤ op ∧ op ≤ 15) (ha : a.ok) (hb : b.ok) : (TT.mk op 0 [] .any [a, b]).ok := by
  rw [TT.ok]; exact ⟨⟨by omega, by omega⟩, ⟨by decide, by decide⟩, by simp, by simp, by rw [ttsOk_iff]; intro t ht; simp at ht; rcases ht with rfl | rfl <;> assumption⟩
theorem tt_ok_one {op : Int} {a : TT} (h1 : 0 ≤ op ∧ op ≤ 15) (ha : a.ok) : (TT.mk op 0 [] .any [a]).ok := by
  rw [TT.ok]; exact ⟨⟨by omega, by omega⟩, ⟨by decide, by decide⟩, by simp, by simp, by rw [ttsOk_iff]; intro t ht; simp at ht; subst ht; exact ha⟩
theorem ft_ok_args {op md : Int} {s : Str} {l : List FT} {ts : List TT} {tk ak : SK} (h1 : 0 ≤ op ∧ op ≤ 15) (h2 : okI6 md) (h3 : s.length ≤ 4099) (hl : l.length ≤ 2) (ht : ts.length ≤ 2) (ha : ∀ a ∈ l, a.ok) (hb : ∀ a ∈ ts, a.ok) : (FT.mk op s md tk ts ak l).ok := by
  rw [FT.ok]; exact ⟨⟨by omega, by omega⟩, by omega, h2, by omega, ttsOk_iff.2 hb, by omega, ftsOk_iff.2 ha⟩
theorem made_ok (e : Nat × Nat) : Made e WsOk (fun _ => False) TT.ok FT.ok where
  keep := mono_ws e _
  bad := ⟨fun _ _ h => h, fun _ _ _ h => h, fun _ _ h => h⟩
  zero := tt_ok_nil (by decide) ⟨by decide, by decide⟩ (by simp)
  leaf r h := by
    refine .inr ?_
    unfold leafP
    split
    · exact tt_ok_nil (by decide) ⟨by decide, by decide⟩ (word_ok e r 0 h).1
    · have := (word_ok e r 1 h).2
      exact tt_ok_nil (by decide) ⟨by omega, by omega⟩ (by simp)
  neg a h := tt_ok_one (by decide) h
  two op a b h1 h2 ha hb := tt_ok_two (by omega) ha hb
  nil op h1 h2 := ft_ok_args (by omega) ⟨by decide, by decide⟩ (by simp) (by simp) (by simp) (by simp) (by simp)
  not a h := ft_ok_args (by decide) ⟨by decide, by decide⟩ (by simp) (by simp) (by simp) (by simpa using h) (by simp)
  pair op a b h1 h2 ha hb := ft_ok_args (by omega) ⟨by decide, by decide⟩ (by simp) (by simp) (by simp) (by simp; exact ⟨ha, hb⟩) (by simp)
  quant op r ho h := .inr fun a ha => ft_ok_args (by omega) ⟨by decide, by decide⟩ (word_ok e r 0 h).1 (by simp) (by simp) (by simpa using ha) (by simp)
  rel op a b h1 h2 ha hb := ft_ok_args (by omega) ⟨by decide, by decide⟩ (by simp) (by simp) (by simp) (by simp) (by simp; exact ⟨ha, hb⟩)
  cong r a b h ha hb := by
    refine .inr (ft_ok_args (by decide) ?_ (by simp) (by simp) (by simp) (by simp) (by simp; exact ⟨ha, hb⟩))
    have hn := mono_need (mono_ws e _) r fMod h
    unfold modS
    try simp only
    split
    · have := (word_ok e _ 1 ((mono_ws e _).wrong _ 92 (by simp) hn)).2
      exact ⟨by omega, by omega⟩
    · have := (word_ok e _ 1 hn).2
      exact ⟨by omega, by omega⟩

theorem ws_ok (s : Str) : WsOk (rs0 s) := fun w hw => by
  have h := (lexS_ok s).wd w hw
  exact ⟨by have := h.2.1.text; omega, h.2.1.num⟩
theorem readT_ok (s : Str) : (readT s).1.ok := ((made_terms (made_ok (endS s)) _).1 (rs0 s) (ws_ok s)).2.elim (fun h => h.elim) id

end Tab

/- The reader of formulas and terms, all of it. -/
namespace Tab
open Go Go.Proofs
set_option maxRecDepth 10000
set_option linter.unusedVariables false
set_option linter.unusedSimpArgs false
set_option linter.unusedSectionVars false
set_option maxHeartbeats 1000000

theorem rd_done (e : Nat × Nat) (r : Rs) : ACall Tryd.prog 41 [.ref 0 0 0] (rdH e r) fun o H' => o = .ret (.tup []) ∧ H' = rdH e (r.done e) := by
  have hw := rd_wrong e r 71
  unfold Rs.done
  rcases r with ⟨ws, fl⟩
  cases ws with
  | nil =>
    refine ACall.of_sw 10 Tryd.func41 rfl Tryd.ntmps41 (by kernel_rfl) (Nat.le_of_ble_eq_true (by kernel_rfl)) ?_; refine SW.of_vc ?_
    repeat first | refine opsStep ?_ | refine codeStep ?_ | refine drawStep ?_
    exact finR (l := []) (v := .tup []) (H₁ := rdH e ⟨[], fl⟩) trivial (by kernel_rfl) (Ent.refl _ _ _) (by kernel_rfl) ⟨rfl, rfl⟩
  | cons w l =>
    refine ACall.of_sw 10 Tryd.func41 rfl Tryd.ntmps41 (by kernel_rfl) (Nat.le_of_ble_eq_true (by kernel_rfl)) ?_; refine SW.of_vc ?_
    repeat first | refine opsStep ?_ | refine codeStep ?_ | refine drawStep ?_
    refine decB_true (b := decide (((l.length + 1 : Nat) : Int) > 0)) (by simp) ?_
    repeat first | refine opsStep ?_ | refine codeStep ?_ | refine drawStep ?_
    refine callT (args := [.ref 0 0 0, .int .i64 71]) hw [] rfl rfl (by simp [bels, AV.bel, rdH]) (rdH_bel _ _ _) (rdH_bel _ _ _) (by simp [AV.bel, bels]) ?_
    repeat first | refine opsStep ?_ | refine codeStep ?_ | refine drawStep ?_
    exact finR (l := []) (v := .tup []) (H₁ := rdH e (Rs.wrong e ⟨w :: l, fl⟩ 71)) trivial (by kernel_rfl) (Ent.refl _ _ _) (by kernel_rfl) ⟨rfl, rfl⟩

theorem p_open (s : Str) (hl : s.length < 2^62) : ACall Tryd.prog 39 [.str s] [] fun o H' => o = .ret (.ref 0 0 0) ∧ H' = rdH (endS s) (rs0 s) := by
  have hlx := lex_Words s hl
  have hrc := runeCount s hl
  have hE : rdH (endS s) (rs0 s) = [.cells 0 [aWs .any (lexS s).1, .int .i64 s.length, .int .i64 (chS s), .int .i64 (lexS s).2.why, .int .i64 (lexS s).2.at', .int .i64 (lexS s).2.ch]] := rfl
  rw [hE]
  generalize lexS s = x at *
  rcases x with ⟨W, F⟩
  simp only at hlx ⊢
  refine ACall.of_sw 19 Tryd.func39 rfl Tryd.ntmps39 (by kernel_rfl) (Nat.le_of_ble_eq_true (by kernel_rfl)) ?_; refine SW.of_vc ?_
  repeat first | refine opsStep ?_ | refine codeStep ?_ | refine drawStep ?_
  refine callP hlx ?_
  repeat first | refine opsStep ?_ | refine codeStep ?_ | refine drawStep ?_
  refine SW.drawn rfl (by kernel_rfl) ?_
  iterate 5 refine drawStep ?_
  refine .inl ⟨_, _, [], hrc, RdsN_refl _, .inr rfl, none_need, ?_⟩
  repeat first | refine opsStep ?_ | refine codeStep ?_ | refine drawStep ?_
  refine ⟨by kernel_rfl, ?_⟩
  repeat first | refine opsStep ?_ | refine codeStep ?_ | refine drawStep ?_
  refine ⟨fr [(2, .ref 0 0 0)], _, .ref 0 0 0, Ent.pick [1] (by decide) (by intro b hb; simp at hb; subst hb; show 1 < 2; decide) (fun b hb => absurd hb (Nat.not_lt_zero _)) _ _ rfl (frOk_rn ⟨(by kernel_rfl), trivial⟩) ?_ (by simp [frBel, AV.bel]) ?_, (by kernel_rfl), rfl, rfl⟩
  · intro i x b hi hb
    match i, hb with
    | 0, hb =>
      simp at hi hb
      subst hi hb
      have hc : closeds [aWs .any W, .int .i64 s.length, .int .i64 (chS s), .int .i64 F.why, .int .i64 F.at', .int .i64 F.ch] := by simp only [closeds, AV.closed]; exact ⟨aWs_closed _ _, trivial, trivial, trivial, trivial, trivial, trivial⟩
      show some (Blk.cells 0 [aWs .any W, .int .i64 s.length, .int .i64 (chS s), .int .i64 F.why, .int .i64 F.at', .int .i64 F.ch]) = some (Blk.cells 0 (rns _ _))
      rw [closeds_rn _ hc]
    | i + 1, hb => simp at hb
  · have hc : closeds [aWs .any W, .int .i64 s.length, .int .i64 (chS s), .int .i64 F.why, .int .i64 F.at', .int .i64 F.ch] := by simp only [closeds, AV.closed]; exact ⟨aWs_closed _ _, trivial, trivial, trivial, trivial, trivial, trivial⟩
    exact ⟨closeds_bel _ hc, trivial⟩


theorem rdC_closed (e : Nat × Nat) (r : Rs) : closeds (rdC e r) := by simp only [rdC, closeds, AV.closed]; exact ⟨aWs_closed _ _, trivial, trivial, trivial, trivial, trivial, trivial⟩
def zL : List AV := [.int .i64 0, .int .i64 0, .int .i64 0]
def setW (r : Rs) (y : Int) : Rs := ⟨r.ws, ⟨y, r.fl.at', r.fl.ch⟩⟩
theorem parse_Term (s : Str) (hl : s.length < 2^62) : Pure Tryd.prog 27 [.str s] (.tup [.agg (tcl (parT s).1), .agg (fltC (parT s).2)]) := by
  have hop := p_open s hl
  have hrf := (w_terms (endS s) _).1 (rs0 s) (by show 16 * (rs0 s).ws.length + 3 ≤ 16 * (rs0 s).ws.length + 16; omega)
  have hok := readT_ok s
  have hchk := tree_CheckTerm (readT s).1 hok
  rw [TT.cells_eq] at hchk
  change Pure Tryd.prog 35 [.agg (tcl (readT s).1)] _ at hchk
  change TermC 48 (endS s) (rs0 s) (readT s) at hrf
  have hdn := rd_done (endS s) (readT s).2
  have hE : parT s = if ((readT s).2.done (endS s)).fl.why ≠ 0 then ((.mk 0 0 [] .nil [] : TT), ((readT s).2.done (endS s)).fl) else if chkT (readT s).1 ≠ 0 then ((.mk 0 0 [] .nil [] : TT), ⟨chkT (readT s).1, ((readT s).2.done (endS s)).fl.at', ((readT s).2.done (endS s)).fl.ch⟩) else ((readT s).1, ⟨0, ((readT s).2.done (endS s)).fl.at', ((readT s).2.done (endS s)).fl.ch⟩) := rfl
  generalize parT s = res at *
  generalize readT s = x at *
  rcases x with ⟨f, r⟩
  simp only at hrf hchk hdn hE
  generalize r.done (endS s) = r1 at *
  generalize chkT f = c at *
  clear hok
  refine Pure.of_sw 33 Tryd.func27 rfl Tryd.ntmps27 (by kernel_rfl) (Nat.le_of_ble_eq_true (by kernel_rfl)) (by simp only [closeds, AV.closed]; exact ⟨trivial, trivial⟩) (by simp only [AV.closed, closeds]; exact ⟨tcl_closed _, fltC_closed _, trivial⟩) ?_
  refine SW.of_vc ?_
  repeat first | refine opsStep ?_ | refine codeStep ?_ | refine drawStep ?_
  refine callS (args := [.str s]) (by simp [closeds, AV.closed]) hop (fun X h => by simp at h) (fun v X h => ?_)
  obtain ⟨h1, rfl⟩ := h
  cases h1
  iterate 2 refine opsStep ?_
  refine VCode.ent (Ent.fr' (l := [(2, .ref 0 0 0), (3, .ref 1 0 0), (4, .ref 2 0 0)]) (H' := [.cells 0 zT, .cells 0 zL, .cells 0 (rdC (endS s) (rs0 s))]) ⟨(by kernel_rfl), (by kernel_rfl), (by kernel_rfl), trivial⟩ (Eq.trans (b := [.cells 0 zT, .cells 0 zL, .cells 0 (shs 2 (rdC (endS s) (rs0 s)))]) (by kernel_rfl) (by rw [closeds_sh _ (rdC_closed _ _)]))) ?_
  refine VCode.ent (Ent.pick [2, 0, 1] (by decide) (by intro b hb; simp at hb; show b < 3; omega) (fun b hb => absurd hb (Nat.not_lt_zero _)) [(2, .ref 1 0 0), (3, .ref 2 0 0), (4, .ref 0 0 0)] (rdH (endS s) (rs0 s) ++ [.cells 0 zT, .cells 0 zL]) rfl (frOk_rn ⟨(by kernel_rfl), (by kernel_rfl), (by kernel_rfl), trivial⟩) ?_ (by simp [frBel, AV.bel]) (rdX_bel (X := [.cells 0 zT, .cells 0 zL]) _ _ ⟨zT_bel _, by simp [Blk.bel, zL, bels, AV.bel], trivial⟩)) ?_
  · intro zT_bel x b hi hb
    match zT_bel, hb with
    | 0, hb =>
      simp at hb
      subst hb
      have hi : Blk.cells 0 (rdC (endS s) (rs0 s)) = x := Option.some.inj hi
      subst hi
      show some (Blk.cells 0 (rdC (endS s) (rs0 s))) = some (Blk.cells 0 (rns _ _))
      rw [closeds_rn _ (rdC_closed _ _)]
    | 1, hb => simp at hb; subst hb; have hi := Option.some.inj hi; subst hi; exact rfl
    | 2, hb => simp at hb; subst hb; have hi := Option.some.inj hi; subst hi; exact rfl
    | zT_bel + 3, hb => simp at hb
  repeat first | refine opsStep ?_ | refine codeStep ?_ | refine drawStep ?_
  refine callT (args := [.ref 0 0 0]) hrf [.cells 0 zT, .cells 0 zL] rfl rfl (by simp [bels, AV.bel, rdH]) (rdH_bel _ _ _) (rdH_bel _ _ _) (by simp only [AV.bel]; exact tcl_bel _ _) ?_
  repeat first | refine opsStep ?_ | refine codeStep ?_ | refine drawStep ?_
  refine callT (args := [.ref 0 0 0]) hdn [.cells 0 zT, .cells 0 zL, .cells 0 (tcl f)] rfl rfl (by simp [bels, AV.bel, rdH]) (rdH_bel _ _ _) (rdH_bel _ _ _) (by simp [AV.bel, bels]) ?_
  repeat first | refine opsStep ?_ | refine codeStep ?_ | refine drawStep ?_
  refine callT (args := [.ref 0 0 0]) (rd_bad (endS s) r1) [.cells 0 zT, .cells 0 zL, .cells 0 (tcl f)] rfl rfl (by simp [bels, AV.bel, rdH]) (rdH_bel _ _ _) (rdH_bel _ _ _) (by simp [AV.bel, bels]) ?_
  repeat first | refine opsStep ?_ | refine codeStep ?_ | refine drawStep ?_
  refine decB_split (fun hb => ?_) (fun hb => ?_)
  rotate_left
  · have hb : r1.fl.why ≠ 0 := by simpa using hb
    rw [if_pos hb] at hE
    repeat first | refine opsStep ?_ | refine codeStep ?_ | refine drawStep ?_
    refine callT (args := [.ref 0 0 0]) (rd_bad (endS s) r1) [.cells 0 zT, .cells 0 zL, .cells 0 (tcl f)] rfl rfl (by simp [bels, AV.bel, rdH]) (rdH_bel _ _ _) (rdH_bel _ _ _) (by simp [AV.bel, bels]) ?_
    repeat first | refine opsStep ?_ | refine codeStep ?_ | refine drawStep ?_
    refine decB_true (b := decide (r1.fl.why ≠ 0)) (by simpa using hb) ?_
    repeat refine codeStep ?_
    refine SW.drawn rfl (by kernel_rfl) ?_
    repeat first | refine opsStep ?_ | refine codeStep ?_ | refine drawStep ?_
    refine ⟨by kernel_rfl, ?_⟩
    repeat first | refine opsStep ?_ | refine codeStep ?_ | refine drawStep ?_
    exact finV (v' := .tup [.agg zT, .agg (fltC r1.fl)]) (by kernel_rfl) (by rw [hE]; rfl)
  · have hb : r1.fl.why = 0 := by simpa using hb
    rw [if_neg (by simp [hb])] at hE
    repeat first | refine opsStep ?_ | refine codeStep ?_ | refine drawStep ?_
    refine callP hchk ?_
    repeat first | refine opsStep ?_ | refine codeStep ?_ | refine drawStep ?_
    refine callT (args := [.ref 0 0 0]) (rd_bad (endS s) (setW r1 c)) [.cells 0 zT, .cells 0 zL, .cells 0 (tcl f)] rfl rfl (by simp [bels, AV.bel, rdH]) (rdH_bel _ _ _) (rdH_bel _ _ _) (by simp [AV.bel, bels]) ?_
    repeat first | refine opsStep ?_ | refine codeStep ?_ | refine drawStep ?_
    refine decB_dec (fun hc => ?_) (fun hc => ?_)
    · have hc : c ≠ 0 := hc
      rw [if_pos hc] at hE
      repeat refine codeStep ?_
      refine SW.drawn rfl (by kernel_rfl) ?_
      repeat first | refine opsStep ?_ | refine codeStep ?_ | refine drawStep ?_
      refine ⟨by kernel_rfl, ?_⟩
      repeat first | refine opsStep ?_ | refine codeStep ?_ | refine drawStep ?_
      exact finV (v' := .tup [.agg zT, .agg (fltC ⟨c, r1.fl.at', r1.fl.ch⟩)]) (by kernel_rfl) (by rw [hE]; rfl)
    · have hc : c = 0 := Decidable.of_not_not hc
      rw [if_neg (by simp [hc])] at hE
      repeat refine codeStep ?_
      iterate 0 refine opsStep ?_
      repeat first | refine opsStep ?_ | refine codeStep ?_ | refine drawStep ?_
      refine SW.drawn rfl (by kernel_rfl) ?_
      repeat first | refine opsStep ?_ | refine codeStep ?_ | refine drawStep ?_
      refine ⟨by kernel_rfl, ?_⟩
      repeat first | refine opsStep ?_ | refine codeStep ?_ | refine drawStep ?_
      exact finV (v' := .tup [.agg (tcl f), .agg (fltC ⟨c, r1.fl.at', r1.fl.ch⟩)]) (by kernel_rfl) (by rw [hE, hc])

end Tab

/- Trees held against themselves. -/
namespace Tab
open Go Go.Proofs
set_option maxRecDepth 10000
set_option linter.unusedVariables false
set_option linter.unusedSimpArgs false
set_option linter.unusedSectionVars false
set_option maxHeartbeats 1000000

theorem tts_ld {l : List TT} {i : Nat} (h : i < l.length) : ((ttsC l).drop ((i : Int).toNat * 4)).take 4 = tcl (l[i]'h) := by rw [Int.toNat_natCast, ttsC_at h, TT.cells_eq]; rfl
theorem fts_ld {l : List FT} {i : Nat} (h : i < l.length) : ((ftsC l).drop ((i : Int).toNat * 5)).take 5 = fcl (l[i]'h) := by rw [Int.toNat_natCast, ftsC_at h, FT.cells_eq]; rfl
end Tab

/- The reader, plain: where it goes wrong; what is behind that place changes nothing. -/
namespace Tab
open Go
set_option maxRecDepth 10000
set_option linter.unusedVariables false
set_option linter.unusedSimpArgs false
set_option linter.unusedSectionVars false

theorem take_bad {r : Rs} {L : List Str} (h : r.fl.why ≠ 0) : r.take L = ([], r) := by unfold Rs.take; exact if_neg fun k => h k.1
theorem word_bad {e : Nat × Nat} {r : Rs} {k : Int} (h : r.fl.why ≠ 0) : r.word e k = (wd0, r) := by unfold Rs.word; rw [if_pos (.inl h), Rs.wrong, if_pos h]
theorem wrong_bad {e : Nat × Nat} {r : Rs} {y : Int} (h : r.fl.why ≠ 0) : r.wrong e y = r := by rw [Rs.wrong, if_pos h]
theorem word_cases (e : Nat × Nat) (r : Rs) (k : Int) : (r.word e k = (wd0, r.wrong e 71) ∧ (r.fl.why ≠ 0 ∨ r.ws = [] ∨ r.hd.kind ≠ k)) ∨ (r.fl.why = 0 ∧ r.ws ≠ [] ∧ r.hd.kind = k ∧ r.word e k = (r.hd, ⟨r.ws.tail, r.fl⟩)) := by
  unfold Rs.word
  by_cases h : r.fl.why ≠ 0 ∨ r.ws = [] ∨ r.hd.kind ≠ k
  · rw [if_pos h]; exact .inl ⟨rfl, h⟩
  · rw [if_neg h]
    exact .inr ⟨Decidable.of_not_not fun k => h (.inl k), fun k => h (.inr (.inl k)), Decidable.of_not_not fun k => h (.inr (.inr k)), rfl⟩
theorem word_hit {e : Nat × Nat} {f : Flt} {w : Wd} {t : List Wd} {k : Int} (hf : f.why = 0) (hk : w.kind = k) : Rs.word e ⟨w :: t, f⟩ k = (w, ⟨t, f⟩) := by
  rcases word_cases e ⟨w :: t, f⟩ k with ⟨_, j | j | j⟩ | ⟨j1, j2, j3, j4⟩
  · exact absurd hf j
  · cases j
  · exact absurd hk j
  · rw [j4]; rfl
theorem mono_bad (e : Nat × Nat) (f : Flt) (hf : f.why ≠ 0) : Mono e (fun r => r.fl = f) where
  take r L h := by rw [take_bad (by rw [h]; exact hf)]; exact h
  wrong r y _ h := by rw [wrong_bad (by rw [h]; exact hf)]; exact h
  word r k h := by rw [word_bad (by rw [h]; exact hf)]; exact h
theorem Mono.or {e : Nat × Nat} {A B : Rs → Prop} (a : Mono e A) (b : Mono e B) : Mono e (fun r => A r ∨ B r) where
  take r L h := h.imp (a.take r L) (b.take r L)
  wrong r y hy h := h.imp (a.wrong r y hy) (b.wrong r y hy)
  word r k h := h.imp (a.word r k) (b.word r k)
theorem Mono.and {e : Nat × Nat} {A B : Rs → Prop} (a : Mono e A) (b : Mono e B) : Mono e (fun r => A r ∧ B r) where
  take r L h := ⟨a.take r L h.1, b.take r L h.2⟩
  wrong r y hy h := ⟨a.wrong r y hy h.1, b.wrong r y hy h.2⟩
  word r k h := ⟨a.word r k h.1, b.word r k h.2⟩

end Tab

/- The reader, plain: what is read of a text is read of it where more stands behind. -/
namespace Tab
open Go
set_option maxRecDepth 10000
set_option linter.unusedVariables false
set_option linter.unusedSimpArgs false
set_option linter.unusedSectionVars false

def Cl (S : List Str) (M : List Wd) : Prop := ∀ f, Rs.sign ⟨M, f⟩ ∉ S
theorem Cl.mono {S S' : List Str} {M : List Wd} (h : Cl S M) (hs : ∀ s ∈ S', s ∈ S) : Cl S' M := fun f k => h f (hs _ k)
def Ext {X : Type} (S : List Str) (M : List Wd) (x x' : X × Rs) : Prop := x.2.fl.why = 0 → (x.2.ws ≠ [] ∨ Cl S M) → ∃ c, x.2 = ⟨c, flt0⟩ ∧ x' = (x.1, ⟨c ++ M, flt0⟩)
theorem Ext.bad {X : Type} {S : List Str} {M : List Wd} {x x' : X × Rs} (h : x.2.fl.why ≠ 0) : Ext S M x x' := fun k => absurd k h
end Tab

/- The reader, plain: what is read is right; where a text stops being one. -/
namespace Tab
open Go
set_option maxRecDepth 10000
set_option linter.unusedVariables false
set_option linter.unusedSimpArgs false
set_option linter.unusedSectionVars false

end Tab

/- The law ParseStops, plain. -/
namespace Tab
open Go
set_option maxRecDepth 10000
set_option linter.unusedVariables false
set_option linter.unusedSimpArgs false
set_option linter.unusedSectionVars false

theorem lexS_zero {s : Str} (h : (lexS s).2.why = 0) : s.length ≤ 4096 ∧ lexW s 0 0 = ((lexS s).1, flt0) ∧ (lexS s).2 = flt0 := by
  rw [lexS_eq] at h ⊢
  by_cases hl : 4096 < s.length
  · rw [if_pos hl] at h; cases h
  rw [if_neg hl] at h ⊢
  have hz := (lexW_ok _ s rfl 0 0).2.2.1
  unfold finL at h ⊢
  by_cases hw : (lexW s 0 0).2.why ≠ 0
  · rw [if_pos hw] at h; exact absurd h hw
  · rw [if_neg hw]
    have := hz (Decidable.of_not_not hw)
    exact ⟨by omega, Prod.ext rfl this, this⟩
theorem lexS_of {s : Str} {W : List Wd} (hl : s.length ≤ 4096) (h : lexW s 0 0 = (W, flt0)) : lexS s = (W, flt0) := by
  rw [lexS_eq, if_neg (by omega), h]; rfl
theorem rs0_of {s : Str} {W : List Wd} (h : lexS s = (W, flt0)) : rs0 s = ⟨W, flt0⟩ := by rw [rs0, h]

end Tab

/- Words of texts that are put together; the grammar by words' kinds. Plain. -/
namespace Tab
open Go
set_option maxRecDepth 10000
set_option linter.unusedVariables false
set_option linter.unusedSimpArgs false
set_option linter.unusedSectionVars false

structure SepC (c : UInt8) : Prop where
  asc : c.toNat < 128
  dig : digR (c.toNat : Nat) = false
  rest : restR (c.toNat : Nat) = false
  sign : ∀ t ∈ signL, c ∉ t ∨ t = [c]
theorem sep40 : SepC 40 := ⟨by decide, by decide, by unfold restR startR; decide, by decide⟩
theorem sep41 : SepC 41 := ⟨by decide, by decide, by unfold restR startR; decide, by decide⟩
theorem sep32 : SepC 32 := ⟨by decide, by decide, by unfold restR startR; decide, by decide⟩
section
variable {c : UInt8} (hc : SepC c)
include hc
theorem bt_sep (x y : Str) : bt (x ++ c :: y) x.length = c.toNat := by simp [bt]
theorem dec_sep0 (y : Str) : dec (c :: y) 0 = (c.toNat, 1) := by
  have h := bt_sep hc [] y
  simp only [List.nil_append, List.length_nil] at h
  rw [dec_ascii (by rw [h]; exact hc.asc), h]
theorem dec_sep {x y : Str} (hx : x.length ≠ 0) : dec (x ++ c :: y) 0 = dec x 0 := by
  have hb : bt (x ++ c :: y) x.length < 128 := by rw [bt_sep hc]; exact hc.asc
  have hs := dec_stop (s := x ++ c :: y) (m := x.length) (p := 0) (by omega) hb
  have := dec_take (s := x ++ c :: y) (m := x.length) (p := 0) hs
  rw [List.take_left] at this
  exact this.symm
theorem run_sep (p : Int → Bool) (hp : p (c.toNat : Nat) = false) (y : Str) : ∀ (n : Nat) (x : Str), x.length = n → runS p (x ++ c :: y) = runS p x := by
  intro n
  induction n using Nat.strongRecOn with
  | _ n ih =>
    intro x hn
    by_cases hs : x.length = 0
    · have : x = [] := List.length_eq_zero_iff.1 hs
      subst this
      rw [runS_nil (s := ([] : Str)) rfl]
      exact runS_no (by rw [List.nil_append, dec_sep0 hc]; exact hp)
    · have hd := dec_sep hc (y := y) hs
      have hw := dec_width x 0
      have hf := dec_fits (s := x) (p := 0) (by omega)
      cases h : p (dec x 0).1 with
      | false => rw [runS_no h, runS_no (by rw [hd]; exact h)]
      | true => rw [runS_yes hs h, runS_yes (by simp) (by rw [hd]; exact h), hd, List.drop_append_of_le_length (by omega), ih _ (by simp; omega) _ rfl]
omit hc in
theorem pre_sep {t : Str} (y : Str) : ∀ (x : Str), (c ∉ t ∨ (t = [c] ∧ x ≠ [])) → t.isPrefixOf (x ++ c :: y) = t.isPrefixOf x := by
  induction t with
  | nil => intro x _; simp [List.isPrefixOf]
  | cons d t ih =>
    intro x h
    cases x with
    | nil =>
      have h := h.resolve_right (fun k => k.2 rfl)
      have : (d == c) = false := by rw [beq_eq_false_iff_ne]; intro e; exact h (by simp [e])
      simp [List.isPrefixOf, this]
    | cons z x =>
      simp only [List.cons_append, List.isPrefixOf]
      rcases h with h | ⟨h, _⟩
      · rw [ih x (.inl fun k => h (by simp [k]))]
      · simp only [List.cons.injEq] at h
        rw [h.2]
        simp [List.isPrefixOf]
theorem signT_sep {x : Str} (hx : x.length ≠ 0) (y : Str) : signT (x ++ c :: y) = signT x := by
  have hne : x ≠ [] := fun h => hx (by rw [h]; rfl)
  rw [signT, signT, find_congr (g := fun t => t.isPrefixOf x) fun t ht => pre_sep y x ((hc.sign t ht).imp id fun k => ⟨k, hne⟩)]
theorem tok_sep {x : Str} (hx : x.length ≠ 0) (y : Str) : tokS (x ++ c :: y) = tokS x := by
  have hr := run_sep hc restR hc.rest y _ x rfl
  have hg := run_sep hc digR hc.dig y _ x rfl
  have l1 := runS_le restR _ x rfl
  have l2 := runS_le digR _ x rfl
  rw [tokS, tokS, dec_sep hc hx, hr, hg, List.take_append_of_le_length l1, List.take_append_of_le_length l2, signT_sep hc hx]
theorem cat_all (p : Int → Bool) (y : Str) : ∀ (n : Nat) (x : Str), x.length = n → runS p x = x.length → runS p (x ++ c :: y) = x.length + runS p (c :: y) := by
  intro n
  induction n using Nat.strongRecOn with
  | _ n ih =>
    intro x hn h
    by_cases hs : x.length = 0
    · have : x = [] := List.length_eq_zero_iff.1 hs
      subst this; simp
    · have hd := dec_sep hc (y := y) hs
      have hw := dec_width x 0
      have hf := dec_fits (s := x) (p := 0) (by omega)
      cases hp : p (dec x 0).1 with
      | false => rw [runS_no hp] at h; omega
      | true =>
        rw [runS_yes hs hp] at h
        rw [runS_yes (by simp) (by rw [hd]; exact hp), hd, List.drop_append_of_le_length (by omega), ih _ (by simp; omega) (x.drop (dec x 0).2) rfl (by rw [List.length_drop]; omega), List.length_drop]
        omega
theorem cat_stop (p : Int → Bool) (y : Str) : ∀ (n : Nat) (x : Str), x.length = n → runS p x < x.length → runS p (x ++ c :: y) = runS p x := by
  intro n
  induction n using Nat.strongRecOn with
  | _ n ih =>
    intro x hn h
    by_cases hs : x.length = 0
    · omega
    · have hd := dec_sep hc (y := y) hs
      have hw := dec_width x 0
      have hf := dec_fits (s := x) (p := 0) (by omega)
      cases hp : p (dec x 0).1 with
      | false => rw [runS_no hp, runS_no (by rw [hd]; exact hp)]
      | true =>
        rw [runS_yes hs hp] at h ⊢
        rw [runS_yes (by simp) (by rw [hd]; exact hp), hd, List.drop_append_of_le_length (by omega), ih _ (by simp; omega) (x.drop (dec x 0).2) rfl (by rw [List.length_drop]; omega)]
theorem Bd.sep {x : Str} {b : Nat} (h : Bd x b) (y : Str) : Bd (x ++ c :: y) b := by
  induction h with
  | zero => exact .zero _
  | @step x b hs h ih =>
    have hd := dec_sep hc (y := y) hs
    have hf := dec_fits (s := x) (p := 0) (by omega)
    have := Bd.step (s := x ++ c :: y) (a := b) (by simp) (by rw [hd, List.drop_append_of_le_length (by omega)]; exact ih)
    rwa [hd] at this
theorem Part.sep {x : Str} {b x1 t} (h : Part x b x1 t) (y : Str) : Part (x ++ c :: y) b (x1 ++ c :: y) t := by
  obtain ⟨l1, l2⟩ := h.lt
  obtain ⟨rfl, rfl, h3, rfl⟩ := h
  exact ⟨cat_stop hc blankR y _ x rfl l1, by rw [List.drop_append_of_le_length (by omega)], by simp, tok_sep hc h3 y⟩
theorem lex_sep (y : Str) : ∀ (n : Nat) (x : Str), x.length = n → ∀ (a ch : Nat), lexW (x ++ c :: y) a ch =
    if (lexW x a ch).2.why ≠ 0 then lexW x a ch else ((lexW x a ch).1 ++ (lexW (c :: y) (a + x.length) (ch + chS x)).1, (lexW (c :: y) (a + x.length) (ch + chS x)).2) := by
  intro n
  induction n using Nat.strongRecOn with
  | _ n ih =>
    intro x hn a ch
    rcases part_of x with h | h
    · rw [lexW_nil h, if_neg (by simp [flt0])]
      have hb := Bd.sep hc (bd_end _ x rfl) y
      have hd : (x ++ c :: y).drop x.length = c :: y := by rw [List.drop_left]
      have hr : runS blankR (x ++ c :: y) = x.length + runS blankR ((x ++ c :: y).drop x.length) := by
        rw [cat_all hc blankR y _ x rfl h, hd]
      rw [lexW_skip hb hr, hd, List.take_left]
      rfl
    · have hj := h.sep hc y
      obtain ⟨l1, l2⟩ := h.lt
      generalize hbe : runS blankR x = b at *
      generalize hxe : x.drop b = x1 at *
      generalize hte : tokS x1 = t at *
      have htk : (x ++ c :: y).take b = x.take b := List.take_append_of_le_length (by omega)
      by_cases he : t.err = 0
      · obtain ⟨n1, n2, n3, _⟩ := h.tokN he
        have hbx := h.bd
        have hcx : chS x = chS (x.take b) + (chS (x1.take t.n) + chS (x1.drop t.n)) := by
          rw [chS_split hbx, hxe, chS_split n1]
        rw [lexW_tok hj he, lexW_tok h he, htk, List.take_append_of_le_length n3, List.drop_append_of_le_length n3, ih _ (by rw [List.length_drop]; omega) (x1.drop t.n) rfl, List.length_drop]
        generalize lexW (x1.drop t.n) (a + b + t.n) (ch + chS (x.take b) + chS (x1.take t.n)) = r
        rw [show a + b + t.n + (x1.length - t.n) = a + x.length by omega, show ch + chS (x.take b) + chS (x1.take t.n) + chS (x1.drop t.n) = ch + chS x by omega]
        by_cases hw : r.2.why ≠ 0
        · simp only [if_pos hw]
        · simp only [if_neg hw, List.cons_append]
      · rw [lexW_bad hj he, lexW_bad h he, htk, if_pos he]
end

def wk (w : Wd) : Int × Str × Nat := (w.kind, w.text, w.num)
abbrev Ky := Int × Str × Nat
def Lx (x : Str) (K : List Ky) : Prop := ∃ W, lexW x 0 0 = (W, flt0) ∧ W.map wk = K
theorem Lx.at {x : Str} {K : List Ky} (h : Lx x K) (a ch : Nat) : ∃ W, lexW x a ch = (W, flt0) ∧ W.map wk = K := by
  obtain ⟨W, h1, h2⟩ := h
  have := lexW_mv a ch _ x rfl 0 0
  rw [Nat.zero_add, Nat.zero_add, h1] at this
  refine ⟨W.map (mvW a ch), by rw [this]; rfl, ?_⟩
  rw [List.map_map, ← h2]
  exact List.map_congr_left fun w _ => rfl
theorem Lx.sep {c : UInt8} (hc : SepC c) {x y : Str} {K K' : List Ky} (h : Lx x K) (h' : Lx (c :: y) K') : Lx (x ++ c :: y) (K ++ K') := by
  obtain ⟨W, h1, h2⟩ := h
  obtain ⟨V, h3, h4⟩ := h'.at (0 + x.length) (0 + chS x)
  refine ⟨W ++ V, ?_, by rw [List.map_append, h2, h4]⟩
  rw [lex_sep hc y _ x rfl, h1, if_neg (by simp [flt0]), h3]
theorem Lx.one {c : UInt8} (hc : SepC c) (hb : blankR (c.toNat : Nat) = false) (hs : startR (c.toNat : Nat) = false) (hp : plainS (c.toNat : Nat) = []) (hf : ∀ y : Str, (signL.find? fun t => t.isPrefixOf (c :: y)) = some [c]) {y : Str} {K : List Ky} (h : Lx y K) : Lx (c :: y) ((2, [c], 0) :: K) := by
  have hd := dec_sep0 hc y
  have hr : runS blankR (c :: y) = 0 := runS_no (by rw [hd]; exact hb)
  have ht : tokS (c :: y) = ⟨2, [c], 0, 1, 0⟩ := by
    rw [tokS, hd, if_neg (by
      rintro ⟨h1, _⟩
      have h1 : c.toNat = 65533 := h1
      have := hc.asc
      omega), if_neg (by rw [hs]; simp), if_neg (by rw [hc.dig]; simp), if_neg (by rw [hp]; simp), signT, hf]
    rfl
  have hpt : Part (c :: y) 0 (c :: y) ⟨2, [c], 0, 1, 0⟩ := ⟨hr, rfl, by simp, ht⟩
  obtain ⟨V, h3, h4⟩ := h.at (0 + 0 + 1) (0 + chS ((c :: y).take 0) + chS ((c :: y).take 1))
  refine ⟨⟨2, [c], 0, 0 + 0, 0 + chS ((c :: y).take 0)⟩ :: V, ?_, ?_⟩
  · rw [lexW_tok hpt rfl]
    show (_ :: (lexW y (0 + 0 + 1) (0 + chS ((c :: y).take 0) + chS ((c :: y).take 1))).1, (lexW y (0 + 0 + 1) (0 + chS ((c :: y).take 0) + chS ((c :: y).take 1))).2) = _
    rw [h3]
  · rw [List.map_cons, h4]; rfl
theorem Lx.open {y : Str} {K : List Ky} (h : Lx y K) : Lx (40 :: y) ((2, [40], 0) :: K) := Lx.one sep40 (by decide) (by unfold startR; decide) (by decide) (fun y => by simp [signL, List.isPrefixOf]) h
theorem Lx.close {y : Str} {K : List Ky} (h : Lx y K) : Lx (41 :: y) ((2, [41], 0) :: K) := Lx.one sep41 (by decide) (by unfold startR; decide) (by decide) (fun y => by simp [signL, List.isPrefixOf]) h
theorem Lx.nil : Lx [] [] := ⟨[], by kernel_rfl, rfl⟩
theorem Lx.of {s : Str} (h : (lexS s).2.why = 0) : Lx s ((lexS s).1.map wk) := ⟨(lexS s).1, (lexS_zero h).2.1, rfl⟩
theorem Lx.lexS {s : Str} {K : List Ky} (h : Lx s K) (hl : s.length ≤ 4096) : ∃ W, lexS s = (W, flt0) ∧ W.map wk = K := by
  obtain ⟨W, h1, h2⟩ := h
  exact ⟨W, lexS_of hl h1, h2⟩
theorem lexS_long {s : Str} (hl : 4096 < s.length) : lexS s = ([], ⟨70, 0, 0⟩) := by rw [Tab.lexS, if_pos hl]

end Tab

/- The grammar by words' kinds, plain: what is read of what. -/
namespace Tab
open Go
set_option maxRecDepth 10000
set_option linter.unusedVariables false
set_option linter.unusedSimpArgs false
set_option linter.unusedSectionVars false

def Okp {X : Type} (C : Nat) (p : Nat × Nat → Nat → Rs → X × Rs) (K : List Ky) (f : X) (R : List Ky) : Prop :=
  ∀ e n W, W.map wk = K → 16 * K.length + C ≤ n → ∃ V, p e n ⟨W, flt0⟩ = (f, ⟨V, flt0⟩) ∧ V.map wk = R
def Okl {X : Type} (C : Nat) (p : Nat × Nat → Nat → X × Rs → X × Rs) (x : X) (K : List Ky) (f : X) (R : List Ky) : Prop :=
  ∀ e n W, W.map wk = K → 16 * K.length + C ≤ n → ∃ V, p e n (x, ⟨W, flt0⟩) = (f, ⟨V, flt0⟩) ∧ V.map wk = R
def sgK (K : List Ky) : Str := match K with | [] => [] | k :: _ => if k.1 = 2 then k.2.1 else []
theorem sgK_sign {W : List Wd} {K : List Ky} (h : W.map wk = K) (f : Flt) : Rs.sign ⟨W, f⟩ = sgK K := by
  subst h
  cases W with
  | nil => rfl
  | cons w t => rfl
theorem take_no {W : List Wd} {K : List Ky} {L : List Str} (h : W.map wk = K) (hn : sgK K ∉ L) : (Rs.mk W flt0).take L = ([], ⟨W, flt0⟩) := by
  unfold Rs.take; exact if_neg fun k => hn (sgK_sign h flt0 ▸ k.2)
theorem take_hit {W : List Wd} {s : Str} {K : List Ky} {L : List Str} {v : Nat} (h : W.map wk = (2, s, v) :: K) (hm : s ∈ L) : ∃ V, (Rs.mk W flt0).take L = (s, ⟨V, flt0⟩) ∧ V.map wk = K := by
  cases W with
  | nil => cases h
  | cons w t =>
    obtain ⟨h1, h2⟩ := List.cons.inj h
    have hs : Rs.sign ⟨w :: t, flt0⟩ = s := by rw [sgK_sign h]; rfl
    exact ⟨t, by unfold Rs.take; rw [if_pos ⟨rfl, by rw [hs]; exact hm⟩, hs]; rfl, h2⟩
theorem need_hit {e : Nat × Nat} {W : List Wd} {s : Str} {K : List Ky} {v : Nat} (h : W.map wk = (2, s, v) :: K) (h0 : s ≠ []) : ∃ V, (Rs.mk W flt0).need e s = ⟨V, flt0⟩ ∧ V.map wk = K := by
  obtain ⟨V, h1, h2⟩ := take_hit (L := [s]) h (by simp)
  refine ⟨V, ?_, h2⟩
  unfold Rs.need
  rw [h1, if_neg h0]
theorem word_hit' {e : Nat × Nat} {W : List Wd} {k : Int} {s : Str} {v : Nat} {K : List Ky} (h : W.map wk = (k, s, v) :: K) : ∃ w V, (Rs.mk W flt0).word e k = (w, ⟨V, flt0⟩) ∧ w.text = s ∧ w.num = v ∧ V.map wk = K := by
  cases W with
  | nil => cases h
  | cons w t =>
    obtain ⟨h1, h2⟩ := List.cons.inj h
    simp only [wk, Prod.mk.injEq] at h1
    exact ⟨w, t, word_hit rfl h1.1, h1.2.1, h1.2.2, h2⟩
theorem len_wk {W : List Wd} {K : List Ky} (h : W.map wk = K) : W.length = K.length := by rw [← h]; simp

abbrev OkT := Okp (X := TT) 3 pT
abbrev OkP := Okp (X := TT) 2 pP
abbrev OkFa := Okp (X := TT) 1 pFa
abbrev OkF := Okp (X := FT) 8 pF
def kS (s : Str) : Ky := (2, s, 0)

theorem okp_le {X : Type} {C : Nat} {p : Nat × Nat → Nat → Rs → X × Rs} {K R : List Ky} {f : X} (h : Okp C p K f R) (hl : ∀ e n r, (p e n r).2.ws.length ≤ r.ws.length) : R.length ≤ K.length := by
  obtain ⟨V, h1, h2⟩ := h (0, 0) (16 * K.length + C) (K.map fun k => ⟨k.1, k.2.1, k.2.2, 0, 0⟩) (by rw [List.map_map]; exact (List.map_congr_left fun k _ => rfl).trans (List.map_id K)) (Nat.le_refl _)
  have := hl (0, 0) (16 * K.length + C) ⟨K.map fun k => ⟨k.1, k.2.1, k.2.2, 0, 0⟩, flt0⟩
  rw [h1] at this
  simp only [List.length_map] at this
  rw [← len_wk h2]
  exact this
theorem le_P (e n r) : (pP e n r).2.ws.length ≤ r.ws.length := (terms_le e n).2.2.1 r
theorem le_Fa (e n r) : (pFa e n r).2.ws.length ≤ r.ws.length := (terms_le e n).2.2.2.2 r
theorem pl_stop {x} {K : List Ky} (h : sgK K ≠ tMul) : Okl 1 pPL x K x K := by
  intro e n W hW hn
  obtain ⟨n, rfl⟩ : ∃ k, n = k + 1 := ⟨n - 1, by omega⟩
  refine ⟨W, ?_, hW⟩
  rw [pPL, take_no hW (by simpa using h)]
  rfl
theorem pl_step {x u g} {K K1 R : List Ky} (hu : OkFa K u K1) (hg : Okl 1 pPL ((fun (a b : TT) => TT.mk 5 0 [] .any [a, b]) x u) K1 g R) : Okl 1 pPL x (kS tMul :: K) g R := by
  intro e n W hW hn
  have hl := okp_le hu le_Fa
  simp only [List.length_cons] at hn
  obtain ⟨n, rfl⟩ : ∃ k, n = k + 1 := ⟨n - 1, by omega⟩
  obtain ⟨V, h1, h2⟩ := take_hit (L := [tMul]) hW (by simp)
  obtain ⟨V1, h3, h4⟩ := hu e n V h2 (by omega)
  obtain ⟨V2, h5, h6⟩ := hg e n V1 h4 (by omega)
  refine ⟨V2, ?_, h6⟩
  rw [pPL, h1]
  simp only
  rw [if_pos (by simp [tMul]), h3]
  exact h5
theorem p_intro {u g} {K K1 R : List Ky} (hu : OkFa K u K1) (hg : Okl 1 pPL u K1 g R) : OkP K g R := by
  intro e n W hW hn
  have hl := okp_le hu le_Fa
  obtain ⟨n, rfl⟩ : ∃ k, n = k + 1 := ⟨n - 1, by omega⟩
  obtain ⟨V1, h3, h4⟩ := hu e n W hW (by omega)
  obtain ⟨V2, h5, h6⟩ := hg e n V1 h4 (by omega)
  refine ⟨V2, ?_, h6⟩
  rw [pP, h3]
  exact h5
theorem tl_stop {x} {K : List Ky} (h1 : sgK K ≠ tAdd) (h2 : sgK K ≠ tSub) : Okl 2 pTL x K x K := by
  intro e n W hW hn
  obtain ⟨n, rfl⟩ : ∃ k, n = k + 1 := ⟨n - 1, by omega⟩
  refine ⟨W, ?_, hW⟩
  rw [pTL, take_no hW (by simp; exact ⟨h1, h2⟩)]
  rfl
theorem tl_add {x u g} {K K1 R : List Ky} (hu : OkP K u K1) (hg : Okl 2 pTL (.mk 3 0 [] .any [x, u]) K1 g R) : Okl 2 pTL x (kS tAdd :: K) g R := by
  intro e n W hW hn
  have hl := okp_le hu le_P
  simp only [List.length_cons] at hn
  obtain ⟨n, rfl⟩ : ∃ k, n = k + 1 := ⟨n - 1, by omega⟩
  obtain ⟨V, h1, h2⟩ := take_hit (L := [tAdd, tSub]) hW (by simp)
  obtain ⟨V1, h3, h4⟩ := hu e n V h2 (by omega)
  obtain ⟨V2, h5, h6⟩ := hg e n V1 h4 (by omega)
  refine ⟨V2, ?_, h6⟩
  rw [pTL, h1]
  simp only
  rw [if_pos trivial, h3]
  exact h5
theorem tl_sub {x u g} {K K1 R : List Ky} (hu : OkP K u K1) (hg : Okl 2 pTL (.mk 4 0 [] .any [x, u]) K1 g R) : Okl 2 pTL x (kS tSub :: K) g R := by
  intro e n W hW hn
  have hl := okp_le hu le_P
  simp only [List.length_cons] at hn
  obtain ⟨n, rfl⟩ : ∃ k, n = k + 1 := ⟨n - 1, by omega⟩
  obtain ⟨V, h1, h2⟩ := take_hit (L := [tAdd, tSub]) hW (by simp)
  obtain ⟨V1, h3, h4⟩ := hu e n V h2 (by omega)
  obtain ⟨V2, h5, h6⟩ := hg e n V1 h4 (by omega)
  refine ⟨V2, ?_, h6⟩
  rw [pTL, h1]
  simp only
  rw [if_neg (by decide), if_pos trivial, h3]
  exact h5
theorem t_intro {u g} {K K1 R : List Ky} (hu : OkP K u K1) (hg : Okl 2 pTL u K1 g R) : OkT K g R := by
  intro e n W hW hn
  have hl := okp_le hu le_P
  obtain ⟨n, rfl⟩ : ∃ k, n = k + 1 := ⟨n - 1, by omega⟩
  obtain ⟨V1, h3, h4⟩ := hu e n W hW (by omega)
  obtain ⟨V2, h5, h6⟩ := hg e n V1 h4 (by omega)
  refine ⟨V2, ?_, h6⟩
  rw [pT, h3]
  exact h5
theorem fa_name {s : Str} {K : List Ky} : OkFa ((0, s, 0) :: K) (.mk 1 0 s .nil []) K := by
  intro e n W hW hn
  obtain ⟨n, rfl⟩ : ∃ k, n = k + 1 := ⟨n - 1, by omega⟩
  obtain ⟨w, V, h1, h2, h3, h4⟩ := word_hit' (e := e) hW
  refine ⟨V, ?_, h4⟩
  rw [pFa, take_no hW (by simp [sgK, tOpen, tSub])]
  simp only
  have hc : (Rs.mk W flt0).fl.why = 0 ∧ (Rs.mk W flt0).ws ≠ [] ∧ (Rs.mk W flt0).hd.kind = 0 := by
    cases W with
    | nil => cases hW
    | cons w t =>
      obtain ⟨h1, _⟩ := List.cons.inj hW
      simp only [wk, Prod.mk.injEq] at h1
      exact ⟨rfl, by simp, h1.1⟩
  rw [if_neg (by simp [tOpen]), if_neg (by simp [tSub]), if_pos hc, h1]
  simp only [h2]
theorem fa_num {v : Nat} {s : Str} {K : List Ky} : OkFa ((1, s, v) :: K) (.mk 0 v [] .nil []) K := by
  intro e n W hW hn
  obtain ⟨n, rfl⟩ : ∃ k, n = k + 1 := ⟨n - 1, by omega⟩
  obtain ⟨w, V, h1, h2, h3, h4⟩ := word_hit' (e := e) hW
  refine ⟨V, ?_, h4⟩
  rw [pFa, take_no hW (by simp [sgK, tOpen, tSub])]
  simp only
  have hc : ¬ ((Rs.mk W flt0).fl.why = 0 ∧ (Rs.mk W flt0).ws ≠ [] ∧ (Rs.mk W flt0).hd.kind = 0) := by
    cases W with
    | nil => cases hW
    | cons w t =>
      obtain ⟨h1, _⟩ := List.cons.inj hW
      simp only [wk, Prod.mk.injEq] at h1
      rintro ⟨_, _, h⟩
      have h : w.kind = 0 := h
      rw [h1.1] at h
      cases h
  rw [if_neg (by simp [tOpen]), if_neg (by simp [tSub]), if_neg hc, h1]
  simp only [h3]
theorem fa_neg {a} {K R : List Ky} (ha : OkFa K a R) : OkFa (kS tSub :: K) (.mk 2 0 [] .any [a]) R := by
  intro e n W hW hn
  simp only [List.length_cons] at hn
  obtain ⟨n, rfl⟩ : ∃ k, n = k + 1 := ⟨n - 1, by omega⟩
  obtain ⟨V, h1, h2⟩ := take_hit (L := [tOpen, tSub]) hW (by simp)
  obtain ⟨V1, h3, h4⟩ := ha e n V h2 (by omega)
  refine ⟨V1, ?_, h4⟩
  rw [pFa, h1]
  simp only
  rw [if_neg (by decide), if_pos trivial, h3]
theorem fa_open {a} {K R : List Ky} (ha : OkT K a (kS tClose :: R)) : OkFa (kS tOpen :: K) a R := by
  intro e n W hW hn
  simp only [List.length_cons] at hn
  obtain ⟨n, rfl⟩ : ∃ k, n = k + 1 := ⟨n - 1, by omega⟩
  obtain ⟨V, h1, h2⟩ := take_hit (L := [tOpen, tSub]) hW (by simp)
  obtain ⟨V1, h3, h4⟩ := ha e n V h2 (by omega)
  obtain ⟨V2, h5, h6⟩ := need_hit (e := e) h4 (by simp [tClose])
  refine ⟨V2, ?_, h6⟩
  rw [pFa, h1]
  simp only
  rw [if_pos trivial, h3]
  simp only
  rw [h5]
end Tab

/- Texts put together, read: plain. -/
namespace Tab
open Go
set_option maxRecDepth 10000
set_option linter.unusedVariables false
set_option linter.unusedSimpArgs false
set_option linter.unusedSectionVars false

structure Read (s : Str) (f : FT) (K : List Ky) : Prop where
  lx : Lx s K
  ok : OkF K f []
theorem Read.lxb {s : Str} {f : FT} {K : List Ky} (h : Read s f K) {y : Str} {M : List Ky} (hy : Lx y M) : Lx (40 :: (s ++ 41 :: y)) ((2, [40], 0) :: (K ++ (2, [41], 0) :: M)) := Lx.open (h.lx.sep sep41 (Lx.close hy))

end Tab

/- The texts of ParseBrackets and ParseBinds, plain. -/
namespace Tab
open Go
set_option maxRecDepth 10000
set_option linter.unusedVariables false
set_option linter.unusedSimpArgs false
set_option linter.unusedSectionVars false

theorem Lx.lit {x : Str} {K : List Ky} (h1 : (lexW x 0 0).2.why = 0) (h2 : (lexW x 0 0).1.map wk = K) : Lx x K := ⟨(lexW x 0 0).1, Prod.ext rfl ((lexW_ok _ x rfl 0 0).2.2.1 h1), h2⟩
section
variable {s t : Str} {f g : FT} {K L : List Ky} (hs : Read s f K) (ht : Read t g L)
include hs ht
omit ht
end

def bk (s : Str) : Str := ([40] ++ s) ++ [41]
theorem Read.next {s : Str} {f : FT} {K : List Ky} (h : Read s f K) {m y : Str} {M Y : List Ky} (hm : Lx m M) (hy : Lx (40 :: y) Y) : Lx (bk s ++ m ++ 40 :: y) ((2, [40], 0) :: (K ++ (2, [41], 0) :: (M ++ Y))) := by
  have hz : bk s ++ m ++ 40 :: y = 40 :: (s ++ 41 :: (m ++ 40 :: y)) := by simp [bk]
  rw [hz]
  exact h.lxb (Lx.sep sep40 hm hy)
section
variable {s t u : Str} {a b c : FT} {K L N : List Ky} (hs : Read s a K) (ht : Read t b L) (hu : Read u c N)
include hs ht
omit hs ht
end

end Tab
