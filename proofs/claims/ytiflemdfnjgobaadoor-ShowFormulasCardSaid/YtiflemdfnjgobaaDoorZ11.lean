/- Lemmas for this claim: part 11. No condition. -/
import Derived.Test.YtiflemdfnjgobaaDoorZ10
/- The reference's texts of formulas. -/
namespace Tab
open Go Go.Proofs
set_option maxRecDepth 10000
set_option linter.unusedVariables false
set_option linter.unusedSimpArgs false
set_option linter.unusedSectionVars false
set_option maxHeartbeats 2000000

theorem r08Formula : ∀ (n : Nat) (f : FT), f.nodes ≤ n → n ≤ 500 → f.right → f.ok → Pure Tryd.prog 16 [.agg f.cells] (.str f.tx) := by
  intro n
  induction n with
  | zero => intro t h; have := ft_pos t; omega
  | succ n ih =>
    intro f hn h500 hr hok
    rw [FT.cells_eq]
    rcases f with ⟨op, name, md, tk, terms, ak, args⟩
    rw [FT.right] at hr
    rw [FT.nodes] at hn
    rw [FT.ok] at hok
    have hnm := hok.2.1
    have hmd := hok.2.2.1
    have hto := hok.2.2.2.2.1
    have hao := hok.2.2.2.2.2.2
    have htr := hr.2.1
    have har := hr.2.2
    simp only [FT.op, FT.name, FT.md, FT.tk, FT.terms, FT.ak, FT.args]
    rcases goodF_cases hr.1 with ⟨hop, rfl, rfl⟩ | ⟨rfl, rfl, a, rfl⟩ | ⟨hop, rfl, a, b, rfl⟩ | ⟨hop, rfl, a, rfl⟩ | ⟨hop, rfl, a, b, rfl⟩ | ⟨rfl, h1, rfl, a, b, rfl⟩
    · rcases hop with rfl | rfl
      · have htx : FT.tx ⟨0, name, md, tk, [], ak, []⟩ = [116, 114, 117, 101] := by rw [FT.tx, joinF, if_pos rfl]
        rw [htx]
        refine Pure.of_sw 92 Tryd.func16 rfl Tryd.ntmps16 (by kernel_rfl) (Nat.le_of_ble_eq_true (by kernel_rfl)) (by simp only [closeds]; exact ⟨fC5_closed 0 name md tk [] ak [], trivial⟩) (by simp only [AV.closed]) ?_
        refine SW.of_vc ?_
        repeat first | refine opsStep ?_ | refine codeStep ?_ | refine drawStep ?_
        refine optX_of (c := [[116, 114, 117, 101], [102, 97, 108, 115, 101], [110, 111, 116, 32], [32, 97, 110, 100, 32], [32, 111, 114, 32], [32, 45, 62, 32], [32, 60, 45, 62, 32], [101, 120, 32], [97, 108, 108, 32], [32, 60, 61, 32], [32, 60, 32], [32, 62, 61, 32], [32, 62, 32], [32, 61, 32], [32, 33, 61, 32], [32, 126, 32]].map AV.str) (by kernel_rfl) ?_
        repeat first | refine opsStep ?_ | refine codeStep ?_ | refine drawStep ?_
        exact finV (v' := .str [116, 114, 117, 101]) (by kernel_rfl) rfl
      · have htx : FT.tx ⟨1, name, md, tk, [], ak, []⟩ = [102, 97, 108, 115, 101] := by rw [FT.tx, joinF, if_neg (by decide), if_pos rfl]
        rw [htx]
        refine Pure.of_sw 92 Tryd.func16 rfl Tryd.ntmps16 (by kernel_rfl) (Nat.le_of_ble_eq_true (by kernel_rfl)) (by simp only [closeds]; exact ⟨fC5_closed 1 name md tk [] ak [], trivial⟩) (by simp only [AV.closed]) ?_
        refine SW.of_vc ?_
        repeat first | refine opsStep ?_ | refine codeStep ?_ | refine drawStep ?_
        refine optX_of (c := [[116, 114, 117, 101], [102, 97, 108, 115, 101], [110, 111, 116, 32], [32, 97, 110, 100, 32], [32, 111, 114, 32], [32, 45, 62, 32], [32, 60, 45, 62, 32], [101, 120, 32], [97, 108, 108, 32], [32, 60, 61, 32], [32, 60, 32], [32, 62, 61, 32], [32, 62, 32], [32, 61, 32], [32, 33, 61, 32], [32, 126, 32]].map AV.str) (by kernel_rfl) ?_
        repeat first | refine opsStep ?_ | refine codeStep ?_ | refine drawStep ?_
        exact finV (v' := .str [102, 97, 108, 115, 101]) (by kernel_rfl) rfl
    · rw [ftsNodes, ftsNodes] at hn
      rw [ftsOk] at hao
      rw [ftsRight] at har
      have ha' := ih a (by omega) (by omega) har.1 hao.1
      have la := FT.tx_small hao.1 (by omega : a.nodes ≤ 500)
      have hf0 : 5 ≤ ((ftsC [a]).drop ((0 : Int).toNat * 5)).length := by rw [List.length_drop, ftsC_len]; simp
      rw [← fcell_a a []] at ha'
      have htx : FT.tx ⟨2, name, md, tk, [], ak, [a]⟩ = [110, 111, 116, 32] ++ a.tx := by
        rw [FT.tx, joinF, if_neg (by decide), if_neg (by decide), if_pos rfl]
        rfl
      rw [htx]
      refine Pure.of_sw 92 Tryd.func16 rfl Tryd.ntmps16 (by kernel_rfl) (Nat.le_of_ble_eq_true (by kernel_rfl)) (by simp only [closeds]; exact ⟨fC5_closed 2 name md tk [] ak [a], trivial⟩) (by simp only [AV.closed]) ?_
      refine SW.of_vc ?_
      repeat first | refine opsStep ?_ | refine codeStep ?_ | refine drawStep ?_
      refine optX_of (c := [[116, 114, 117, 101], [102, 97, 108, 115, 101], [110, 111, 116, 32], [32, 97, 110, 100, 32], [32, 111, 114, 32], [32, 45, 62, 32], [32, 60, 45, 62, 32], [101, 120, 32], [97, 108, 108, 32], [32, 60, 61, 32], [32, 60, 32], [32, 62, 61, 32], [32, 62, 32], [32, 61, 32], [32, 33, 61, 32], [32, 126, 32]].map AV.str) (by kernel_rfl) ?_
      repeat first | refine opsStep ?_ | refine codeStep ?_ | refine drawStep ?_
      refine SW.drawn rfl (by kernel_rfl) ?_
      repeat first | refine opsStep ?_ | refine codeStep ?_ | refine drawStep ?_
      refine guardE_of hf0 ?_
      repeat first | refine opsStep ?_ | refine codeStep ?_ | refine drawStep ?_
      refine .inl ⟨_, _, [], ha', RdsN_refl _, .inr rfl, none_need, ?_⟩
      repeat first | refine opsStep ?_ | refine codeStep ?_ | refine drawStep ?_
      refine guardE_of (by show 4 + a.tx.length ≤ 9223372036854775807; omega) ?_
      repeat first | refine opsStep ?_ | refine codeStep ?_ | refine drawStep ?_
      refine ⟨by kernel_rfl, ?_⟩
      repeat first | refine opsStep ?_ | refine codeStep ?_ | refine drawStep ?_
      exact finV (v' := .str ([110, 111, 116, 32] ++ a.tx)) (by kernel_rfl) rfl
    · rw [ftsNodes, ftsNodes, ftsNodes] at hn
      rw [ftsOk, ftsOk] at hao
      rw [ftsRight, ftsRight] at har
      have ha' := ih a (by omega) (by omega) har.1 hao.1
      have hb' := ih b (by omega) (by omega) har.2.1 hao.2.1
      have la := FT.tx_small hao.1 (by omega : a.nodes ≤ 500)
      have lb := FT.tx_small hao.2.1 (by omega : b.nodes ≤ 500)
      have hf0 : 5 ≤ ((ftsC [a, b]).drop ((0 : Int).toNat * 5)).length := by rw [List.length_drop, ftsC_len]; simp
      have hf1 : 5 ≤ ((ftsC [a, b]).drop ((1 : Int).toNat * 5)).length := by rw [List.length_drop, ftsC_len]; simp
      rw [← fcell_a a [b]] at ha'
      rw [← fcell_b a b []] at hb'
      rcases hop with hop | hop | hop | hop
      · subst hop
        have htx : FT.tx ⟨3, name, md, tk, [], ak, [a, b]⟩ = ((([40] ++ a.tx) ++ signF 3) ++ b.tx) ++ [41] := by
          rw [FT.tx, joinF]
          simp only [show ¬ ((3 : Int) = 0) by decide, show ¬ ((3 : Int) = 1) by decide, show ¬ ((3 : Int) = 2) by decide, show ¬ ((3 : Int) = 7) by decide, show ¬ ((3 : Int) = 8) by decide, show ((3 : Int) ≤ 3 ∧ (3 : Int) ≤ 6) by decide, if_false, if_true]
          rfl
        rw [htx]
        have hsg := fsign_len 3
        refine Pure.of_sw 92 Tryd.func16 rfl Tryd.ntmps16 (by kernel_rfl) (Nat.le_of_ble_eq_true (by kernel_rfl)) (by simp only [closeds]; exact ⟨fC5_closed 3 name md tk [] ak [a, b], trivial⟩) (by simp only [AV.closed]) ?_
        refine SW.of_vc ?_
        repeat first | refine opsStep ?_ | refine codeStep ?_ | refine drawStep ?_
        refine optX_of (c := [[116, 114, 117, 101], [102, 97, 108, 115, 101], [110, 111, 116, 32], [32, 97, 110, 100, 32], [32, 111, 114, 32], [32, 45, 62, 32], [32, 60, 45, 62, 32], [101, 120, 32], [97, 108, 108, 32], [32, 60, 61, 32], [32, 60, 32], [32, 62, 61, 32], [32, 62, 32], [32, 61, 32], [32, 33, 61, 32], [32, 126, 32]].map AV.str) (by kernel_rfl) ?_
        repeat first | refine opsStep ?_ | refine codeStep ?_ | refine drawStep ?_
        refine SW.drawn rfl (by kernel_rfl) ?_
        repeat first | refine opsStep ?_ | refine codeStep ?_ | refine drawStep ?_
        refine guardE_of hf0 ?_
        repeat first | refine opsStep ?_ | refine codeStep ?_ | refine drawStep ?_
        refine .inl ⟨_, _, [], ha', RdsN_refl _, .inr rfl, none_need, ?_⟩
        repeat first | refine opsStep ?_ | refine codeStep ?_ | refine drawStep ?_
        refine guardE_of (by show 1 + a.tx.length ≤ 9223372036854775807; omega) ?_
        repeat first | refine opsStep ?_ | refine codeStep ?_ | refine drawStep ?_
        refine guardE_of (by show ([40] ++ a.tx).length + (signF 3).length ≤ 9223372036854775807; simp only [List.length_append, List.length_cons, List.length_nil]; omega) ?_
        repeat first | refine opsStep ?_ | refine codeStep ?_ | refine drawStep ?_
        refine guardE_of hf1 ?_
        repeat first | refine opsStep ?_ | refine codeStep ?_ | refine drawStep ?_
        refine .inl ⟨_, _, [], hb', RdsN_refl _, .inr rfl, none_need, ?_⟩
        repeat first | refine opsStep ?_ | refine codeStep ?_ | refine drawStep ?_
        refine guardE_of (by show (([40] ++ a.tx) ++ signF 3).length + b.tx.length ≤ 9223372036854775807; simp only [List.length_append, List.length_cons, List.length_nil]; omega) ?_
        repeat first | refine opsStep ?_ | refine codeStep ?_ | refine drawStep ?_
        refine guardE_of (by show ((([40] ++ a.tx) ++ signF 3) ++ b.tx).length + 1 ≤ 9223372036854775807; simp only [List.length_append, List.length_cons, List.length_nil]; omega) ?_
        repeat first | refine opsStep ?_ | refine codeStep ?_ | refine drawStep ?_
        refine ⟨by kernel_rfl, ?_⟩
        repeat first | refine opsStep ?_ | refine codeStep ?_ | refine drawStep ?_
        exact finV (v' := .str (((([40] ++ a.tx) ++ signF 3) ++ b.tx) ++ [41])) (by kernel_rfl) rfl
      · subst hop
        have htx : FT.tx ⟨4, name, md, tk, [], ak, [a, b]⟩ = ((([40] ++ a.tx) ++ signF 4) ++ b.tx) ++ [41] := by
          rw [FT.tx, joinF]
          simp only [show ¬ ((4 : Int) = 0) by decide, show ¬ ((4 : Int) = 1) by decide, show ¬ ((4 : Int) = 2) by decide, show ¬ ((4 : Int) = 7) by decide, show ¬ ((4 : Int) = 8) by decide, show ((3 : Int) ≤ 4 ∧ (4 : Int) ≤ 6) by decide, if_false, if_true]
          rfl
        rw [htx]
        have hsg := fsign_len 4
        refine Pure.of_sw 92 Tryd.func16 rfl Tryd.ntmps16 (by kernel_rfl) (Nat.le_of_ble_eq_true (by kernel_rfl)) (by simp only [closeds]; exact ⟨fC5_closed 4 name md tk [] ak [a, b], trivial⟩) (by simp only [AV.closed]) ?_
        refine SW.of_vc ?_
        repeat first | refine opsStep ?_ | refine codeStep ?_ | refine drawStep ?_
        refine optX_of (c := [[116, 114, 117, 101], [102, 97, 108, 115, 101], [110, 111, 116, 32], [32, 97, 110, 100, 32], [32, 111, 114, 32], [32, 45, 62, 32], [32, 60, 45, 62, 32], [101, 120, 32], [97, 108, 108, 32], [32, 60, 61, 32], [32, 60, 32], [32, 62, 61, 32], [32, 62, 32], [32, 61, 32], [32, 33, 61, 32], [32, 126, 32]].map AV.str) (by kernel_rfl) ?_
        repeat first | refine opsStep ?_ | refine codeStep ?_ | refine drawStep ?_
        refine SW.drawn rfl (by kernel_rfl) ?_
        repeat first | refine opsStep ?_ | refine codeStep ?_ | refine drawStep ?_
        refine guardE_of hf0 ?_
        repeat first | refine opsStep ?_ | refine codeStep ?_ | refine drawStep ?_
        refine .inl ⟨_, _, [], ha', RdsN_refl _, .inr rfl, none_need, ?_⟩
        repeat first | refine opsStep ?_ | refine codeStep ?_ | refine drawStep ?_
        refine guardE_of (by show 1 + a.tx.length ≤ 9223372036854775807; omega) ?_
        repeat first | refine opsStep ?_ | refine codeStep ?_ | refine drawStep ?_
        refine guardE_of (by show ([40] ++ a.tx).length + (signF 4).length ≤ 9223372036854775807; simp only [List.length_append, List.length_cons, List.length_nil]; omega) ?_
        repeat first | refine opsStep ?_ | refine codeStep ?_ | refine drawStep ?_
        refine guardE_of hf1 ?_
        repeat first | refine opsStep ?_ | refine codeStep ?_ | refine drawStep ?_
        refine .inl ⟨_, _, [], hb', RdsN_refl _, .inr rfl, none_need, ?_⟩
        repeat first | refine opsStep ?_ | refine codeStep ?_ | refine drawStep ?_
        refine guardE_of (by show (([40] ++ a.tx) ++ signF 4).length + b.tx.length ≤ 9223372036854775807; simp only [List.length_append, List.length_cons, List.length_nil]; omega) ?_
        repeat first | refine opsStep ?_ | refine codeStep ?_ | refine drawStep ?_
        refine guardE_of (by show ((([40] ++ a.tx) ++ signF 4) ++ b.tx).length + 1 ≤ 9223372036854775807; simp only [List.length_append, List.length_cons, List.length_nil]; omega) ?_
        repeat first | refine opsStep ?_ | refine codeStep ?_ | refine drawStep ?_
        refine ⟨by kernel_rfl, ?_⟩
        repeat first | refine opsStep ?_ | refine codeStep ?_ | refine drawStep ?_
        exact finV (v' := .str (((([40] ++ a.tx) ++ signF 4) ++ b.tx) ++ [41])) (by kernel_rfl) rfl
      · subst hop
        have htx : FT.tx ⟨5, name, md, tk, [], ak, [a, b]⟩ = ((([40] ++ a.tx) ++ signF 5) ++ b.tx) ++ [41] := by
          rw [FT.tx, joinF]
          simp only [show ¬ ((5 : Int) = 0) by decide, show ¬ ((5 : Int) = 1) by decide, show ¬ ((5 : Int) = 2) by decide, show ¬ ((5 : Int) = 7) by decide, show ¬ ((5 : Int) = 8) by decide, show ((3 : Int) ≤ 5 ∧ (5 : Int) ≤ 6) by decide, if_false, if_true]
          rfl
        rw [htx]
        have hsg := fsign_len 5
        refine Pure.of_sw 92 Tryd.func16 rfl Tryd.ntmps16 (by kernel_rfl) (Nat.le_of_ble_eq_true (by kernel_rfl)) (by simp only [closeds]; exact ⟨fC5_closed 5 name md tk [] ak [a, b], trivial⟩) (by simp only [AV.closed]) ?_
        refine SW.of_vc ?_
        repeat first | refine opsStep ?_ | refine codeStep ?_ | refine drawStep ?_
        refine optX_of (c := [[116, 114, 117, 101], [102, 97, 108, 115, 101], [110, 111, 116, 32], [32, 97, 110, 100, 32], [32, 111, 114, 32], [32, 45, 62, 32], [32, 60, 45, 62, 32], [101, 120, 32], [97, 108, 108, 32], [32, 60, 61, 32], [32, 60, 32], [32, 62, 61, 32], [32, 62, 32], [32, 61, 32], [32, 33, 61, 32], [32, 126, 32]].map AV.str) (by kernel_rfl) ?_
        repeat first | refine opsStep ?_ | refine codeStep ?_ | refine drawStep ?_
        refine SW.drawn rfl (by kernel_rfl) ?_
        repeat first | refine opsStep ?_ | refine codeStep ?_ | refine drawStep ?_
        refine guardE_of hf0 ?_
        repeat first | refine opsStep ?_ | refine codeStep ?_ | refine drawStep ?_
        refine .inl ⟨_, _, [], ha', RdsN_refl _, .inr rfl, none_need, ?_⟩
        repeat first | refine opsStep ?_ | refine codeStep ?_ | refine drawStep ?_
        refine guardE_of (by show 1 + a.tx.length ≤ 9223372036854775807; omega) ?_
        repeat first | refine opsStep ?_ | refine codeStep ?_ | refine drawStep ?_
        refine guardE_of (by show ([40] ++ a.tx).length + (signF 5).length ≤ 9223372036854775807; simp only [List.length_append, List.length_cons, List.length_nil]; omega) ?_
        repeat first | refine opsStep ?_ | refine codeStep ?_ | refine drawStep ?_
        refine guardE_of hf1 ?_
        repeat first | refine opsStep ?_ | refine codeStep ?_ | refine drawStep ?_
        refine .inl ⟨_, _, [], hb', RdsN_refl _, .inr rfl, none_need, ?_⟩
        repeat first | refine opsStep ?_ | refine codeStep ?_ | refine drawStep ?_
        refine guardE_of (by show (([40] ++ a.tx) ++ signF 5).length + b.tx.length ≤ 9223372036854775807; simp only [List.length_append, List.length_cons, List.length_nil]; omega) ?_
        repeat first | refine opsStep ?_ | refine codeStep ?_ | refine drawStep ?_
        refine guardE_of (by show ((([40] ++ a.tx) ++ signF 5) ++ b.tx).length + 1 ≤ 9223372036854775807; simp only [List.length_append, List.length_cons, List.length_nil]; omega) ?_
        repeat first | refine opsStep ?_ | refine codeStep ?_ | refine drawStep ?_
        refine ⟨by kernel_rfl, ?_⟩
        repeat first | refine opsStep ?_ | refine codeStep ?_ | refine drawStep ?_
        exact finV (v' := .str (((([40] ++ a.tx) ++ signF 5) ++ b.tx) ++ [41])) (by kernel_rfl) rfl
      · subst hop
        have htx : FT.tx ⟨6, name, md, tk, [], ak, [a, b]⟩ = ((([40] ++ a.tx) ++ signF 6) ++ b.tx) ++ [41] := by
          rw [FT.tx, joinF]
          simp only [show ¬ ((6 : Int) = 0) by decide, show ¬ ((6 : Int) = 1) by decide, show ¬ ((6 : Int) = 2) by decide, show ¬ ((6 : Int) = 7) by decide, show ¬ ((6 : Int) = 8) by decide, show ((3 : Int) ≤ 6 ∧ (6 : Int) ≤ 6) by decide, if_false, if_true]
          rfl
        rw [htx]
        have hsg := fsign_len 6
        refine Pure.of_sw 92 Tryd.func16 rfl Tryd.ntmps16 (by kernel_rfl) (Nat.le_of_ble_eq_true (by kernel_rfl)) (by simp only [closeds]; exact ⟨fC5_closed 6 name md tk [] ak [a, b], trivial⟩) (by simp only [AV.closed]) ?_
        refine SW.of_vc ?_
        repeat first | refine opsStep ?_ | refine codeStep ?_ | refine drawStep ?_
        refine optX_of (c := [[116, 114, 117, 101], [102, 97, 108, 115, 101], [110, 111, 116, 32], [32, 97, 110, 100, 32], [32, 111, 114, 32], [32, 45, 62, 32], [32, 60, 45, 62, 32], [101, 120, 32], [97, 108, 108, 32], [32, 60, 61, 32], [32, 60, 32], [32, 62, 61, 32], [32, 62, 32], [32, 61, 32], [32, 33, 61, 32], [32, 126, 32]].map AV.str) (by kernel_rfl) ?_
        repeat first | refine opsStep ?_ | refine codeStep ?_ | refine drawStep ?_
        refine SW.drawn rfl (by kernel_rfl) ?_
        repeat first | refine opsStep ?_ | refine codeStep ?_ | refine drawStep ?_
        refine guardE_of hf0 ?_
        repeat first | refine opsStep ?_ | refine codeStep ?_ | refine drawStep ?_
        refine .inl ⟨_, _, [], ha', RdsN_refl _, .inr rfl, none_need, ?_⟩
        repeat first | refine opsStep ?_ | refine codeStep ?_ | refine drawStep ?_
        refine guardE_of (by show 1 + a.tx.length ≤ 9223372036854775807; omega) ?_
        repeat first | refine opsStep ?_ | refine codeStep ?_ | refine drawStep ?_
        refine guardE_of (by show ([40] ++ a.tx).length + (signF 6).length ≤ 9223372036854775807; simp only [List.length_append, List.length_cons, List.length_nil]; omega) ?_
        repeat first | refine opsStep ?_ | refine codeStep ?_ | refine drawStep ?_
        refine guardE_of hf1 ?_
        repeat first | refine opsStep ?_ | refine codeStep ?_ | refine drawStep ?_
        refine .inl ⟨_, _, [], hb', RdsN_refl _, .inr rfl, none_need, ?_⟩
        repeat first | refine opsStep ?_ | refine codeStep ?_ | refine drawStep ?_
        refine guardE_of (by show (([40] ++ a.tx) ++ signF 6).length + b.tx.length ≤ 9223372036854775807; simp only [List.length_append, List.length_cons, List.length_nil]; omega) ?_
        repeat first | refine opsStep ?_ | refine codeStep ?_ | refine drawStep ?_
        refine guardE_of (by show ((([40] ++ a.tx) ++ signF 6) ++ b.tx).length + 1 ≤ 9223372036854775807; simp only [List.length_append, List.length_cons, List.length_nil]; omega) ?_
        repeat first | refine opsStep ?_ | refine codeStep ?_ | refine drawStep ?_
        refine ⟨by kernel_rfl, ?_⟩
        repeat first | refine opsStep ?_ | refine codeStep ?_ | refine drawStep ?_
        exact finV (v' := .str (((([40] ++ a.tx) ++ signF 6) ++ b.tx) ++ [41])) (by kernel_rfl) rfl
    · rw [ftsNodes, ftsNodes] at hn
      rw [ftsOk] at hao
      rw [ftsRight] at har
      have ha' := ih a (by omega) (by omega) har.1 hao.1
      have la := FT.tx_small hao.1 (by omega : a.nodes ≤ 500)
      have hf0 : 5 ≤ ((ftsC [a]).drop ((0 : Int).toNat * 5)).length := by rw [List.length_drop, ftsC_len]; simp
      rw [← fcell_a a []] at ha'
      rcases hop with hop | hop
      · subst hop
        have htx : FT.tx ⟨7, name, md, tk, [], ak, [a]⟩ = (([101, 120, 32] ++ name) ++ [46, 32]) ++ a.tx := by
          rw [FT.tx, joinF]
          simp only [show ¬ ((7 : Int) = 0) by decide, show ¬ ((7 : Int) = 1) by decide, show ¬ ((7 : Int) = 2) by decide, show ¬ ((8 : Int) = 7) by decide, if_false, if_true]
          rfl
        rw [htx]
        refine Pure.of_sw 92 Tryd.func16 rfl Tryd.ntmps16 (by kernel_rfl) (Nat.le_of_ble_eq_true (by kernel_rfl)) (by simp only [closeds]; exact ⟨fC5_closed 7 name md tk [] ak [a], trivial⟩) (by simp only [AV.closed]) ?_
        refine SW.of_vc ?_
        repeat first | refine opsStep ?_ | refine codeStep ?_ | refine drawStep ?_
        refine optX_of (c := [[116, 114, 117, 101], [102, 97, 108, 115, 101], [110, 111, 116, 32], [32, 97, 110, 100, 32], [32, 111, 114, 32], [32, 45, 62, 32], [32, 60, 45, 62, 32], [101, 120, 32], [97, 108, 108, 32], [32, 60, 61, 32], [32, 60, 32], [32, 62, 61, 32], [32, 62, 32], [32, 61, 32], [32, 33, 61, 32], [32, 126, 32]].map AV.str) (by kernel_rfl) ?_
        repeat first | refine opsStep ?_ | refine codeStep ?_ | refine drawStep ?_
        refine SW.drawn rfl (by kernel_rfl) ?_
        repeat first | refine opsStep ?_ | refine codeStep ?_ | refine drawStep ?_
        refine guardE_of (by show 3 + name.length ≤ 9223372036854775807; omega) ?_
        repeat first | refine opsStep ?_ | refine codeStep ?_ | refine drawStep ?_
        refine guardE_of (by show ([101, 120, 32] ++ name).length + 2 ≤ 9223372036854775807; simp only [List.length_append, List.length_cons, List.length_nil]; omega) ?_
        repeat first | refine opsStep ?_ | refine codeStep ?_ | refine drawStep ?_
        refine guardE_of hf0 ?_
        repeat first | refine opsStep ?_ | refine codeStep ?_ | refine drawStep ?_
        refine .inl ⟨_, _, [], ha', RdsN_refl _, .inr rfl, none_need, ?_⟩
        repeat first | refine opsStep ?_ | refine codeStep ?_ | refine drawStep ?_
        refine guardE_of (by show (([101, 120, 32] ++ name) ++ [46, 32]).length + a.tx.length ≤ 9223372036854775807; simp only [List.length_append, List.length_cons, List.length_nil]; omega) ?_
        repeat first | refine opsStep ?_ | refine codeStep ?_ | refine drawStep ?_
        refine ⟨by kernel_rfl, ?_⟩
        repeat first | refine opsStep ?_ | refine codeStep ?_ | refine drawStep ?_
        exact finV (v' := .str ((([101, 120, 32] ++ name) ++ [46, 32]) ++ a.tx)) (by kernel_rfl) rfl
      · subst hop
        have htx : FT.tx ⟨8, name, md, tk, [], ak, [a]⟩ = (([97, 108, 108, 32] ++ name) ++ [46, 32]) ++ a.tx := by
          rw [FT.tx, joinF]
          simp only [show ¬ ((8 : Int) = 0) by decide, show ¬ ((8 : Int) = 1) by decide, show ¬ ((8 : Int) = 2) by decide, show ¬ ((8 : Int) = 7) by decide, if_false, if_true]
          rfl
        rw [htx]
        refine Pure.of_sw 92 Tryd.func16 rfl Tryd.ntmps16 (by kernel_rfl) (Nat.le_of_ble_eq_true (by kernel_rfl)) (by simp only [closeds]; exact ⟨fC5_closed 8 name md tk [] ak [a], trivial⟩) (by simp only [AV.closed]) ?_
        refine SW.of_vc ?_
        repeat first | refine opsStep ?_ | refine codeStep ?_ | refine drawStep ?_
        refine optX_of (c := [[116, 114, 117, 101], [102, 97, 108, 115, 101], [110, 111, 116, 32], [32, 97, 110, 100, 32], [32, 111, 114, 32], [32, 45, 62, 32], [32, 60, 45, 62, 32], [101, 120, 32], [97, 108, 108, 32], [32, 60, 61, 32], [32, 60, 32], [32, 62, 61, 32], [32, 62, 32], [32, 61, 32], [32, 33, 61, 32], [32, 126, 32]].map AV.str) (by kernel_rfl) ?_
        repeat first | refine opsStep ?_ | refine codeStep ?_ | refine drawStep ?_
        refine SW.drawn rfl (by kernel_rfl) ?_
        repeat first | refine opsStep ?_ | refine codeStep ?_ | refine drawStep ?_
        refine guardE_of (by show 4 + name.length ≤ 9223372036854775807; omega) ?_
        repeat first | refine opsStep ?_ | refine codeStep ?_ | refine drawStep ?_
        refine guardE_of (by show ([97, 108, 108, 32] ++ name).length + 2 ≤ 9223372036854775807; simp only [List.length_append, List.length_cons, List.length_nil]; omega) ?_
        repeat first | refine opsStep ?_ | refine codeStep ?_ | refine drawStep ?_
        refine guardE_of hf0 ?_
        repeat first | refine opsStep ?_ | refine codeStep ?_ | refine drawStep ?_
        refine .inl ⟨_, _, [], ha', RdsN_refl _, .inr rfl, none_need, ?_⟩
        repeat first | refine opsStep ?_ | refine codeStep ?_ | refine drawStep ?_
        refine guardE_of (by show (([97, 108, 108, 32] ++ name) ++ [46, 32]).length + a.tx.length ≤ 9223372036854775807; simp only [List.length_append, List.length_cons, List.length_nil]; omega) ?_
        repeat first | refine opsStep ?_ | refine codeStep ?_ | refine drawStep ?_
        refine ⟨by kernel_rfl, ?_⟩
        repeat first | refine opsStep ?_ | refine codeStep ?_ | refine drawStep ?_
        exact finV (v' := .str ((([97, 108, 108, 32] ++ name) ++ [46, 32]) ++ a.tx)) (by kernel_rfl) rfl
    · rw [ttsNodes, ttsNodes, ttsNodes] at hn
      rw [ttsOk, ttsOk] at hto
      rw [ttsRight, ttsRight] at htr
      have ha' := r08Term _ a (Nat.le_refl _) (by omega) htr.1 hto.1
      have hb' := r08Term _ b (Nat.le_refl _) (by omega) htr.2.1 hto.2.1
      have la := TT.tx_small hto.1 (by omega : a.nodes ≤ 500)
      have lb := TT.tx_small hto.2.1 (by omega : b.nodes ≤ 500)
      have hf0 : 4 ≤ ((ttsC [a, b]).drop ((0 : Int).toNat * 4)).length := by rw [List.length_drop, ttsC_len]; simp
      have hf1 : 4 ≤ ((ttsC [a, b]).drop ((1 : Int).toNat * 4)).length := by rw [List.length_drop, ttsC_len]; simp
      rw [← cell_a a [b]] at ha'
      rw [← cell_b a b []] at hb'
      rcases hop with hop | hop | hop | hop | hop | hop
      · subst hop
        have htx : FT.tx ⟨9, name, md, tk, [a, b], ak, []⟩ = (a.tx ++ signF 9) ++ b.tx := by
          rw [FT.tx, joinF]
          simp only [show ¬ ((9 : Int) = 0) by decide, show ¬ ((9 : Int) = 1) by decide, show ¬ ((9 : Int) = 2) by decide, show ¬ ((9 : Int) = 7) by decide, show ¬ ((9 : Int) = 8) by decide, show ¬ ((3 : Int) ≤ 9 ∧ (9 : Int) ≤ 6) by decide, show ¬ ((9 : Int) = 15) by decide, if_false]
          rfl
        rw [htx]
        have hsg := fsign_len 9
        refine Pure.of_sw 92 Tryd.func16 rfl Tryd.ntmps16 (by kernel_rfl) (Nat.le_of_ble_eq_true (by kernel_rfl)) (by simp only [closeds]; exact ⟨fC5_closed 9 name md tk [a, b] ak [], trivial⟩) (by simp only [AV.closed]) ?_
        refine SW.of_vc ?_
        repeat first | refine opsStep ?_ | refine codeStep ?_ | refine drawStep ?_
        refine optX_of (c := [[116, 114, 117, 101], [102, 97, 108, 115, 101], [110, 111, 116, 32], [32, 97, 110, 100, 32], [32, 111, 114, 32], [32, 45, 62, 32], [32, 60, 45, 62, 32], [101, 120, 32], [97, 108, 108, 32], [32, 60, 61, 32], [32, 60, 32], [32, 62, 61, 32], [32, 62, 32], [32, 61, 32], [32, 33, 61, 32], [32, 126, 32]].map AV.str) (by kernel_rfl) ?_
        repeat first | refine opsStep ?_ | refine codeStep ?_ | refine drawStep ?_
        refine SW.drawn rfl (by kernel_rfl) ?_
        repeat first | refine opsStep ?_ | refine codeStep ?_ | refine drawStep ?_
        refine guardE_of hf0 ?_
        repeat first | refine opsStep ?_ | refine codeStep ?_ | refine drawStep ?_
        refine .inl ⟨_, _, [], ha', RdsN_refl _, .inr rfl, none_need, ?_⟩
        repeat first | refine opsStep ?_ | refine codeStep ?_ | refine drawStep ?_
        refine guardE_of (by show a.tx.length + (signF 9).length ≤ 9223372036854775807; omega) ?_
        repeat first | refine opsStep ?_ | refine codeStep ?_ | refine drawStep ?_
        refine guardE_of hf1 ?_
        repeat first | refine opsStep ?_ | refine codeStep ?_ | refine drawStep ?_
        refine .inl ⟨_, _, [], hb', RdsN_refl _, .inr rfl, none_need, ?_⟩
        repeat first | refine opsStep ?_ | refine codeStep ?_ | refine drawStep ?_
        refine guardE_of (by show (a.tx ++ signF 9).length + b.tx.length ≤ 9223372036854775807; simp only [List.length_append]; omega) ?_
        repeat first | refine opsStep ?_ | refine codeStep ?_ | refine drawStep ?_
        refine ⟨by kernel_rfl, ?_⟩
        repeat first | refine opsStep ?_ | refine codeStep ?_ | refine drawStep ?_
        exact finV (v' := .str ((a.tx ++ signF 9) ++ b.tx)) (by kernel_rfl) rfl
      · subst hop
        have htx : FT.tx ⟨10, name, md, tk, [a, b], ak, []⟩ = (a.tx ++ signF 10) ++ b.tx := by
          rw [FT.tx, joinF]
          simp only [show ¬ ((10 : Int) = 0) by decide, show ¬ ((10 : Int) = 1) by decide, show ¬ ((10 : Int) = 2) by decide, show ¬ ((10 : Int) = 7) by decide, show ¬ ((10 : Int) = 8) by decide, show ¬ ((3 : Int) ≤ 10 ∧ (10 : Int) ≤ 6) by decide, show ¬ ((10 : Int) = 15) by decide, if_false]
          rfl
        rw [htx]
        have hsg := fsign_len 10
        refine Pure.of_sw 92 Tryd.func16 rfl Tryd.ntmps16 (by kernel_rfl) (Nat.le_of_ble_eq_true (by kernel_rfl)) (by simp only [closeds]; exact ⟨fC5_closed 10 name md tk [a, b] ak [], trivial⟩) (by simp only [AV.closed]) ?_
        refine SW.of_vc ?_
        repeat first | refine opsStep ?_ | refine codeStep ?_ | refine drawStep ?_
        refine optX_of (c := [[116, 114, 117, 101], [102, 97, 108, 115, 101], [110, 111, 116, 32], [32, 97, 110, 100, 32], [32, 111, 114, 32], [32, 45, 62, 32], [32, 60, 45, 62, 32], [101, 120, 32], [97, 108, 108, 32], [32, 60, 61, 32], [32, 60, 32], [32, 62, 61, 32], [32, 62, 32], [32, 61, 32], [32, 33, 61, 32], [32, 126, 32]].map AV.str) (by kernel_rfl) ?_
        repeat first | refine opsStep ?_ | refine codeStep ?_ | refine drawStep ?_
        refine SW.drawn rfl (by kernel_rfl) ?_
        repeat first | refine opsStep ?_ | refine codeStep ?_ | refine drawStep ?_
        refine guardE_of hf0 ?_
        repeat first | refine opsStep ?_ | refine codeStep ?_ | refine drawStep ?_
        refine .inl ⟨_, _, [], ha', RdsN_refl _, .inr rfl, none_need, ?_⟩
        repeat first | refine opsStep ?_ | refine codeStep ?_ | refine drawStep ?_
        refine guardE_of (by show a.tx.length + (signF 10).length ≤ 9223372036854775807; omega) ?_
        repeat first | refine opsStep ?_ | refine codeStep ?_ | refine drawStep ?_
        refine guardE_of hf1 ?_
        repeat first | refine opsStep ?_ | refine codeStep ?_ | refine drawStep ?_
        refine .inl ⟨_, _, [], hb', RdsN_refl _, .inr rfl, none_need, ?_⟩
        repeat first | refine opsStep ?_ | refine codeStep ?_ | refine drawStep ?_
        refine guardE_of (by show (a.tx ++ signF 10).length + b.tx.length ≤ 9223372036854775807; simp only [List.length_append]; omega) ?_
        repeat first | refine opsStep ?_ | refine codeStep ?_ | refine drawStep ?_
        refine ⟨by kernel_rfl, ?_⟩
        repeat first | refine opsStep ?_ | refine codeStep ?_ | refine drawStep ?_
        exact finV (v' := .str ((a.tx ++ signF 10) ++ b.tx)) (by kernel_rfl) rfl
      · subst hop
        have htx : FT.tx ⟨11, name, md, tk, [a, b], ak, []⟩ = (a.tx ++ signF 11) ++ b.tx := by
          rw [FT.tx, joinF]
          simp only [show ¬ ((11 : Int) = 0) by decide, show ¬ ((11 : Int) = 1) by decide, show ¬ ((11 : Int) = 2) by decide, show ¬ ((11 : Int) = 7) by decide, show ¬ ((11 : Int) = 8) by decide, show ¬ ((3 : Int) ≤ 11 ∧ (11 : Int) ≤ 6) by decide, show ¬ ((11 : Int) = 15) by decide, if_false]
          rfl
        rw [htx]
        have hsg := fsign_len 11
        refine Pure.of_sw 92 Tryd.func16 rfl Tryd.ntmps16 (by kernel_rfl) (Nat.le_of_ble_eq_true (by kernel_rfl)) (by simp only [closeds]; exact ⟨fC5_closed 11 name md tk [a, b] ak [], trivial⟩) (by simp only [AV.closed]) ?_
        refine SW.of_vc ?_
        repeat first | refine opsStep ?_ | refine codeStep ?_ | refine drawStep ?_
        refine optX_of (c := [[116, 114, 117, 101], [102, 97, 108, 115, 101], [110, 111, 116, 32], [32, 97, 110, 100, 32], [32, 111, 114, 32], [32, 45, 62, 32], [32, 60, 45, 62, 32], [101, 120, 32], [97, 108, 108, 32], [32, 60, 61, 32], [32, 60, 32], [32, 62, 61, 32], [32, 62, 32], [32, 61, 32], [32, 33, 61, 32], [32, 126, 32]].map AV.str) (by kernel_rfl) ?_
        repeat first | refine opsStep ?_ | refine codeStep ?_ | refine drawStep ?_
        refine SW.drawn rfl (by kernel_rfl) ?_
        repeat first | refine opsStep ?_ | refine codeStep ?_ | refine drawStep ?_
        refine guardE_of hf0 ?_
        repeat first | refine opsStep ?_ | refine codeStep ?_ | refine drawStep ?_
        refine .inl ⟨_, _, [], ha', RdsN_refl _, .inr rfl, none_need, ?_⟩
        repeat first | refine opsStep ?_ | refine codeStep ?_ | refine drawStep ?_
        refine guardE_of (by show a.tx.length + (signF 11).length ≤ 9223372036854775807; omega) ?_
        repeat first | refine opsStep ?_ | refine codeStep ?_ | refine drawStep ?_
        refine guardE_of hf1 ?_
        repeat first | refine opsStep ?_ | refine codeStep ?_ | refine drawStep ?_
        refine .inl ⟨_, _, [], hb', RdsN_refl _, .inr rfl, none_need, ?_⟩
        repeat first | refine opsStep ?_ | refine codeStep ?_ | refine drawStep ?_
        refine guardE_of (by show (a.tx ++ signF 11).length + b.tx.length ≤ 9223372036854775807; simp only [List.length_append]; omega) ?_
        repeat first | refine opsStep ?_ | refine codeStep ?_ | refine drawStep ?_
        refine ⟨by kernel_rfl, ?_⟩
        repeat first | refine opsStep ?_ | refine codeStep ?_ | refine drawStep ?_
        exact finV (v' := .str ((a.tx ++ signF 11) ++ b.tx)) (by kernel_rfl) rfl
      · subst hop
        have htx : FT.tx ⟨12, name, md, tk, [a, b], ak, []⟩ = (a.tx ++ signF 12) ++ b.tx := by
          rw [FT.tx, joinF]
          simp only [show ¬ ((12 : Int) = 0) by decide, show ¬ ((12 : Int) = 1) by decide, show ¬ ((12 : Int) = 2) by decide, show ¬ ((12 : Int) = 7) by decide, show ¬ ((12 : Int) = 8) by decide, show ¬ ((3 : Int) ≤ 12 ∧ (12 : Int) ≤ 6) by decide, show ¬ ((12 : Int) = 15) by decide, if_false]
          rfl
        rw [htx]
        have hsg := fsign_len 12
        refine Pure.of_sw 92 Tryd.func16 rfl Tryd.ntmps16 (by kernel_rfl) (Nat.le_of_ble_eq_true (by kernel_rfl)) (by simp only [closeds]; exact ⟨fC5_closed 12 name md tk [a, b] ak [], trivial⟩) (by simp only [AV.closed]) ?_
        refine SW.of_vc ?_
        repeat first | refine opsStep ?_ | refine codeStep ?_ | refine drawStep ?_
        refine optX_of (c := [[116, 114, 117, 101], [102, 97, 108, 115, 101], [110, 111, 116, 32], [32, 97, 110, 100, 32], [32, 111, 114, 32], [32, 45, 62, 32], [32, 60, 45, 62, 32], [101, 120, 32], [97, 108, 108, 32], [32, 60, 61, 32], [32, 60, 32], [32, 62, 61, 32], [32, 62, 32], [32, 61, 32], [32, 33, 61, 32], [32, 126, 32]].map AV.str) (by kernel_rfl) ?_
        repeat first | refine opsStep ?_ | refine codeStep ?_ | refine drawStep ?_
        refine SW.drawn rfl (by kernel_rfl) ?_
        repeat first | refine opsStep ?_ | refine codeStep ?_ | refine drawStep ?_
        refine guardE_of hf0 ?_
        repeat first | refine opsStep ?_ | refine codeStep ?_ | refine drawStep ?_
        refine .inl ⟨_, _, [], ha', RdsN_refl _, .inr rfl, none_need, ?_⟩
        repeat first | refine opsStep ?_ | refine codeStep ?_ | refine drawStep ?_
        refine guardE_of (by show a.tx.length + (signF 12).length ≤ 9223372036854775807; omega) ?_
        repeat first | refine opsStep ?_ | refine codeStep ?_ | refine drawStep ?_
        refine guardE_of hf1 ?_
        repeat first | refine opsStep ?_ | refine codeStep ?_ | refine drawStep ?_
        refine .inl ⟨_, _, [], hb', RdsN_refl _, .inr rfl, none_need, ?_⟩
        repeat first | refine opsStep ?_ | refine codeStep ?_ | refine drawStep ?_
        refine guardE_of (by show (a.tx ++ signF 12).length + b.tx.length ≤ 9223372036854775807; simp only [List.length_append]; omega) ?_
        repeat first | refine opsStep ?_ | refine codeStep ?_ | refine drawStep ?_
        refine ⟨by kernel_rfl, ?_⟩
        repeat first | refine opsStep ?_ | refine codeStep ?_ | refine drawStep ?_
        exact finV (v' := .str ((a.tx ++ signF 12) ++ b.tx)) (by kernel_rfl) rfl
      · subst hop
        have htx : FT.tx ⟨13, name, md, tk, [a, b], ak, []⟩ = (a.tx ++ signF 13) ++ b.tx := by
          rw [FT.tx, joinF]
          simp only [show ¬ ((13 : Int) = 0) by decide, show ¬ ((13 : Int) = 1) by decide, show ¬ ((13 : Int) = 2) by decide, show ¬ ((13 : Int) = 7) by decide, show ¬ ((13 : Int) = 8) by decide, show ¬ ((3 : Int) ≤ 13 ∧ (13 : Int) ≤ 6) by decide, show ¬ ((13 : Int) = 15) by decide, if_false]
          rfl
        rw [htx]
        have hsg := fsign_len 13
        refine Pure.of_sw 92 Tryd.func16 rfl Tryd.ntmps16 (by kernel_rfl) (Nat.le_of_ble_eq_true (by kernel_rfl)) (by simp only [closeds]; exact ⟨fC5_closed 13 name md tk [a, b] ak [], trivial⟩) (by simp only [AV.closed]) ?_
        refine SW.of_vc ?_
        repeat first | refine opsStep ?_ | refine codeStep ?_ | refine drawStep ?_
        refine optX_of (c := [[116, 114, 117, 101], [102, 97, 108, 115, 101], [110, 111, 116, 32], [32, 97, 110, 100, 32], [32, 111, 114, 32], [32, 45, 62, 32], [32, 60, 45, 62, 32], [101, 120, 32], [97, 108, 108, 32], [32, 60, 61, 32], [32, 60, 32], [32, 62, 61, 32], [32, 62, 32], [32, 61, 32], [32, 33, 61, 32], [32, 126, 32]].map AV.str) (by kernel_rfl) ?_
        repeat first | refine opsStep ?_ | refine codeStep ?_ | refine drawStep ?_
        refine SW.drawn rfl (by kernel_rfl) ?_
        repeat first | refine opsStep ?_ | refine codeStep ?_ | refine drawStep ?_
        refine guardE_of hf0 ?_
        repeat first | refine opsStep ?_ | refine codeStep ?_ | refine drawStep ?_
        refine .inl ⟨_, _, [], ha', RdsN_refl _, .inr rfl, none_need, ?_⟩
        repeat first | refine opsStep ?_ | refine codeStep ?_ | refine drawStep ?_
        refine guardE_of (by show a.tx.length + (signF 13).length ≤ 9223372036854775807; omega) ?_
        repeat first | refine opsStep ?_ | refine codeStep ?_ | refine drawStep ?_
        refine guardE_of hf1 ?_
        repeat first | refine opsStep ?_ | refine codeStep ?_ | refine drawStep ?_
        refine .inl ⟨_, _, [], hb', RdsN_refl _, .inr rfl, none_need, ?_⟩
        repeat first | refine opsStep ?_ | refine codeStep ?_ | refine drawStep ?_
        refine guardE_of (by show (a.tx ++ signF 13).length + b.tx.length ≤ 9223372036854775807; simp only [List.length_append]; omega) ?_
        repeat first | refine opsStep ?_ | refine codeStep ?_ | refine drawStep ?_
        refine ⟨by kernel_rfl, ?_⟩
        repeat first | refine opsStep ?_ | refine codeStep ?_ | refine drawStep ?_
        exact finV (v' := .str ((a.tx ++ signF 13) ++ b.tx)) (by kernel_rfl) rfl
      · subst hop
        have htx : FT.tx ⟨14, name, md, tk, [a, b], ak, []⟩ = (a.tx ++ signF 14) ++ b.tx := by
          rw [FT.tx, joinF]
          simp only [show ¬ ((14 : Int) = 0) by decide, show ¬ ((14 : Int) = 1) by decide, show ¬ ((14 : Int) = 2) by decide, show ¬ ((14 : Int) = 7) by decide, show ¬ ((14 : Int) = 8) by decide, show ¬ ((3 : Int) ≤ 14 ∧ (14 : Int) ≤ 6) by decide, show ¬ ((14 : Int) = 15) by decide, if_false]
          rfl
        rw [htx]
        have hsg := fsign_len 14
        refine Pure.of_sw 92 Tryd.func16 rfl Tryd.ntmps16 (by kernel_rfl) (Nat.le_of_ble_eq_true (by kernel_rfl)) (by simp only [closeds]; exact ⟨fC5_closed 14 name md tk [a, b] ak [], trivial⟩) (by simp only [AV.closed]) ?_
        refine SW.of_vc ?_
        repeat first | refine opsStep ?_ | refine codeStep ?_ | refine drawStep ?_
        refine optX_of (c := [[116, 114, 117, 101], [102, 97, 108, 115, 101], [110, 111, 116, 32], [32, 97, 110, 100, 32], [32, 111, 114, 32], [32, 45, 62, 32], [32, 60, 45, 62, 32], [101, 120, 32], [97, 108, 108, 32], [32, 60, 61, 32], [32, 60, 32], [32, 62, 61, 32], [32, 62, 32], [32, 61, 32], [32, 33, 61, 32], [32, 126, 32]].map AV.str) (by kernel_rfl) ?_
        repeat first | refine opsStep ?_ | refine codeStep ?_ | refine drawStep ?_
        refine SW.drawn rfl (by kernel_rfl) ?_
        repeat first | refine opsStep ?_ | refine codeStep ?_ | refine drawStep ?_
        refine guardE_of hf0 ?_
        repeat first | refine opsStep ?_ | refine codeStep ?_ | refine drawStep ?_
        refine .inl ⟨_, _, [], ha', RdsN_refl _, .inr rfl, none_need, ?_⟩
        repeat first | refine opsStep ?_ | refine codeStep ?_ | refine drawStep ?_
        refine guardE_of (by show a.tx.length + (signF 14).length ≤ 9223372036854775807; omega) ?_
        repeat first | refine opsStep ?_ | refine codeStep ?_ | refine drawStep ?_
        refine guardE_of hf1 ?_
        repeat first | refine opsStep ?_ | refine codeStep ?_ | refine drawStep ?_
        refine .inl ⟨_, _, [], hb', RdsN_refl _, .inr rfl, none_need, ?_⟩
        repeat first | refine opsStep ?_ | refine codeStep ?_ | refine drawStep ?_
        refine guardE_of (by show (a.tx ++ signF 14).length + b.tx.length ≤ 9223372036854775807; simp only [List.length_append]; omega) ?_
        repeat first | refine opsStep ?_ | refine codeStep ?_ | refine drawStep ?_
        refine ⟨by kernel_rfl, ?_⟩
        repeat first | refine opsStep ?_ | refine codeStep ?_ | refine drawStep ?_
        exact finV (v' := .str ((a.tx ++ signF 14) ++ b.tx)) (by kernel_rfl) rfl
    · rw [ttsNodes, ttsNodes, ttsNodes] at hn
      rw [ttsOk, ttsOk] at hto
      rw [ttsRight, ttsRight] at htr
      have ha' := r08Term _ a (Nat.le_refl _) (by omega) htr.1 hto.1
      have hb' := r08Term _ b (Nat.le_refl _) (by omega) htr.2.1 hto.2.1
      have la := TT.tx_small hto.1 (by omega : a.nodes ≤ 500)
      have lb := TT.tx_small hto.2.1 (by omega : b.nodes ≤ 500)
      have hf0 : 4 ≤ ((ttsC [a, b]).drop ((0 : Int).toNat * 4)).length := by rw [List.length_drop, ttsC_len]; simp
      have hf1 : 4 ≤ ((ttsC [a, b]).drop ((1 : Int).toNat * 4)).length := by rw [List.length_drop, ttsC_len]; simp
      rw [← cell_a a [b]] at ha'
      rw [← cell_b a b []] at hb'
      have hfm := r08_Number md.toNat (by have := hmd.2; omega)
      have hfl := dg_lenU 18 md.toNat (by have := hmd.2; omega)
      rw [Int.toNat_of_nonneg (by omega)] at hfm
      have htx : FT.tx ⟨15, name, md, tk, [a, b], ak, []⟩ = (((a.tx ++ [32, 126, 32]) ++ b.tx) ++ [32, 109, 111, 100, 32]) ++ dgL md.toNat := by
        rw [FT.tx, joinF]
        simp only [show ¬ ((15 : Int) = 0) by decide, show ¬ ((15 : Int) = 1) by decide, show ¬ ((15 : Int) = 2) by decide, show ¬ ((15 : Int) = 7) by decide, show ¬ ((15 : Int) = 8) by decide, show ¬ ((3 : Int) ≤ 15 ∧ (15 : Int) ≤ 6) by decide, if_false, if_true]
        rfl
      rw [htx]
      refine Pure.of_sw 92 Tryd.func16 rfl Tryd.ntmps16 (by kernel_rfl) (Nat.le_of_ble_eq_true (by kernel_rfl)) (by simp only [closeds]; exact ⟨fC5_closed 15 name md tk [a, b] ak [], trivial⟩) (by simp only [AV.closed]) ?_
      refine SW.of_vc ?_
      repeat first | refine opsStep ?_ | refine codeStep ?_ | refine drawStep ?_
      refine optX_of (c := [[116, 114, 117, 101], [102, 97, 108, 115, 101], [110, 111, 116, 32], [32, 97, 110, 100, 32], [32, 111, 114, 32], [32, 45, 62, 32], [32, 60, 45, 62, 32], [101, 120, 32], [97, 108, 108, 32], [32, 60, 61, 32], [32, 60, 32], [32, 62, 61, 32], [32, 62, 32], [32, 61, 32], [32, 33, 61, 32], [32, 126, 32]].map AV.str) (by kernel_rfl) ?_
      repeat first | refine opsStep ?_ | refine codeStep ?_ | refine drawStep ?_
      refine SW.drawn rfl (by kernel_rfl) ?_
      repeat first | refine opsStep ?_ | refine codeStep ?_ | refine drawStep ?_
      refine guardE_of hf0 ?_
      repeat first | refine opsStep ?_ | refine codeStep ?_ | refine drawStep ?_
      refine .inl ⟨_, _, [], ha', RdsN_refl _, .inr rfl, none_need, ?_⟩
      repeat first | refine opsStep ?_ | refine codeStep ?_ | refine drawStep ?_
      refine guardE_of (by show a.tx.length + 3 ≤ 9223372036854775807; omega) ?_
      repeat first | refine opsStep ?_ | refine codeStep ?_ | refine drawStep ?_
      refine guardE_of hf1 ?_
      repeat first | refine opsStep ?_ | refine codeStep ?_ | refine drawStep ?_
      refine .inl ⟨_, _, [], hb', RdsN_refl _, .inr rfl, none_need, ?_⟩
      repeat first | refine opsStep ?_ | refine codeStep ?_ | refine drawStep ?_
      refine guardE_of (by show (a.tx ++ [32, 126, 32]).length + b.tx.length ≤ 9223372036854775807; simp only [List.length_append, List.length_cons, List.length_nil]; omega) ?_
      repeat first | refine opsStep ?_ | refine codeStep ?_ | refine drawStep ?_
      refine ⟨by kernel_rfl, ?_⟩
      repeat first | refine opsStep ?_ | refine codeStep ?_ | refine drawStep ?_
      refine callP hfm ?_
      repeat first | refine opsStep ?_ | refine codeStep ?_ | refine drawStep ?_
      refine guardE_of (by show 5 + (dgL md.toNat).length ≤ 9223372036854775807; omega) ?_
      repeat first | refine opsStep ?_ | refine codeStep ?_ | refine drawStep ?_
      refine guardE_of (by show ((a.tx ++ [32, 126, 32]) ++ b.tx).length + ([32, 109, 111, 100, 32] ++ dgL md.toNat).length ≤ 9223372036854775807; simp only [List.length_append, List.length_cons, List.length_nil]; omega) ?_
      repeat first | refine opsStep ?_ | refine codeStep ?_ | refine drawStep ?_
      exact finV (v' := .str (((a.tx ++ [32, 126, 32]) ++ b.tx) ++ ([32, 109, 111, 100, 32] ++ dgL md.toNat))) (by kernel_rfl) (by simp only [List.append_assoc])

end Tab

/- The fixed texts. -/
namespace Tab
open Go Go.Proofs
set_option maxRecDepth 10000
set_option linter.unusedVariables false
set_option linter.unusedSimpArgs false
set_option linter.unusedSectionVars false
set_option maxHeartbeats 1000000

def fxX : TT := .mk 1 0 [120] .nil []
def fxT : TT := .mk 0 10 [] .nil []
def fxL : FT := .mk 9 [] 0 .any [fxX, fxT] .nil []
def fxE : FT := .mk 7 [120] 0 .nil [] .any [fxL]
def fxN : FT := .mk 2 [] 0 .nil [] .nil []
theorem fxX_ok : fxX.ok := by rw [fxX, TT.ok]; exact ⟨by unfold okI6; omega, by unfold okI6; omega, by simp, by simp, by rw [ttsOk]; trivial⟩
theorem fxT_ok : fxT.ok := by rw [fxT, TT.ok]; exact ⟨by unfold okI6; omega, by unfold okI6; omega, by simp, by simp, by rw [ttsOk]; trivial⟩
theorem fxL_ok : fxL.ok := by
  rw [fxL, FT.ok]
  refine ⟨by unfold okI6; omega, by simp, by unfold okI6; omega, by simp, ?_, by simp, by rw [ftsOk]; trivial⟩
  rw [ttsOk, ttsOk, ttsOk]
  exact ⟨fxX_ok, fxT_ok, trivial⟩
theorem fxE_ok : fxE.ok := by
  rw [fxE, FT.ok]
  refine ⟨by unfold okI6; omega, by simp, by unfold okI6; omega, by simp, by rw [ttsOk]; trivial, by simp, ?_⟩
  rw [ftsOk, ftsOk]
  exact ⟨fxL_ok, trivial⟩
theorem fxN_ok : fxN.ok := by
  rw [fxN, FT.ok]
  exact ⟨by unfold okI6; omega, by simp, by unfold okI6; omega, by simp, by rw [ttsOk]; trivial, by simp, by rw [ftsOk]; trivial⟩
theorem fxE_chk : chkF fxE = 0 := by kernel_rfl
theorem fxN_chk : chkF fxN = 3 := by kernel_rfl
theorem fxE_tx : fxE.tx = [101, 120, 32, 120, 46, 32, 120, 32, 60, 61, 32, 49, 48] := by kernel_rfl

theorem law_fixed : Pure Tryd.prog 15 [] (.bool true) := by
  have h1 := show_Formula fxE fxE_ok
  have h2 := show_Formula fxN fxN_ok
  rw [fxE_chk, if_pos rfl, fxE_tx] at h1
  rw [fxN_chk, if_neg (by decide)] at h2
  refine Pure.of_sw 34 Tryd.func15 rfl Tryd.ntmps15 (by kernel_rfl) (Nat.le_of_ble_eq_true (by kernel_rfl)) (by simp [closeds, AV.closed, aSs_closed, aIs_closed, aBs_closed, aRs_closed, aDen_closed]) (by simp [AV.closed, closeds, aSs_closed, aIs_closed, aBs_closed, aRs_closed, aDen_closed]) ?_; refine SW.of_vc ?_
  repeat first | refine opsStep ?_ | refine codeStep ?_ | refine drawStep ?_
  refine optX_of (c := fxX.cells ++ fxT.cells) (by kernel_rfl) ?_
  repeat first | refine opsStep ?_ | refine codeStep ?_ | refine drawStep ?_
  refine callB (args := [.agg fxE.cells]) h1 rfl ?_ ?_
  · refine .cons (.agg ?_) .nil
    refine .cons (.refl _) (.cons (.refl _) (.cons (.refl _) (.cons (.refl _) (.cons ?_ .nil))))
    refine .hs (blk := .cells 0 [.int .i64 9, .str [], .int .i64 0, .hs 0 0 0 2 4, .sl .nil 0 []]) (g := 0) (cs := [.int .i64 9, .str [], .int .i64 0, .hs 0 0 0 2 4, .sl .nil 0 []]) (by kernel_rfl) (by kernel_rfl) (Nat.le_refl 5) ?_
    refine .cons (.refl _) (.cons (.refl _) (.cons (.refl _) (.cons ?_ (.cons (.refl _) .nil))))
    exact Rd.whole (g := 0) (cs := fxX.cells ++ fxT.cells) (by kernel_rfl) (by kernel_rfl)
  repeat first | refine opsStep ?_ | refine codeStep ?_ | refine drawStep ?_
  refine callP h2 ?_
  repeat first | refine opsStep ?_ | refine codeStep ?_ | refine drawStep ?_
  exact finV (v' := .bool true) (by kernel_rfl) (by kernel_rfl)

end Tab

/- Nodes that are well made: of formulas, and by the document. -/
namespace Tab
open Go Go.Proofs
set_option maxRecDepth 10000
set_option linter.unusedVariables false
set_option linter.unusedSimpArgs false
set_option linter.unusedSectionVars false
set_option maxHeartbeats 2000000

theorem r06_wellTerm (t : TT) (hn : t.name.length < 2^62) : Pure Tryd.prog 58 [.agg t.cells] (.bool (goodT t)) := by
  rw [TT.cells_eq]
  rcases t with ⟨op, num, name, k, args⟩
  simp only [TT.op, TT.num, TT.name, TT.k, TT.args] at hn ⊢
  have hL0 : ((args.length : Int) = 0) ↔ args.length = 0 := by omega
  have hL1 : ((args.length : Int) = 1) ↔ args.length = 1 := by omega
  have hL2 : ((args.length : Int) = 2) ↔ args.length = 2 := by omega
  by_cases hr : 0 ≤ op ∧ op ≤ 5
  · rcases (by omega : op = 0 ∨ op = 1 ∨ op = 2 ∨ op = 3 ∨ op = 4 ∨ op = 5) with hop | hop | hop | hop | hop | hop
    · subst hop
      refine Pure.of_sw 54 Tryd.func58 rfl Tryd.ntmps58 (by kernel_rfl) (Nat.le_of_ble_eq_true (by kernel_rfl)) (by simp only [closeds]; exact ⟨tC_closed 0 num name k args, trivial⟩) (by simp only [AV.closed]) ?_
      refine SW.of_vc ?_
      repeat' first | refine opsStep ?_ | refine codeStep ?_ | refine decB_split (fun h => ?_) (fun h => ?_)
      any_goals exact finB rfl (by simp_all [goodT, TT.op, TT.num, TT.name, TT.args] <;> omega)
      refine optX_of (c := [.int .i64 0, .int .i64 0, .int .i64 1, .int .i64 2, .int .i64 2, .int .i64 2]) (by kernel_rfl) ?_
      repeat first | refine opsStep ?_ | refine codeStep ?_ | refine drawStep ?_
      refine SW.drawn rfl (by kernel_rfl) ?_
      repeat' first | refine drawStep ?_ | refine decB_split (fun h => ?_) (fun h => ?_)
      all_goals
        refine ⟨by kernel_rfl, ?_⟩
        repeat first | refine opsStep ?_ | refine codeStep ?_ | refine drawStep ?_
        exact finB rfl (by clear hr; simp only [goodT, TT.op, TT.num, TT.name, TT.args]; by_cases q1 : 0 ≤ num <;> by_cases q2 : num = 0 <;> by_cases q3 : args.length = 0 <;> by_cases q4 : args.length = 1 <;> by_cases q5 : args.length = 2 <;> simp_all <;> first | omega | exact decide_eq_false (by omega))
    · subst hop
      refine Pure.of_sw 54 Tryd.func58 rfl Tryd.ntmps58 (by kernel_rfl) (Nat.le_of_ble_eq_true (by kernel_rfl)) (by simp only [closeds]; exact ⟨tC_closed 1 num name k args, trivial⟩) (by simp only [AV.closed]) ?_
      refine SW.of_vc ?_
      repeat' first | refine opsStep ?_ | refine codeStep ?_ | refine decB_split (fun h => ?_) (fun h => ?_)
      · exact finB rfl (by simp_all [goodT, TT.op, TT.num, TT.name, TT.args])
      refine optX_of (c := [.int .i64 0, .int .i64 0, .int .i64 1, .int .i64 2, .int .i64 2, .int .i64 2]) (by kernel_rfl) ?_
      repeat first | refine opsStep ?_ | refine codeStep ?_ | refine drawStep ?_
      refine SW.drawn rfl (by kernel_rfl) ?_
      repeat' first | refine drawStep ?_ | refine decB_split (fun h => ?_) (fun h => ?_)
      · refine .inl ⟨_, _, [], (r04_Name name hn), RdsN_refl _, .inr rfl, none_need, ?_⟩
        repeat' first | refine drawStep ?_ | refine decB_split (fun h => ?_) (fun h => ?_)
        refine ⟨by kernel_rfl, ?_⟩
        repeat first | refine opsStep ?_ | refine codeStep ?_ | refine drawStep ?_
        exact finB rfl (by clear hr; simp only [goodT, TT.op, TT.num, TT.name, TT.args]; by_cases q1 : 0 ≤ num <;> by_cases q2 : num = 0 <;> by_cases q3 : args.length = 0 <;> simp_all <;> first | omega | exact decide_eq_false (by omega))
      all_goals
        refine ⟨by kernel_rfl, ?_⟩
        repeat first | refine opsStep ?_ | refine codeStep ?_ | refine drawStep ?_
        exact finB rfl (by clear hr; simp only [goodT, TT.op, TT.num, TT.name, TT.args]; by_cases q1 : 0 ≤ num <;> by_cases q2 : num = 0 <;> by_cases q3 : args.length = 0 <;> simp_all <;> first | omega | exact decide_eq_false (by omega))
    · subst hop
      refine Pure.of_sw 54 Tryd.func58 rfl Tryd.ntmps58 (by kernel_rfl) (Nat.le_of_ble_eq_true (by kernel_rfl)) (by simp only [closeds]; exact ⟨tC_closed 2 num name k args, trivial⟩) (by simp only [AV.closed]) ?_
      refine SW.of_vc ?_
      repeat' first | refine opsStep ?_ | refine codeStep ?_ | refine decB_split (fun h => ?_) (fun h => ?_)
      any_goals exact finB rfl (by simp_all [goodT, TT.op, TT.num, TT.name, TT.args] <;> omega)
      refine optX_of (c := [.int .i64 0, .int .i64 0, .int .i64 1, .int .i64 2, .int .i64 2, .int .i64 2]) (by kernel_rfl) ?_
      repeat first | refine opsStep ?_ | refine codeStep ?_ | refine drawStep ?_
      refine SW.drawn rfl (by kernel_rfl) ?_
      repeat' first | refine drawStep ?_ | refine decB_split (fun h => ?_) (fun h => ?_)
      all_goals
        refine ⟨by kernel_rfl, ?_⟩
        repeat first | refine opsStep ?_ | refine codeStep ?_ | refine drawStep ?_
        exact finB rfl (by clear hr; simp only [goodT, TT.op, TT.num, TT.name, TT.args]; by_cases q1 : 0 ≤ num <;> by_cases q2 : num = 0 <;> by_cases q3 : args.length = 0 <;> by_cases q4 : args.length = 1 <;> by_cases q5 : args.length = 2 <;> simp_all <;> first | omega | exact decide_eq_false (by omega))
    · subst hop
      refine Pure.of_sw 54 Tryd.func58 rfl Tryd.ntmps58 (by kernel_rfl) (Nat.le_of_ble_eq_true (by kernel_rfl)) (by simp only [closeds]; exact ⟨tC_closed 3 num name k args, trivial⟩) (by simp only [AV.closed]) ?_
      refine SW.of_vc ?_
      repeat' first | refine opsStep ?_ | refine codeStep ?_ | refine decB_split (fun h => ?_) (fun h => ?_)
      any_goals exact finB rfl (by simp_all [goodT, TT.op, TT.num, TT.name, TT.args] <;> omega)
      refine optX_of (c := [.int .i64 0, .int .i64 0, .int .i64 1, .int .i64 2, .int .i64 2, .int .i64 2]) (by kernel_rfl) ?_
      repeat first | refine opsStep ?_ | refine codeStep ?_ | refine drawStep ?_
      refine SW.drawn rfl (by kernel_rfl) ?_
      repeat' first | refine drawStep ?_ | refine decB_split (fun h => ?_) (fun h => ?_)
      all_goals
        refine ⟨by kernel_rfl, ?_⟩
        repeat first | refine opsStep ?_ | refine codeStep ?_ | refine drawStep ?_
        exact finB rfl (by clear hr; simp only [goodT, TT.op, TT.num, TT.name, TT.args]; by_cases q1 : 0 ≤ num <;> by_cases q2 : num = 0 <;> by_cases q3 : args.length = 0 <;> by_cases q4 : args.length = 1 <;> by_cases q5 : args.length = 2 <;> simp_all <;> first | omega | exact decide_eq_false (by omega))
    · subst hop
      refine Pure.of_sw 54 Tryd.func58 rfl Tryd.ntmps58 (by kernel_rfl) (Nat.le_of_ble_eq_true (by kernel_rfl)) (by simp only [closeds]; exact ⟨tC_closed 4 num name k args, trivial⟩) (by simp only [AV.closed]) ?_
      refine SW.of_vc ?_
      repeat' first | refine opsStep ?_ | refine codeStep ?_ | refine decB_split (fun h => ?_) (fun h => ?_)
      any_goals exact finB rfl (by simp_all [goodT, TT.op, TT.num, TT.name, TT.args] <;> omega)
      refine optX_of (c := [.int .i64 0, .int .i64 0, .int .i64 1, .int .i64 2, .int .i64 2, .int .i64 2]) (by kernel_rfl) ?_
      repeat first | refine opsStep ?_ | refine codeStep ?_ | refine drawStep ?_
      refine SW.drawn rfl (by kernel_rfl) ?_
      repeat' first | refine drawStep ?_ | refine decB_split (fun h => ?_) (fun h => ?_)
      all_goals
        refine ⟨by kernel_rfl, ?_⟩
        repeat first | refine opsStep ?_ | refine codeStep ?_ | refine drawStep ?_
        exact finB rfl (by clear hr; simp only [goodT, TT.op, TT.num, TT.name, TT.args]; by_cases q1 : 0 ≤ num <;> by_cases q2 : num = 0 <;> by_cases q3 : args.length = 0 <;> by_cases q4 : args.length = 1 <;> by_cases q5 : args.length = 2 <;> simp_all <;> first | omega | exact decide_eq_false (by omega))
    · subst hop
      refine Pure.of_sw 54 Tryd.func58 rfl Tryd.ntmps58 (by kernel_rfl) (Nat.le_of_ble_eq_true (by kernel_rfl)) (by simp only [closeds]; exact ⟨tC_closed 5 num name k args, trivial⟩) (by simp only [AV.closed]) ?_
      refine SW.of_vc ?_
      repeat' first | refine opsStep ?_ | refine codeStep ?_ | refine decB_split (fun h => ?_) (fun h => ?_)
      any_goals exact finB rfl (by simp_all [goodT, TT.op, TT.num, TT.name, TT.args] <;> omega)
      refine optX_of (c := [.int .i64 0, .int .i64 0, .int .i64 1, .int .i64 2, .int .i64 2, .int .i64 2]) (by kernel_rfl) ?_
      repeat first | refine opsStep ?_ | refine codeStep ?_ | refine drawStep ?_
      refine SW.drawn rfl (by kernel_rfl) ?_
      repeat' first | refine drawStep ?_ | refine decB_split (fun h => ?_) (fun h => ?_)
      all_goals
        refine ⟨by kernel_rfl, ?_⟩
        repeat first | refine opsStep ?_ | refine codeStep ?_ | refine drawStep ?_
        exact finB rfl (by clear hr; simp only [goodT, TT.op, TT.num, TT.name, TT.args]; by_cases q1 : 0 ≤ num <;> by_cases q2 : num = 0 <;> by_cases q3 : args.length = 0 <;> by_cases q4 : args.length = 1 <;> by_cases q5 : args.length = 2 <;> simp_all <;> first | omega | exact decide_eq_false (by omega))
  · have hg : goodT ⟨op, num, name, k, args⟩ = false := by
      show (if op = 0 then decide (0 ≤ num) && decide (name = []) && decide (args.length = 0)
        else if op = 1 then decide (num = 0) && nameS name && decide (args.length = 0)
        else if op = 2 then decide (num = 0) && decide (name = []) && decide (args.length = 1)
        else if op = 3 ∨ op = 4 ∨ op = 5 then decide (num = 0) && decide (name = []) && decide (args.length = 2)
        else false) = false
      rw [if_neg (by omega), if_neg (by omega), if_neg (by omega), if_neg (by omega)]
    rw [hg]
    refine Pure.of_sw 54 Tryd.func58 rfl Tryd.ntmps58 (by kernel_rfl) (Nat.le_of_ble_eq_true (by kernel_rfl)) (by simp only [closeds]; exact ⟨tC_closed op num name k args, trivial⟩) (by simp only [AV.closed]) ?_
    refine SW.of_vc ?_
    repeat first | refine opsStep ?_ | refine codeStep ?_ | refine drawStep ?_
    refine decB_dec (fun h => ?_) (fun h => ?_)
    · repeat' first | refine opsStep ?_ | refine codeStep ?_ | refine decB_split (fun h => ?_) (fun h => ?_)
      all_goals exact finB (b' := false) rfl rfl
    · have h : ¬ op < 0 := h
      repeat first | refine opsStep ?_ | refine codeStep ?_ | refine drawStep ?_
      refine decB_dec (fun h2 => ?_) (fun h2 => ?_)
      · repeat' first | refine opsStep ?_ | refine codeStep ?_ | refine decB_split (fun h => ?_) (fun h => ?_)
        all_goals exact finB (b' := false) rfl rfl
      · have h2 : ¬ op > 5 := h2
        omega

end Tab

/- Nodes of formulas that are well made, by the document. -/
namespace Tab
open Go Go.Proofs
set_option maxRecDepth 10000
set_option linter.unusedVariables false
set_option linter.unusedSimpArgs false
set_option linter.unusedSectionVars false
set_option maxHeartbeats 4000000

theorem r06_wellMade (f : FT) (hn : f.name.length < 2^62) : Pure Tryd.prog 80 [.agg f.cells] (.bool (goodF f)) := by
  rw [FT.cells_eq]
  rcases f with ⟨op, name, md, tk, terms, ak, args⟩
  simp only [FT.op, FT.name, FT.md, FT.tk, FT.terms, FT.ak, FT.args] at hn ⊢
  have hL0 : ((args.length : Int) = 0) ↔ args.length = 0 := by omega
  have hL1 : ((args.length : Int) = 1) ↔ args.length = 1 := by omega
  have hL2 : ((args.length : Int) = 2) ↔ args.length = 2 := by omega
  have hT0 : ((terms.length : Int) = 0) ↔ terms.length = 0 := by omega
  have hT2 : ((terms.length : Int) = 2) ↔ terms.length = 2 := by omega
  by_cases hr : 0 ≤ op ∧ op ≤ 15
  · rcases (by omega : op = 0 ∨ op = 1 ∨ op = 2 ∨ op = 3 ∨ op = 4 ∨ op = 5 ∨ op = 6 ∨ op = 7 ∨ op = 8 ∨ op = 9 ∨ op = 10 ∨ op = 11 ∨ op = 12 ∨ op = 13 ∨ op = 14 ∨ op = 15) with hop | hop | hop | hop | hop | hop | hop | hop | hop | hop | hop | hop | hop | hop | hop | hop
    · subst hop
      refine Pure.of_sw 73 Tryd.func80 rfl Tryd.ntmps80 (by kernel_rfl) (Nat.le_of_ble_eq_true (by kernel_rfl)) (by simp only [closeds]; exact ⟨fC5_closed 0 name md tk terms ak args, trivial⟩) (by simp only [AV.closed]) ?_
      refine SW.of_vc ?_
      repeat' first | refine opsStep ?_ | refine codeStep ?_ | refine decB_split (fun h => ?_) (fun h => ?_)
      any_goals exact finB rfl (by first | (simp_all [goodF, FT.op, FT.name, FT.md, FT.terms, FT.args]; done) | (clear hr; simp only [goodF, FT.op, FT.name, FT.md, FT.terms, FT.args]; by_cases q1 : name = [] <;> by_cases q2 : md = 0 <;> by_cases q3 : 1 ≤ md <;> by_cases q4 : nameS name = true <;> by_cases q5 : terms = [] <;> by_cases q6 : args = [] <;> simp_all <;> first | rfl | omega | exact decide_eq_false (by omega) | (intro hh; exact absurd (of_decide_eq_true hh) (by omega))))
      refine optX_of (c := [0, 0, 1, 2, 2, 2, 2, 1, 1, 0, 0, 0, 0, 0, 0, 0].map (.int .i64)) (by kernel_rfl) ?_
      repeat first | refine opsStep ?_ | refine codeStep ?_ | refine drawStep ?_
      refine SW.drawn rfl (by kernel_rfl) ?_
      repeat' first | refine drawStep ?_ | refine decB_split (fun h => ?_) (fun h => ?_)
      all_goals
        refine ⟨by kernel_rfl, ?_⟩
        repeat first | refine opsStep ?_ | refine codeStep ?_ | refine drawStep ?_
        exact finB rfl (by first | (simp_all [goodF, FT.op, FT.name, FT.md, FT.terms, FT.args]; done) | (clear hr; simp only [goodF, FT.op, FT.name, FT.md, FT.terms, FT.args]; by_cases q1 : name = [] <;> by_cases q2 : md = 0 <;> by_cases q3 : 1 ≤ md <;> by_cases q4 : nameS name = true <;> by_cases q5 : terms = [] <;> by_cases q6 : args = [] <;> simp_all <;> first | rfl | omega | exact decide_eq_false (by omega) | (intro hh; exact absurd (of_decide_eq_true hh) (by omega))))
    · subst hop
      refine Pure.of_sw 73 Tryd.func80 rfl Tryd.ntmps80 (by kernel_rfl) (Nat.le_of_ble_eq_true (by kernel_rfl)) (by simp only [closeds]; exact ⟨fC5_closed 1 name md tk terms ak args, trivial⟩) (by simp only [AV.closed]) ?_
      refine SW.of_vc ?_
      repeat' first | refine opsStep ?_ | refine codeStep ?_ | refine decB_split (fun h => ?_) (fun h => ?_)
      any_goals exact finB rfl (by first | (simp_all [goodF, FT.op, FT.name, FT.md, FT.terms, FT.args]; done) | (clear hr; simp only [goodF, FT.op, FT.name, FT.md, FT.terms, FT.args]; by_cases q1 : name = [] <;> by_cases q2 : md = 0 <;> by_cases q3 : 1 ≤ md <;> by_cases q4 : nameS name = true <;> by_cases q5 : terms = [] <;> by_cases q6 : args = [] <;> simp_all <;> first | rfl | omega | exact decide_eq_false (by omega) | (intro hh; exact absurd (of_decide_eq_true hh) (by omega))))
      refine optX_of (c := [0, 0, 1, 2, 2, 2, 2, 1, 1, 0, 0, 0, 0, 0, 0, 0].map (.int .i64)) (by kernel_rfl) ?_
      repeat first | refine opsStep ?_ | refine codeStep ?_ | refine drawStep ?_
      refine SW.drawn rfl (by kernel_rfl) ?_
      repeat' first | refine drawStep ?_ | refine decB_split (fun h => ?_) (fun h => ?_)
      all_goals
        refine ⟨by kernel_rfl, ?_⟩
        repeat first | refine opsStep ?_ | refine codeStep ?_ | refine drawStep ?_
        exact finB rfl (by first | (simp_all [goodF, FT.op, FT.name, FT.md, FT.terms, FT.args]; done) | (clear hr; simp only [goodF, FT.op, FT.name, FT.md, FT.terms, FT.args]; by_cases q1 : name = [] <;> by_cases q2 : md = 0 <;> by_cases q3 : 1 ≤ md <;> by_cases q4 : nameS name = true <;> by_cases q5 : terms = [] <;> by_cases q6 : args = [] <;> simp_all <;> first | rfl | omega | exact decide_eq_false (by omega) | (intro hh; exact absurd (of_decide_eq_true hh) (by omega))))
    · subst hop
      refine Pure.of_sw 73 Tryd.func80 rfl Tryd.ntmps80 (by kernel_rfl) (Nat.le_of_ble_eq_true (by kernel_rfl)) (by simp only [closeds]; exact ⟨fC5_closed 2 name md tk terms ak args, trivial⟩) (by simp only [AV.closed]) ?_
      refine SW.of_vc ?_
      repeat' first | refine opsStep ?_ | refine codeStep ?_ | refine decB_split (fun h => ?_) (fun h => ?_)
      any_goals exact finB rfl (by first | (simp_all [goodF, FT.op, FT.name, FT.md, FT.terms, FT.args]; done) | (clear hr; simp only [goodF, FT.op, FT.name, FT.md, FT.terms, FT.args]; by_cases q1 : name = [] <;> by_cases q2 : md = 0 <;> by_cases q3 : 1 ≤ md <;> by_cases q4 : nameS name = true <;> by_cases q5 : terms = [] <;> by_cases q6 : args = [] <;> simp_all <;> first | rfl | omega | exact decide_eq_false (by omega) | (intro hh; exact absurd (of_decide_eq_true hh) (by omega))))
      refine optX_of (c := [0, 0, 1, 2, 2, 2, 2, 1, 1, 0, 0, 0, 0, 0, 0, 0].map (.int .i64)) (by kernel_rfl) ?_
      repeat first | refine opsStep ?_ | refine codeStep ?_ | refine drawStep ?_
      refine SW.drawn rfl (by kernel_rfl) ?_
      repeat' first | refine drawStep ?_ | refine decB_split (fun h => ?_) (fun h => ?_)
      all_goals
        refine ⟨by kernel_rfl, ?_⟩
        repeat first | refine opsStep ?_ | refine codeStep ?_ | refine drawStep ?_
        exact finB rfl (by first | (simp_all [goodF, FT.op, FT.name, FT.md, FT.terms, FT.args]; done) | (clear hr; simp only [goodF, FT.op, FT.name, FT.md, FT.terms, FT.args]; by_cases q1 : name = [] <;> by_cases q2 : md = 0 <;> by_cases q3 : 1 ≤ md <;> by_cases q4 : nameS name = true <;> by_cases q5 : terms = [] <;> by_cases q6 : args = [] <;> simp_all <;> first | rfl | omega | exact decide_eq_false (by omega) | (intro hh; exact absurd (of_decide_eq_true hh) (by omega))))
    · subst hop
      refine Pure.of_sw 73 Tryd.func80 rfl Tryd.ntmps80 (by kernel_rfl) (Nat.le_of_ble_eq_true (by kernel_rfl)) (by simp only [closeds]; exact ⟨fC5_closed 3 name md tk terms ak args, trivial⟩) (by simp only [AV.closed]) ?_
      refine SW.of_vc ?_
      repeat' first | refine opsStep ?_ | refine codeStep ?_ | refine decB_split (fun h => ?_) (fun h => ?_)
      any_goals exact finB rfl (by first | (simp_all [goodF, FT.op, FT.name, FT.md, FT.terms, FT.args]; done) | (clear hr; simp only [goodF, FT.op, FT.name, FT.md, FT.terms, FT.args]; by_cases q1 : name = [] <;> by_cases q2 : md = 0 <;> by_cases q3 : 1 ≤ md <;> by_cases q4 : nameS name = true <;> by_cases q5 : terms = [] <;> by_cases q6 : args = [] <;> simp_all <;> first | rfl | omega | exact decide_eq_false (by omega) | (intro hh; exact absurd (of_decide_eq_true hh) (by omega))))
      refine optX_of (c := [0, 0, 1, 2, 2, 2, 2, 1, 1, 0, 0, 0, 0, 0, 0, 0].map (.int .i64)) (by kernel_rfl) ?_
      repeat first | refine opsStep ?_ | refine codeStep ?_ | refine drawStep ?_
      refine SW.drawn rfl (by kernel_rfl) ?_
      repeat' first | refine drawStep ?_ | refine decB_split (fun h => ?_) (fun h => ?_)
      all_goals
        refine ⟨by kernel_rfl, ?_⟩
        repeat first | refine opsStep ?_ | refine codeStep ?_ | refine drawStep ?_
        exact finB rfl (by first | (simp_all [goodF, FT.op, FT.name, FT.md, FT.terms, FT.args]; done) | (clear hr; simp only [goodF, FT.op, FT.name, FT.md, FT.terms, FT.args]; by_cases q1 : name = [] <;> by_cases q2 : md = 0 <;> by_cases q3 : 1 ≤ md <;> by_cases q4 : nameS name = true <;> by_cases q5 : terms = [] <;> by_cases q6 : args = [] <;> simp_all <;> first | rfl | omega | exact decide_eq_false (by omega) | (intro hh; exact absurd (of_decide_eq_true hh) (by omega))))
    · subst hop
      refine Pure.of_sw 73 Tryd.func80 rfl Tryd.ntmps80 (by kernel_rfl) (Nat.le_of_ble_eq_true (by kernel_rfl)) (by simp only [closeds]; exact ⟨fC5_closed 4 name md tk terms ak args, trivial⟩) (by simp only [AV.closed]) ?_
      refine SW.of_vc ?_
      repeat' first | refine opsStep ?_ | refine codeStep ?_ | refine decB_split (fun h => ?_) (fun h => ?_)
      any_goals exact finB rfl (by first | (simp_all [goodF, FT.op, FT.name, FT.md, FT.terms, FT.args]; done) | (clear hr; simp only [goodF, FT.op, FT.name, FT.md, FT.terms, FT.args]; by_cases q1 : name = [] <;> by_cases q2 : md = 0 <;> by_cases q3 : 1 ≤ md <;> by_cases q4 : nameS name = true <;> by_cases q5 : terms = [] <;> by_cases q6 : args = [] <;> simp_all <;> first | rfl | omega | exact decide_eq_false (by omega) | (intro hh; exact absurd (of_decide_eq_true hh) (by omega))))
      refine optX_of (c := [0, 0, 1, 2, 2, 2, 2, 1, 1, 0, 0, 0, 0, 0, 0, 0].map (.int .i64)) (by kernel_rfl) ?_
      repeat first | refine opsStep ?_ | refine codeStep ?_ | refine drawStep ?_
      refine SW.drawn rfl (by kernel_rfl) ?_
      repeat' first | refine drawStep ?_ | refine decB_split (fun h => ?_) (fun h => ?_)
      all_goals
        refine ⟨by kernel_rfl, ?_⟩
        repeat first | refine opsStep ?_ | refine codeStep ?_ | refine drawStep ?_
        exact finB rfl (by first | (simp_all [goodF, FT.op, FT.name, FT.md, FT.terms, FT.args]; done) | (clear hr; simp only [goodF, FT.op, FT.name, FT.md, FT.terms, FT.args]; by_cases q1 : name = [] <;> by_cases q2 : md = 0 <;> by_cases q3 : 1 ≤ md <;> by_cases q4 : nameS name = true <;> by_cases q5 : terms = [] <;> by_cases q6 : args = [] <;> simp_all <;> first | rfl | omega | exact decide_eq_false (by omega) | (intro hh; exact absurd (of_decide_eq_true hh) (by omega))))
    · subst hop
      refine Pure.of_sw 73 Tryd.func80 rfl Tryd.ntmps80 (by kernel_rfl) (Nat.le_of_ble_eq_true (by kernel_rfl)) (by simp only [closeds]; exact ⟨fC5_closed 5 name md tk terms ak args, trivial⟩) (by simp only [AV.closed]) ?_
      refine SW.of_vc ?_
      repeat' first | refine opsStep ?_ | refine codeStep ?_ | refine decB_split (fun h => ?_) (fun h => ?_)
      any_goals exact finB rfl (by first | (simp_all [goodF, FT.op, FT.name, FT.md, FT.terms, FT.args]; done) | (clear hr; simp only [goodF, FT.op, FT.name, FT.md, FT.terms, FT.args]; by_cases q1 : name = [] <;> by_cases q2 : md = 0 <;> by_cases q3 : 1 ≤ md <;> by_cases q4 : nameS name = true <;> by_cases q5 : terms = [] <;> by_cases q6 : args = [] <;> simp_all <;> first | rfl | omega | exact decide_eq_false (by omega) | (intro hh; exact absurd (of_decide_eq_true hh) (by omega))))
      refine optX_of (c := [0, 0, 1, 2, 2, 2, 2, 1, 1, 0, 0, 0, 0, 0, 0, 0].map (.int .i64)) (by kernel_rfl) ?_
      repeat first | refine opsStep ?_ | refine codeStep ?_ | refine drawStep ?_
      refine SW.drawn rfl (by kernel_rfl) ?_
      repeat' first | refine drawStep ?_ | refine decB_split (fun h => ?_) (fun h => ?_)
      all_goals
        refine ⟨by kernel_rfl, ?_⟩
        repeat first | refine opsStep ?_ | refine codeStep ?_ | refine drawStep ?_
        exact finB rfl (by first | (simp_all [goodF, FT.op, FT.name, FT.md, FT.terms, FT.args]; done) | (clear hr; simp only [goodF, FT.op, FT.name, FT.md, FT.terms, FT.args]; by_cases q1 : name = [] <;> by_cases q2 : md = 0 <;> by_cases q3 : 1 ≤ md <;> by_cases q4 : nameS name = true <;> by_cases q5 : terms = [] <;> by_cases q6 : args = [] <;> simp_all <;> first | rfl | omega | exact decide_eq_false (by omega) | (intro hh; exact absurd (of_decide_eq_true hh) (by omega))))
    · subst hop
      refine Pure.of_sw 73 Tryd.func80 rfl Tryd.ntmps80 (by kernel_rfl) (Nat.le_of_ble_eq_true (by kernel_rfl)) (by simp only [closeds]; exact ⟨fC5_closed 6 name md tk terms ak args, trivial⟩) (by simp only [AV.closed]) ?_
      refine SW.of_vc ?_
      repeat' first | refine opsStep ?_ | refine codeStep ?_ | refine decB_split (fun h => ?_) (fun h => ?_)
      any_goals exact finB rfl (by first | (simp_all [goodF, FT.op, FT.name, FT.md, FT.terms, FT.args]; done) | (clear hr; simp only [goodF, FT.op, FT.name, FT.md, FT.terms, FT.args]; by_cases q1 : name = [] <;> by_cases q2 : md = 0 <;> by_cases q3 : 1 ≤ md <;> by_cases q4 : nameS name = true <;> by_cases q5 : terms = [] <;> by_cases q6 : args = [] <;> simp_all <;> first | rfl | omega | exact decide_eq_false (by omega) | (intro hh; exact absurd (of_decide_eq_true hh) (by omega))))
      refine optX_of (c := [0, 0, 1, 2, 2, 2, 2, 1, 1, 0, 0, 0, 0, 0, 0, 0].map (.int .i64)) (by kernel_rfl) ?_
      repeat first | refine opsStep ?_ | refine codeStep ?_ | refine drawStep ?_
      refine SW.drawn rfl (by kernel_rfl) ?_
      repeat' first | refine drawStep ?_ | refine decB_split (fun h => ?_) (fun h => ?_)
      all_goals
        refine ⟨by kernel_rfl, ?_⟩
        repeat first | refine opsStep ?_ | refine codeStep ?_ | refine drawStep ?_
        exact finB rfl (by first | (simp_all [goodF, FT.op, FT.name, FT.md, FT.terms, FT.args]; done) | (clear hr; simp only [goodF, FT.op, FT.name, FT.md, FT.terms, FT.args]; by_cases q1 : name = [] <;> by_cases q2 : md = 0 <;> by_cases q3 : 1 ≤ md <;> by_cases q4 : nameS name = true <;> by_cases q5 : terms = [] <;> by_cases q6 : args = [] <;> simp_all <;> first | rfl | omega | exact decide_eq_false (by omega) | (intro hh; exact absurd (of_decide_eq_true hh) (by omega))))
    · subst hop
      refine Pure.of_sw 73 Tryd.func80 rfl Tryd.ntmps80 (by kernel_rfl) (Nat.le_of_ble_eq_true (by kernel_rfl)) (by simp only [closeds]; exact ⟨fC5_closed 7 name md tk terms ak args, trivial⟩) (by simp only [AV.closed]) ?_
      refine SW.of_vc ?_
      repeat first | refine opsStep ?_ | refine codeStep ?_ | refine drawStep ?_
      refine callP (r04_Name name hn) ?_
      repeat' first | refine opsStep ?_ | refine codeStep ?_ | refine decB_split (fun h => ?_) (fun h => ?_)
      any_goals exact finB rfl (by first | (simp_all [goodF, FT.op, FT.name, FT.md, FT.terms, FT.args]; done) | (clear hr; simp only [goodF, FT.op, FT.name, FT.md, FT.terms, FT.args]; by_cases q1 : name = [] <;> by_cases q2 : md = 0 <;> by_cases q3 : 1 ≤ md <;> by_cases q4 : nameS name = true <;> by_cases q5 : terms = [] <;> by_cases q6 : args = [] <;> simp_all <;> first | rfl | omega | exact decide_eq_false (by omega) | (intro hh; exact absurd (of_decide_eq_true hh) (by omega))))
      refine optX_of (c := [0, 0, 1, 2, 2, 2, 2, 1, 1, 0, 0, 0, 0, 0, 0, 0].map (.int .i64)) (by kernel_rfl) ?_
      repeat first | refine opsStep ?_ | refine codeStep ?_ | refine drawStep ?_
      refine SW.drawn rfl (by kernel_rfl) ?_
      repeat' first | refine drawStep ?_ | refine decB_split (fun h => ?_) (fun h => ?_)
      all_goals
        refine ⟨by kernel_rfl, ?_⟩
        repeat first | refine opsStep ?_ | refine codeStep ?_ | refine drawStep ?_
        exact finB rfl (by first | (simp_all [goodF, FT.op, FT.name, FT.md, FT.terms, FT.args]; done) | (clear hr; simp only [goodF, FT.op, FT.name, FT.md, FT.terms, FT.args]; by_cases q1 : name = [] <;> by_cases q2 : md = 0 <;> by_cases q3 : 1 ≤ md <;> by_cases q4 : nameS name = true <;> by_cases q5 : terms = [] <;> by_cases q6 : args = [] <;> simp_all <;> first | rfl | omega | exact decide_eq_false (by omega) | (intro hh; exact absurd (of_decide_eq_true hh) (by omega))))
    · subst hop
      refine Pure.of_sw 73 Tryd.func80 rfl Tryd.ntmps80 (by kernel_rfl) (Nat.le_of_ble_eq_true (by kernel_rfl)) (by simp only [closeds]; exact ⟨fC5_closed 8 name md tk terms ak args, trivial⟩) (by simp only [AV.closed]) ?_
      refine SW.of_vc ?_
      repeat first | refine opsStep ?_ | refine codeStep ?_ | refine drawStep ?_
      refine callP (r04_Name name hn) ?_
      repeat' first | refine opsStep ?_ | refine codeStep ?_ | refine decB_split (fun h => ?_) (fun h => ?_)
      any_goals exact finB rfl (by first | (simp_all [goodF, FT.op, FT.name, FT.md, FT.terms, FT.args]; done) | (clear hr; simp only [goodF, FT.op, FT.name, FT.md, FT.terms, FT.args]; by_cases q1 : name = [] <;> by_cases q2 : md = 0 <;> by_cases q3 : 1 ≤ md <;> by_cases q4 : nameS name = true <;> by_cases q5 : terms = [] <;> by_cases q6 : args = [] <;> simp_all <;> first | rfl | omega | exact decide_eq_false (by omega) | (intro hh; exact absurd (of_decide_eq_true hh) (by omega))))
      refine optX_of (c := [0, 0, 1, 2, 2, 2, 2, 1, 1, 0, 0, 0, 0, 0, 0, 0].map (.int .i64)) (by kernel_rfl) ?_
      repeat first | refine opsStep ?_ | refine codeStep ?_ | refine drawStep ?_
      refine SW.drawn rfl (by kernel_rfl) ?_
      repeat' first | refine drawStep ?_ | refine decB_split (fun h => ?_) (fun h => ?_)
      all_goals
        refine ⟨by kernel_rfl, ?_⟩
        repeat first | refine opsStep ?_ | refine codeStep ?_ | refine drawStep ?_
        exact finB rfl (by first | (simp_all [goodF, FT.op, FT.name, FT.md, FT.terms, FT.args]; done) | (clear hr; simp only [goodF, FT.op, FT.name, FT.md, FT.terms, FT.args]; by_cases q1 : name = [] <;> by_cases q2 : md = 0 <;> by_cases q3 : 1 ≤ md <;> by_cases q4 : nameS name = true <;> by_cases q5 : terms = [] <;> by_cases q6 : args = [] <;> simp_all <;> first | rfl | omega | exact decide_eq_false (by omega) | (intro hh; exact absurd (of_decide_eq_true hh) (by omega))))
    · subst hop
      refine Pure.of_sw 73 Tryd.func80 rfl Tryd.ntmps80 (by kernel_rfl) (Nat.le_of_ble_eq_true (by kernel_rfl)) (by simp only [closeds]; exact ⟨fC5_closed 9 name md tk terms ak args, trivial⟩) (by simp only [AV.closed]) ?_
      refine SW.of_vc ?_
      repeat' first | refine opsStep ?_ | refine codeStep ?_ | refine decB_split (fun h => ?_) (fun h => ?_)
      any_goals exact finB rfl (by first | (simp_all [goodF, FT.op, FT.name, FT.md, FT.terms, FT.args]; done) | (clear hr; simp only [goodF, FT.op, FT.name, FT.md, FT.terms, FT.args]; by_cases q1 : name = [] <;> by_cases q2 : md = 0 <;> by_cases q3 : 1 ≤ md <;> by_cases q4 : nameS name = true <;> by_cases q5 : terms = [] <;> by_cases q6 : args = [] <;> simp_all <;> first | rfl | omega | exact decide_eq_false (by omega) | (intro hh; exact absurd (of_decide_eq_true hh) (by omega))))
      refine optX_of (c := [0, 0, 1, 2, 2, 2, 2, 1, 1, 0, 0, 0, 0, 0, 0, 0].map (.int .i64)) (by kernel_rfl) ?_
      repeat first | refine opsStep ?_ | refine codeStep ?_ | refine drawStep ?_
      refine SW.drawn rfl (by kernel_rfl) ?_
      repeat' first | refine drawStep ?_ | refine decB_split (fun h => ?_) (fun h => ?_)
      all_goals
        refine ⟨by kernel_rfl, ?_⟩
        repeat first | refine opsStep ?_ | refine codeStep ?_ | refine drawStep ?_
        exact finB rfl (by first | (simp_all [goodF, FT.op, FT.name, FT.md, FT.terms, FT.args]; done) | (clear hr; simp only [goodF, FT.op, FT.name, FT.md, FT.terms, FT.args]; by_cases q1 : name = [] <;> by_cases q2 : md = 0 <;> by_cases q3 : 1 ≤ md <;> by_cases q4 : nameS name = true <;> by_cases q5 : terms = [] <;> by_cases q6 : args = [] <;> simp_all <;> first | rfl | omega | exact decide_eq_false (by omega) | (intro hh; exact absurd (of_decide_eq_true hh) (by omega))))
    · subst hop
      refine Pure.of_sw 73 Tryd.func80 rfl Tryd.ntmps80 (by kernel_rfl) (Nat.le_of_ble_eq_true (by kernel_rfl)) (by simp only [closeds]; exact ⟨fC5_closed 10 name md tk terms ak args, trivial⟩) (by simp only [AV.closed]) ?_
      refine SW.of_vc ?_
      repeat' first | refine opsStep ?_ | refine codeStep ?_ | refine decB_split (fun h => ?_) (fun h => ?_)
      any_goals exact finB rfl (by first | (simp_all [goodF, FT.op, FT.name, FT.md, FT.terms, FT.args]; done) | (clear hr; simp only [goodF, FT.op, FT.name, FT.md, FT.terms, FT.args]; by_cases q1 : name = [] <;> by_cases q2 : md = 0 <;> by_cases q3 : 1 ≤ md <;> by_cases q4 : nameS name = true <;> by_cases q5 : terms = [] <;> by_cases q6 : args = [] <;> simp_all <;> first | rfl | omega | exact decide_eq_false (by omega) | (intro hh; exact absurd (of_decide_eq_true hh) (by omega))))
      refine optX_of (c := [0, 0, 1, 2, 2, 2, 2, 1, 1, 0, 0, 0, 0, 0, 0, 0].map (.int .i64)) (by kernel_rfl) ?_
      repeat first | refine opsStep ?_ | refine codeStep ?_ | refine drawStep ?_
      refine SW.drawn rfl (by kernel_rfl) ?_
      repeat' first | refine drawStep ?_ | refine decB_split (fun h => ?_) (fun h => ?_)
      all_goals
        refine ⟨by kernel_rfl, ?_⟩
        repeat first | refine opsStep ?_ | refine codeStep ?_ | refine drawStep ?_
        exact finB rfl (by first | (simp_all [goodF, FT.op, FT.name, FT.md, FT.terms, FT.args]; done) | (clear hr; simp only [goodF, FT.op, FT.name, FT.md, FT.terms, FT.args]; by_cases q1 : name = [] <;> by_cases q2 : md = 0 <;> by_cases q3 : 1 ≤ md <;> by_cases q4 : nameS name = true <;> by_cases q5 : terms = [] <;> by_cases q6 : args = [] <;> simp_all <;> first | rfl | omega | exact decide_eq_false (by omega) | (intro hh; exact absurd (of_decide_eq_true hh) (by omega))))
    · subst hop
      refine Pure.of_sw 73 Tryd.func80 rfl Tryd.ntmps80 (by kernel_rfl) (Nat.le_of_ble_eq_true (by kernel_rfl)) (by simp only [closeds]; exact ⟨fC5_closed 11 name md tk terms ak args, trivial⟩) (by simp only [AV.closed]) ?_
      refine SW.of_vc ?_
      repeat' first | refine opsStep ?_ | refine codeStep ?_ | refine decB_split (fun h => ?_) (fun h => ?_)
      any_goals exact finB rfl (by first | (simp_all [goodF, FT.op, FT.name, FT.md, FT.terms, FT.args]; done) | (clear hr; simp only [goodF, FT.op, FT.name, FT.md, FT.terms, FT.args]; by_cases q1 : name = [] <;> by_cases q2 : md = 0 <;> by_cases q3 : 1 ≤ md <;> by_cases q4 : nameS name = true <;> by_cases q5 : terms = [] <;> by_cases q6 : args = [] <;> simp_all <;> first | rfl | omega | exact decide_eq_false (by omega) | (intro hh; exact absurd (of_decide_eq_true hh) (by omega))))
      refine optX_of (c := [0, 0, 1, 2, 2, 2, 2, 1, 1, 0, 0, 0, 0, 0, 0, 0].map (.int .i64)) (by kernel_rfl) ?_
      repeat first | refine opsStep ?_ | refine codeStep ?_ | refine drawStep ?_
      refine SW.drawn rfl (by kernel_rfl) ?_
      repeat' first | refine drawStep ?_ | refine decB_split (fun h => ?_) (fun h => ?_)
      all_goals
        refine ⟨by kernel_rfl, ?_⟩
        repeat first | refine opsStep ?_ | refine codeStep ?_ | refine drawStep ?_
        exact finB rfl (by first | (simp_all [goodF, FT.op, FT.name, FT.md, FT.terms, FT.args]; done) | (clear hr; simp only [goodF, FT.op, FT.name, FT.md, FT.terms, FT.args]; by_cases q1 : name = [] <;> by_cases q2 : md = 0 <;> by_cases q3 : 1 ≤ md <;> by_cases q4 : nameS name = true <;> by_cases q5 : terms = [] <;> by_cases q6 : args = [] <;> simp_all <;> first | rfl | omega | exact decide_eq_false (by omega) | (intro hh; exact absurd (of_decide_eq_true hh) (by omega))))
    · subst hop
      refine Pure.of_sw 73 Tryd.func80 rfl Tryd.ntmps80 (by kernel_rfl) (Nat.le_of_ble_eq_true (by kernel_rfl)) (by simp only [closeds]; exact ⟨fC5_closed 12 name md tk terms ak args, trivial⟩) (by simp only [AV.closed]) ?_
      refine SW.of_vc ?_
      repeat' first | refine opsStep ?_ | refine codeStep ?_ | refine decB_split (fun h => ?_) (fun h => ?_)
      any_goals exact finB rfl (by first | (simp_all [goodF, FT.op, FT.name, FT.md, FT.terms, FT.args]; done) | (clear hr; simp only [goodF, FT.op, FT.name, FT.md, FT.terms, FT.args]; by_cases q1 : name = [] <;> by_cases q2 : md = 0 <;> by_cases q3 : 1 ≤ md <;> by_cases q4 : nameS name = true <;> by_cases q5 : terms = [] <;> by_cases q6 : args = [] <;> simp_all <;> first | rfl | omega | exact decide_eq_false (by omega) | (intro hh; exact absurd (of_decide_eq_true hh) (by omega))))
      refine optX_of (c := [0, 0, 1, 2, 2, 2, 2, 1, 1, 0, 0, 0, 0, 0, 0, 0].map (.int .i64)) (by kernel_rfl) ?_
      repeat first | refine opsStep ?_ | refine codeStep ?_ | refine drawStep ?_
      refine SW.drawn rfl (by kernel_rfl) ?_
      repeat' first | refine drawStep ?_ | refine decB_split (fun h => ?_) (fun h => ?_)
      all_goals
        refine ⟨by kernel_rfl, ?_⟩
        repeat first | refine opsStep ?_ | refine codeStep ?_ | refine drawStep ?_
        exact finB rfl (by first | (simp_all [goodF, FT.op, FT.name, FT.md, FT.terms, FT.args]; done) | (clear hr; simp only [goodF, FT.op, FT.name, FT.md, FT.terms, FT.args]; by_cases q1 : name = [] <;> by_cases q2 : md = 0 <;> by_cases q3 : 1 ≤ md <;> by_cases q4 : nameS name = true <;> by_cases q5 : terms = [] <;> by_cases q6 : args = [] <;> simp_all <;> first | rfl | omega | exact decide_eq_false (by omega) | (intro hh; exact absurd (of_decide_eq_true hh) (by omega))))
    · subst hop
      refine Pure.of_sw 73 Tryd.func80 rfl Tryd.ntmps80 (by kernel_rfl) (Nat.le_of_ble_eq_true (by kernel_rfl)) (by simp only [closeds]; exact ⟨fC5_closed 13 name md tk terms ak args, trivial⟩) (by simp only [AV.closed]) ?_
      refine SW.of_vc ?_
      repeat' first | refine opsStep ?_ | refine codeStep ?_ | refine decB_split (fun h => ?_) (fun h => ?_)
      any_goals exact finB rfl (by first | (simp_all [goodF, FT.op, FT.name, FT.md, FT.terms, FT.args]; done) | (clear hr; simp only [goodF, FT.op, FT.name, FT.md, FT.terms, FT.args]; by_cases q1 : name = [] <;> by_cases q2 : md = 0 <;> by_cases q3 : 1 ≤ md <;> by_cases q4 : nameS name = true <;> by_cases q5 : terms = [] <;> by_cases q6 : args = [] <;> simp_all <;> first | rfl | omega | exact decide_eq_false (by omega) | (intro hh; exact absurd (of_decide_eq_true hh) (by omega))))
      refine optX_of (c := [0, 0, 1, 2, 2, 2, 2, 1, 1, 0, 0, 0, 0, 0, 0, 0].map (.int .i64)) (by kernel_rfl) ?_
      repeat first | refine opsStep ?_ | refine codeStep ?_ | refine drawStep ?_
      refine SW.drawn rfl (by kernel_rfl) ?_
      repeat' first | refine drawStep ?_ | refine decB_split (fun h => ?_) (fun h => ?_)
      all_goals
        refine ⟨by kernel_rfl, ?_⟩
        repeat first | refine opsStep ?_ | refine codeStep ?_ | refine drawStep ?_
        exact finB rfl (by first | (simp_all [goodF, FT.op, FT.name, FT.md, FT.terms, FT.args]; done) | (clear hr; simp only [goodF, FT.op, FT.name, FT.md, FT.terms, FT.args]; by_cases q1 : name = [] <;> by_cases q2 : md = 0 <;> by_cases q3 : 1 ≤ md <;> by_cases q4 : nameS name = true <;> by_cases q5 : terms = [] <;> by_cases q6 : args = [] <;> simp_all <;> first | rfl | omega | exact decide_eq_false (by omega) | (intro hh; exact absurd (of_decide_eq_true hh) (by omega))))
    · subst hop
      refine Pure.of_sw 73 Tryd.func80 rfl Tryd.ntmps80 (by kernel_rfl) (Nat.le_of_ble_eq_true (by kernel_rfl)) (by simp only [closeds]; exact ⟨fC5_closed 14 name md tk terms ak args, trivial⟩) (by simp only [AV.closed]) ?_
      refine SW.of_vc ?_
      repeat' first | refine opsStep ?_ | refine codeStep ?_ | refine decB_split (fun h => ?_) (fun h => ?_)
      any_goals exact finB rfl (by first | (simp_all [goodF, FT.op, FT.name, FT.md, FT.terms, FT.args]; done) | (clear hr; simp only [goodF, FT.op, FT.name, FT.md, FT.terms, FT.args]; by_cases q1 : name = [] <;> by_cases q2 : md = 0 <;> by_cases q3 : 1 ≤ md <;> by_cases q4 : nameS name = true <;> by_cases q5 : terms = [] <;> by_cases q6 : args = [] <;> simp_all <;> first | rfl | omega | exact decide_eq_false (by omega) | (intro hh; exact absurd (of_decide_eq_true hh) (by omega))))
      refine optX_of (c := [0, 0, 1, 2, 2, 2, 2, 1, 1, 0, 0, 0, 0, 0, 0, 0].map (.int .i64)) (by kernel_rfl) ?_
      repeat first | refine opsStep ?_ | refine codeStep ?_ | refine drawStep ?_
      refine SW.drawn rfl (by kernel_rfl) ?_
      repeat' first | refine drawStep ?_ | refine decB_split (fun h => ?_) (fun h => ?_)
      all_goals
        refine ⟨by kernel_rfl, ?_⟩
        repeat first | refine opsStep ?_ | refine codeStep ?_ | refine drawStep ?_
        exact finB rfl (by first | (simp_all [goodF, FT.op, FT.name, FT.md, FT.terms, FT.args]; done) | (clear hr; simp only [goodF, FT.op, FT.name, FT.md, FT.terms, FT.args]; by_cases q1 : name = [] <;> by_cases q2 : md = 0 <;> by_cases q3 : 1 ≤ md <;> by_cases q4 : nameS name = true <;> by_cases q5 : terms = [] <;> by_cases q6 : args = [] <;> simp_all <;> first | rfl | omega | exact decide_eq_false (by omega) | (intro hh; exact absurd (of_decide_eq_true hh) (by omega))))
    · subst hop
      refine Pure.of_sw 73 Tryd.func80 rfl Tryd.ntmps80 (by kernel_rfl) (Nat.le_of_ble_eq_true (by kernel_rfl)) (by simp only [closeds]; exact ⟨fC5_closed 15 name md tk terms ak args, trivial⟩) (by simp only [AV.closed]) ?_
      refine SW.of_vc ?_
      repeat' first | refine opsStep ?_ | refine codeStep ?_ | refine decB_split (fun h => ?_) (fun h => ?_)
      any_goals exact finB rfl (by first | (simp_all [goodF, FT.op, FT.name, FT.md, FT.terms, FT.args]; done) | (clear hr; simp only [goodF, FT.op, FT.name, FT.md, FT.terms, FT.args]; by_cases q1 : name = [] <;> by_cases q2 : md = 0 <;> by_cases q3 : 1 ≤ md <;> by_cases q4 : nameS name = true <;> by_cases q5 : terms = [] <;> by_cases q6 : args = [] <;> simp_all <;> first | rfl | omega | exact decide_eq_false (by omega) | (intro hh; exact absurd (of_decide_eq_true hh) (by omega))))
      refine optX_of (c := [0, 0, 1, 2, 2, 2, 2, 1, 1, 0, 0, 0, 0, 0, 0, 0].map (.int .i64)) (by kernel_rfl) ?_
      repeat first | refine opsStep ?_ | refine codeStep ?_ | refine drawStep ?_
      refine SW.drawn rfl (by kernel_rfl) ?_
      repeat' first | refine drawStep ?_ | refine decB_split (fun h => ?_) (fun h => ?_)
      all_goals
        refine ⟨by kernel_rfl, ?_⟩
        repeat first | refine opsStep ?_ | refine codeStep ?_ | refine drawStep ?_
        exact finB rfl (by first | (simp_all [goodF, FT.op, FT.name, FT.md, FT.terms, FT.args]; done) | (clear hr; simp only [goodF, FT.op, FT.name, FT.md, FT.terms, FT.args]; by_cases q1 : name = [] <;> by_cases q2 : md = 0 <;> by_cases q3 : 1 ≤ md <;> by_cases q4 : nameS name = true <;> by_cases q5 : terms = [] <;> by_cases q6 : args = [] <;> simp_all <;> first | rfl | omega | exact decide_eq_false (by omega) | (intro hh; exact absurd (of_decide_eq_true hh) (by omega))))
  · skip
    have hg : goodF ⟨op, name, md, tk, terms, ak, args⟩ = false := by
      show (if op = 0 ∨ op = 1 then decide (name = []) && decide (md = 0) && decide (terms.length = 0) && decide (args.length = 0)
        else if op = 2 then decide (name = []) && decide (md = 0) && decide (terms.length = 0) && decide (args.length = 1)
        else if 3 ≤ op ∧ op ≤ 6 then decide (name = []) && decide (md = 0) && decide (terms.length = 0) && decide (args.length = 2)
        else if op = 7 ∨ op = 8 then nameS name && decide (md = 0) && decide (terms.length = 0) && decide (args.length = 1)
        else if 9 ≤ op ∧ op ≤ 14 then decide (name = []) && decide (md = 0) && decide (terms.length = 2) && decide (args.length = 0)
        else if op = 15 then decide (name = []) && decide (1 ≤ md) && decide (terms.length = 2) && decide (args.length = 0)
        else false) = false
      rw [if_neg (by omega), if_neg (by omega), if_neg (by omega), if_neg (by omega), if_neg (by omega), if_neg (by omega)]
    rw [hg]
    refine Pure.of_sw 73 Tryd.func80 rfl Tryd.ntmps80 (by kernel_rfl) (Nat.le_of_ble_eq_true (by kernel_rfl)) (by simp only [closeds]; exact ⟨fC5_closed op name md tk terms ak args, trivial⟩) (by simp only [AV.closed]) ?_
    refine SW.of_vc ?_
    repeat first | refine opsStep ?_ | refine codeStep ?_ | refine drawStep ?_
    refine decB_dec (fun h => ?_) (fun h => ?_)
    · repeat' first | refine opsStep ?_ | refine codeStep ?_ | refine decB_split (fun h => ?_) (fun h => ?_)
      all_goals exact finB (b' := false) rfl rfl
    · have h : ¬ op < 0 := h
      repeat first | refine opsStep ?_ | refine codeStep ?_ | refine drawStep ?_
      refine decB_dec (fun h2 => ?_) (fun h2 => ?_)
      · repeat' first | refine opsStep ?_ | refine codeStep ?_ | refine decB_split (fun h => ?_) (fun h => ?_)
        all_goals exact finB (b' := false) rfl rfl
      · have h2 : ¬ op > 15 := h2
        omega

end Tab

/- Trees are measured, by the document. -/
namespace Tab
open Go Go.Proofs
set_option maxRecDepth 10000
set_option linter.unusedVariables false
set_option linter.unusedSimpArgs false
set_option linter.unusedSectionVars false
set_option maxHeartbeats 1000000

theorem r06_node (m : Ms) (d : Nat) (g : Bool) (hm : MsOk m d) : ACall Tryd.prog 57 [.ref 0 0 0, .int .i64 d, .bool g] [.cells 0 (msC m)] fun o H' => o = .ret (.tup []) ∧ H' = [.cells 0 (msC (nodeM m d g))] := by
  have h1 := hm.size
  have h2 := hm.dep
  have h3 := hm.d
  have e1 : IntKind.wrap .i64 ((m.size : Int) + 1) = ((m.size + 1 : Nat) : Int) := by rw [IntWalk.i64_in _ (by omega)]; simp
  have e2 : (if (d : Int) > (m.depth : Int) then (d : Int) else (m.depth : Int)) = ((max m.depth d : Nat) : Int) := by split <;> omega
  refine ACall.of_sw 43 Tryd.func57 rfl Tryd.ntmps57 (by kernel_rfl) (Nat.le_of_ble_eq_true (by kernel_rfl)) ?_; refine SW.of_vc ?_
  repeat first | refine opsStep ?_ | refine codeStep ?_ | refine drawStep ?_
  refine decB_dec (fun c1 => ?_) (fun c1 => ?_)
  · have c1 : IntKind.wrap .i64 ((m.size : Int) + 1) > 500 := c1
    rw [e1] at c1
    have hn : nodeM m d g = ⟨m.size + 1, max m.depth d, 73⟩ := by rw [nodeM, if_pos (by omega)]
    rw [hn]
    repeat first | refine opsStep ?_ | refine codeStep ?_ | refine drawStep ?_
    exact finR (l := []) (v := .tup []) (H₁ := [.cells 0 [.int .i64 (m.size + 1 : Nat), .int .i64 (max m.depth d : Nat), .int .i64 73]]) trivial (Eq.trans (b := [.cells 0 [.int .i64 (IntKind.wrap .i64 ((m.size : Int) + 1)), .int .i64 (if (d : Int) > (m.depth : Int) then (d : Int) else (m.depth : Int)), .int .i64 73]]) (by kernel_rfl) (by rw [e1, e2])) (Ent.refl _ _ _) (by kernel_rfl) ⟨rfl, rfl⟩
  · have c1 : ¬ IntKind.wrap .i64 ((m.size : Int) + 1) > 500 := c1
    rw [e1] at c1
    repeat first | refine opsStep ?_ | refine codeStep ?_ | refine drawStep ?_
    refine decB_dec (fun c2 => ?_) (fun c2 => ?_)
    · have c2 : (d : Int) > 40 := c2
      have hn : nodeM m d g = ⟨m.size + 1, max m.depth d, 72⟩ := by rw [nodeM, if_neg (by omega), if_pos (by omega)]
      rw [hn]
      repeat first | refine opsStep ?_ | refine codeStep ?_ | refine drawStep ?_
      exact finR (l := []) (v := .tup []) (H₁ := [.cells 0 [.int .i64 (m.size + 1 : Nat), .int .i64 (max m.depth d : Nat), .int .i64 72]]) trivial (Eq.trans (b := [.cells 0 [.int .i64 (IntKind.wrap .i64 ((m.size : Int) + 1)), .int .i64 (if (d : Int) > (m.depth : Int) then (d : Int) else (m.depth : Int)), .int .i64 72]]) (by kernel_rfl) (by rw [e1, e2])) (Ent.refl _ _ _) (by kernel_rfl) ⟨rfl, rfl⟩
    · have c2 : ¬ (d : Int) > 40 := c2
      cases g with
      | true =>
        have hn : nodeM m d true = ⟨m.size + 1, max m.depth d, m.err⟩ := by rw [nodeM, if_neg (by omega), if_neg (by omega), if_pos rfl]
        rw [hn]
        repeat first | refine opsStep ?_ | refine codeStep ?_ | refine drawStep ?_
        exact finR (l := []) (v := .tup []) (H₁ := [.cells 0 [.int .i64 (m.size + 1 : Nat), .int .i64 (max m.depth d : Nat), .int .i64 m.err]]) trivial (Eq.trans (b := [.cells 0 [.int .i64 (IntKind.wrap .i64 ((m.size : Int) + 1)), .int .i64 (if (d : Int) > (m.depth : Int) then (d : Int) else (m.depth : Int)), .int .i64 m.err]]) (by kernel_rfl) (by rw [e1, e2])) (Ent.refl _ _ _) (by kernel_rfl) ⟨rfl, rfl⟩
      | false =>
        have hn : nodeM m d false = ⟨m.size + 1, max m.depth d, 3⟩ := by rw [nodeM, if_neg (by omega), if_neg (by omega), if_neg (by simp)]
        rw [hn]
        repeat first | refine opsStep ?_ | refine codeStep ?_ | refine drawStep ?_
        exact finR (l := []) (v := .tup []) (H₁ := [.cells 0 [.int .i64 (m.size + 1 : Nat), .int .i64 (max m.depth d : Nat), .int .i64 3]]) trivial (Eq.trans (b := [.cells 0 [.int .i64 (IntKind.wrap .i64 ((m.size : Int) + 1)), .int .i64 (if (d : Int) > (m.depth : Int) then (d : Int) else (m.depth : Int)), .int .i64 3]]) (by kernel_rfl) (by rw [e1, e2])) (Ent.refl _ _ _) (by kernel_rfl) ⟨rfl, rfl⟩

theorem bel1 (m : Ms) : blksBel 1 [.cells 0 (msC m)] := by simp only [blksBel, Blk.bel]; exact ⟨msC_bel _ _, trivial⟩
theorem r06_term : ∀ (n : Nat) (t : TT), t.nodes ≤ n → t.ok → ∀ (m : Ms) (d : Nat), MsOk m d → ACall Tryd.prog 37 [.ref 0 0 0, .agg t.cells, .int .i64 d] [.cells 0 (msC m)] fun o H' => o = .ret (.tup []) ∧ H' = [.cells 0 (msC (t.walk d m))] := by
  intro n
  induction n with
  | zero => intro t h; rcases t with ⟨op, num, name, k, args⟩; rw [TT.nodes] at h; omega
  | succ n ih =>
    intro t hnodes hok m d hm
    have hgood := r06_wellTerm t (by cases t; rw [TT.ok] at hok; have := hok.2.2.1; show List.length _ < _; simp only [TT.name]; omega)
    rw [TT.cells_eq] at hgood ⊢
    rcases t with ⟨op, num, name, k, args⟩
    have hwk : TT.walk ⟨op, num, name, k, args⟩ d m = if (nodeM m d (goodT ⟨op, num, name, k, args⟩)).err ≠ 0 then nodeM m d (goodT ⟨op, num, name, k, args⟩) else ttsWalk args (d + 1) (nodeM m d (goodT ⟨op, num, name, k, args⟩)) := by rw [TT.walk]
    rw [TT.ok] at hok
    rw [TT.nodes] at hnodes
    generalize goodT ⟨op, num, name, k, args⟩ = g at *
    generalize TT.walk ⟨op, num, name, k, args⟩ d m = w at *
    simp only [TT.op, TT.num, TT.name, TT.k, TT.args] at hgood ⊢
    have hal := hok.2.2.2.1
    have hao := hok.2.2.2.2
    have hd := hm.d
    have hdi : IntKind.wrap .i64 ((d : Int) + 1) = ((d + 1 : Nat) : Int) := by rw [IntWalk.i64_in _ (by omega)]; simp
    refine ACall.of_sw 35 Tryd.func37 rfl Tryd.ntmps37 (by kernel_rfl) (Nat.le_of_ble_eq_true (by kernel_rfl)) ?_; refine SW.of_vc ?_
    repeat first | refine opsStep ?_ | refine codeStep ?_ | refine drawStep ?_
    refine callP hgood ?_
    repeat first | refine opsStep ?_ | refine codeStep ?_ | refine drawStep ?_
    refine callT (args := [.ref 0 0 0, .int .i64 d, .bool g]) (r06_node m d g hm) [.cells 0 (tC op num name k args)] rfl rfl (by simp [bels, AV.bel]) (bel1 m) (bel1 _) (by simp [AV.bel, bels]) ?_
    repeat first | refine opsStep ?_ | refine codeStep ?_ | refine drawStep ?_
    refine loopE_of (ι := {x : Nat × Ms // x.1 ≤ args.length ∧ w = (if x.2.err ≠ 0 then x.2 else ttsWalk (args.drop x.1) (d + 1) x.2) ∧ (x.2.err = 0 → MsOk x.2 (d + 1))}) (fun x => (fr [(0, .ref 0 0 0), (2, .int .i64 d), (4, .ref 1 0 0), (6, .int .i64 x.1.1)], [.cells 0 (msC x.1.2), .cells 0 (tC op num name k args)])) (fun x => args.length - x.1.1)
      ⟨(0, nodeM m d g), Nat.zero_le _, hwk, fun e => nodeM_bd hm e⟩ (Ent.fr' ⟨(by kernel_rfl), (by kernel_rfl), (by kernel_rfl), (by kernel_rfl), trivial⟩ (by kernel_rfl)) ?_
    rintro ⟨⟨i, mi⟩, h1, h2, h3⟩
    simp only at h1 h2 h3
    repeat first | refine opsStep ?_ | refine codeStep ?_ | refine drawStep ?_
    refine decB_dec (fun hlt => ?_) (fun hlt => ?_)
    · have hi : i < args.length := by have : (i : Int) < args.length := hlt; omega
      clear hlt
      repeat first | refine opsStep ?_ | refine codeStep ?_ | refine drawStep ?_
      refine decB_dec (fun he => ?_) (fun he => ?_)
      · have he : mi.err = 0 := he
        rw [if_neg (by simp [he])] at h2
        have hld : ((ttsC args).drop ((i : Int).toNat * 4)).take 4 = (args[i]'hi).cells := by rw [Int.toNat_natCast]; exact ttsC_at hi
        have hfit : 4 ≤ ((ttsC args).drop ((i : Int).toNat * 4)).length := by rw [List.length_drop, ttsC_len, Int.toNat_natCast]; omega
        have hrec := ih (args[i]'hi) (by have := tts_nodes hi; omega) (ttsOk_iff.1 hao _ (List.getElem_mem hi)) mi (d + 1) (h3 he)
        have hstep := ttsWalk_drop hi (d + 1) mi
        rw [← h2] at hstep
        have hao' := @TT.walk_ok (args[i]'hi) (d + 1) mi (h3 he)
        have haB : bels 1 (args[i]'hi).cells := closeds_bel _ (TT.cells_closed (args[i]'hi))
        rw [← hld, ← hdi] at hrec
        rw [← hld] at haB
        generalize TT.walk (args[i]'hi) (d + 1) mi = wi at *
        repeat first | refine opsStep ?_ | refine codeStep ?_ | refine drawStep ?_
        refine guardE_of ⟨by omega, by show (i : Int) < args.length; omega⟩ ?_
        repeat first | refine opsStep ?_ | refine codeStep ?_ | refine drawStep ?_
        refine guardE_of hfit ?_
        repeat first | refine opsStep ?_ | refine codeStep ?_ | refine drawStep ?_
        refine callT (args := [.ref 0 0 0, .agg (((ttsC args).drop ((i : Int).toNat * 4)).take 4), .int .i64 (IntKind.wrap .i64 ((d : Int) + 1))]) hrec [.cells 0 (tC op num name k args)] rfl rfl (by simp only [bels, AV.bel]; exact ⟨by show 0 < 1; decide, haB, trivial, trivial⟩) (bel1 mi) (bel1 _) (by simp [AV.bel, bels]) ?_
        repeat first | refine opsStep ?_ | refine codeStep ?_ | refine drawStep ?_
        exact ⟨⟨(i + 1, wi), hi, hstep, hao'⟩, (by show args.length - (i + 1) < args.length - i; omega), Ent.fr' ⟨(by kernel_rfl), (by kernel_rfl), (by kernel_rfl), inc_slot (i := i) (by omega), trivial⟩ (by kernel_rfl)⟩
      · have he : ¬ mi.err = 0 := he
        rw [if_pos he] at h2
        subst h2
        repeat first | refine opsStep ?_ | refine codeStep ?_ | refine drawStep ?_
        exact finR (l := []) (v := .tup []) (H₁ := [.cells 0 (msC w), .cells 0 (tC op num name k args)]) trivial (by kernel_rfl) (Ent.frD (l := []) (H' := [.cells 0 (msC w)]) trivial rfl (Nat.le_refl 1) trivial (bel1 _)) (by kernel_rfl) ⟨rfl, rfl⟩
    · have hi : i = args.length := by have : ¬ (i : Int) < args.length := hlt; omega
      clear hlt
      subst hi
      rw [List.drop_length, ttsWalk, ite_self] at h2
      subst h2
      repeat first | refine opsStep ?_ | refine codeStep ?_ | refine drawStep ?_
      exact finR (l := []) (v := .tup []) (H₁ := [.cells 0 (msC w), .cells 0 (tC op num name k args)]) trivial (by kernel_rfl) (Ent.frD (l := []) (H' := [.cells 0 (msC w)]) trivial rfl (Nat.le_refl 1) trivial (bel1 _)) (by kernel_rfl) ⟨rfl, rfl⟩

theorem r06_formula : ∀ (n : Nat) (f : FT), f.nodes ≤ n → f.ok → ∀ (m : Ms) (d : Nat), MsOk m d → ACall Tryd.prog 53 [.ref 0 0 0, .agg f.cells, .int .i64 d] [.cells 0 (msC m)] fun o H' => o = .ret (.tup []) ∧ H' = [.cells 0 (msC (f.walk d m))] := by
  intro n
  induction n with
  | zero => intro t h; rcases t with ⟨op, name, md, tk, terms, ak, args⟩; rw [FT.nodes] at h; omega
  | succ n ih =>
    intro f hnodes hok m d hm
    have hgood := r06_wellMade f (by cases f; rw [FT.ok] at hok; have := hok.2.1; show List.length _ < _; simp only [FT.name]; omega)
    rw [FT.cells_eq] at hgood ⊢
    rcases f with ⟨op, name, md, tk, terms, ak, args⟩
    have hwk : FT.walk ⟨op, name, md, tk, terms, ak, args⟩ d m = if (nodeM m d (goodF ⟨op, name, md, tk, terms, ak, args⟩)).err ≠ 0 then nodeM m d (goodF ⟨op, name, md, tk, terms, ak, args⟩) else if (ttsWalk terms (d + 1) (nodeM m d (goodF ⟨op, name, md, tk, terms, ak, args⟩))).err ≠ 0 then ttsWalk terms (d + 1) (nodeM m d (goodF ⟨op, name, md, tk, terms, ak, args⟩)) else ftsWalk args (d + 1) (ttsWalk terms (d + 1) (nodeM m d (goodF ⟨op, name, md, tk, terms, ak, args⟩))) := by rw [FT.walk]
    rw [FT.ok] at hok
    rw [FT.nodes] at hnodes
    generalize goodF ⟨op, name, md, tk, terms, ak, args⟩ = g at *
    generalize FT.walk ⟨op, name, md, tk, terms, ak, args⟩ d m = w at *
    simp only [FT.op, FT.name, FT.md, FT.tk, FT.terms, FT.ak, FT.args] at hgood ⊢
    have htl := hok.2.2.2.1
    have hto := hok.2.2.2.2.1
    have hal := hok.2.2.2.2.2.1
    have hao := hok.2.2.2.2.2.2
    have hd := hm.d
    have hdi : IntKind.wrap .i64 ((d : Int) + 1) = ((d + 1 : Nat) : Int) := by rw [IntWalk.i64_in _ (by omega)]; simp
    have hwk2 : w = (if (if (nodeM m d g).err ≠ 0 then nodeM m d g else ttsWalk terms (d + 1) (nodeM m d g)).err ≠ 0 then (if (nodeM m d g).err ≠ 0 then nodeM m d g else ttsWalk terms (d + 1) (nodeM m d g)) else ftsWalk args (d + 1) (if (nodeM m d g).err ≠ 0 then nodeM m d g else ttsWalk terms (d + 1) (nodeM m d g))) := by
      rw [hwk]
      by_cases hne : (nodeM m d g).err ≠ 0
      · rw [if_pos hne, if_pos hne, if_pos hne]
      · rw [if_neg hne, if_neg hne]
    clear hwk
    refine ACall.of_sw 59 Tryd.func53 rfl Tryd.ntmps53 (by kernel_rfl) (Nat.le_of_ble_eq_true (by kernel_rfl)) ?_; refine SW.of_vc ?_
    repeat first | refine opsStep ?_ | refine codeStep ?_ | refine drawStep ?_
    refine callP hgood ?_
    repeat first | refine opsStep ?_ | refine codeStep ?_ | refine drawStep ?_
    refine callT (args := [.ref 0 0 0, .int .i64 d, .bool g]) (r06_node m d g hm) [.cells 0 (fC5 op name md tk terms ak args)] rfl rfl (by simp [bels, AV.bel]) (bel1 m) (bel1 _) (by simp [AV.bel, bels]) ?_
    have hm1 : (nodeM m d g).err = 0 → MsOk (nodeM m d g) (d + 1) := fun e => nodeM_bd hm e
    generalize nodeM m d g = m1 at *
    repeat first | refine opsStep ?_ | refine codeStep ?_ | refine drawStep ?_
    refine loopE_of (ι := {x : Nat × Ms // x.1 ≤ terms.length ∧ (if m1.err ≠ 0 then m1 else ttsWalk terms (d + 1) m1) = (if x.2.err ≠ 0 then x.2 else ttsWalk (terms.drop x.1) (d + 1) x.2) ∧ (x.2.err = 0 → MsOk x.2 (d + 1))}) (fun x => (fr [(0, .ref 0 0 0), (2, .int .i64 d), (4, .ref 1 0 0), (6, .int .i64 x.1.1)], [.cells 0 (msC x.1.2), .cells 0 (fC5 op name md tk terms ak args)])) (fun x => terms.length - x.1.1)
      ⟨(0, m1), Nat.zero_le _, rfl, hm1⟩ (Ent.fr' ⟨(by kernel_rfl), (by kernel_rfl), (by kernel_rfl), (by kernel_rfl), trivial⟩ (by kernel_rfl)) ?_
    rintro ⟨⟨i, mi⟩, h1, h2, h3⟩
    simp only at h1 h2 h3
    have fin : ∀ {ms : Ms}, (if m1.err ≠ 0 then m1 else ttsWalk terms (d + 1) m1) = ms → (ms.err = 0 → MsOk ms (d + 1)) → w = (if ms.err ≠ 0 then ms else ftsWalk args (d + 1) ms) := fun e _ => by rw [← e]; exact hwk2
    repeat first | refine opsStep ?_ | refine codeStep ?_ | refine drawStep ?_
    refine decB_dec (fun hlt => ?_) (fun hlt => ?_)
    · have hi : i < terms.length := by have : (i : Int) < terms.length := hlt; omega
      clear hlt
      repeat first | refine opsStep ?_ | refine codeStep ?_ | refine drawStep ?_
      refine decB_dec (fun he => ?_) (fun he => ?_)
      · have he : mi.err = 0 := he
        rw [if_neg (c := mi.err ≠ 0) (by simp [he])] at h2
        have hld : ((ttsC terms).drop ((i : Int).toNat * 4)).take 4 = (terms[i]'hi).cells := by rw [Int.toNat_natCast]; exact ttsC_at hi
        have hfit : 4 ≤ ((ttsC terms).drop ((i : Int).toNat * 4)).length := by rw [List.length_drop, ttsC_len, Int.toNat_natCast]; omega
        have hrec := r06_term _ (terms[i]'hi) (Nat.le_refl _) (ttsOk_iff.1 hto _ (List.getElem_mem hi)) mi (d + 1) (h3 he)
        have hstep := ttsWalk_drop hi (d + 1) mi
        rw [← h2] at hstep
        have hao' := @TT.walk_ok (terms[i]'hi) (d + 1) mi (h3 he)
        have haB : bels 1 (terms[i]'hi).cells := closeds_bel _ (TT.cells_closed (terms[i]'hi))
        rw [← hld, ← hdi] at hrec
        rw [← hld] at haB
        generalize TT.walk (terms[i]'hi) (d + 1) mi = wi at *
        repeat first | refine opsStep ?_ | refine codeStep ?_ | refine drawStep ?_
        refine guardE_of ⟨by omega, by show (i : Int) < terms.length; omega⟩ ?_
        repeat first | refine opsStep ?_ | refine codeStep ?_ | refine drawStep ?_
        refine guardE_of hfit ?_
        repeat first | refine opsStep ?_ | refine codeStep ?_ | refine drawStep ?_
        refine callT (args := [.ref 0 0 0, .agg (((ttsC terms).drop ((i : Int).toNat * 4)).take 4), .int .i64 (IntKind.wrap .i64 ((d : Int) + 1))]) hrec [.cells 0 (fC5 op name md tk terms ak args)] rfl rfl (by simp only [bels, AV.bel]; exact ⟨by show 0 < 1; decide, haB, trivial, trivial⟩) (bel1 mi) (bel1 _) (by simp [AV.bel, bels]) ?_
        repeat first | refine opsStep ?_ | refine codeStep ?_ | refine drawStep ?_
        exact ⟨⟨(i + 1, wi), hi, hstep, hao'⟩, (by show terms.length - (i + 1) < terms.length - i; omega), Ent.fr' ⟨(by kernel_rfl), (by kernel_rfl), (by kernel_rfl), inc_slot (i := i) (by omega), trivial⟩ (by kernel_rfl)⟩
      · have he : ¬ mi.err = 0 := he
        rw [if_pos (c := mi.err ≠ 0) he] at h2
        have hw := fin h2 h3
        repeat first | refine opsStep ?_ | refine codeStep ?_ | refine drawStep ?_
        refine loopE_of (ι := {x : Nat × Ms // x.1 ≤ args.length ∧ w = (if x.2.err ≠ 0 then x.2 else ftsWalk (args.drop x.1) (d + 1) x.2) ∧ (x.2.err = 0 → MsOk x.2 (d + 1))}) (fun x => (fr [(0, .ref 0 0 0), (2, .int .i64 d), (4, .ref 1 0 0), (7, .int .i64 x.1.1)], [.cells 0 (msC x.1.2), .cells 0 (fC5 op name md tk terms ak args)])) (fun x => args.length - x.1.1)
          ⟨(0, mi), Nat.zero_le _, hw, h3⟩ (Ent.fr' ⟨(by kernel_rfl), (by kernel_rfl), (by kernel_rfl), (by kernel_rfl), trivial⟩ (by kernel_rfl)) ?_
        rintro ⟨⟨j, mj⟩, k1, k2, k3⟩
        simp only at k1 k2 k3
        repeat first | refine opsStep ?_ | refine codeStep ?_ | refine drawStep ?_
        refine decB_dec (fun hlt => ?_) (fun hlt => ?_)
        · have hj : j < args.length := by have : (j : Int) < args.length := hlt; omega
          clear hlt
          repeat first | refine opsStep ?_ | refine codeStep ?_ | refine drawStep ?_
          refine decB_dec (fun he => ?_) (fun he => ?_)
          · have he : mj.err = 0 := he
            rw [if_neg (by simp [he])] at k2
            have hld : ((ftsC args).drop ((j : Int).toNat * 5)).take 5 = (args[j]'hj).cells := by rw [Int.toNat_natCast]; exact ftsC_at hj
            have hfit : 5 ≤ ((ftsC args).drop ((j : Int).toNat * 5)).length := by rw [List.length_drop, ftsC_len, Int.toNat_natCast]; omega
            have hrec := ih (args[j]'hj) (by have := fts_nodes hj; omega) (ftsOk_iff.1 hao _ (List.getElem_mem hj)) mj (d + 1) (k3 he)
            have hstep := ftsWalk_drop hj (d + 1) mj
            rw [← k2] at hstep
            have hao' := @FT.walk_ok (args[j]'hj) (d + 1) mj (k3 he)
            have haB : bels 1 (args[j]'hj).cells := closeds_bel _ (FT.cells_closed (args[j]'hj))
            rw [← hld, ← hdi] at hrec
            rw [← hld] at haB
            generalize FT.walk (args[j]'hj) (d + 1) mj = wj at *
            repeat first | refine opsStep ?_ | refine codeStep ?_ | refine drawStep ?_
            refine guardE_of ⟨by omega, by show (j : Int) < args.length; omega⟩ ?_
            repeat first | refine opsStep ?_ | refine codeStep ?_ | refine drawStep ?_
            refine guardE_of hfit ?_
            repeat first | refine opsStep ?_ | refine codeStep ?_ | refine drawStep ?_
            refine callT (args := [.ref 0 0 0, .agg (((ftsC args).drop ((j : Int).toNat * 5)).take 5), .int .i64 (IntKind.wrap .i64 ((d : Int) + 1))]) hrec [.cells 0 (fC5 op name md tk terms ak args)] rfl rfl (by simp only [bels, AV.bel]; exact ⟨by show 0 < 1; decide, haB, trivial, trivial⟩) (bel1 mj) (bel1 _) (by simp [AV.bel, bels]) ?_
            repeat first | refine opsStep ?_ | refine codeStep ?_ | refine drawStep ?_
            exact ⟨⟨(j + 1, wj), hj, hstep, hao'⟩, (by show args.length - (j + 1) < args.length - j; omega), Ent.fr' ⟨(by kernel_rfl), (by kernel_rfl), (by kernel_rfl), inc_slot (i := j) (by omega), trivial⟩ (by kernel_rfl)⟩
          · have he : ¬ mj.err = 0 := he
            rw [if_pos he] at k2
            subst k2
            repeat first | refine opsStep ?_ | refine codeStep ?_ | refine drawStep ?_
            exact finR (l := []) (v := .tup []) (H₁ := [.cells 0 (msC w), .cells 0 (fC5 op name md tk terms ak args)]) trivial (by kernel_rfl) (Ent.frD (l := []) (H' := [.cells 0 (msC w)]) trivial rfl (Nat.le_refl 1) trivial (bel1 _)) (by kernel_rfl) ⟨rfl, rfl⟩
        · have hj : j = args.length := by have : ¬ (j : Int) < args.length := hlt; omega
          clear hlt
          subst hj
          rw [List.drop_length, ftsWalk, ite_self] at k2
          subst k2
          repeat first | refine opsStep ?_ | refine codeStep ?_ | refine drawStep ?_
          exact finR (l := []) (v := .tup []) (H₁ := [.cells 0 (msC w), .cells 0 (fC5 op name md tk terms ak args)]) trivial (by kernel_rfl) (Ent.frD (l := []) (H' := [.cells 0 (msC w)]) trivial rfl (Nat.le_refl 1) trivial (bel1 _)) (by kernel_rfl) ⟨rfl, rfl⟩
    · have hi : i = terms.length := by have : ¬ (i : Int) < terms.length := hlt; omega
      clear hlt
      subst hi
      rw [List.drop_length, ttsWalk, ite_self] at h2
      have hw := fin h2 h3
      repeat first | refine opsStep ?_ | refine codeStep ?_ | refine drawStep ?_
      refine loopE_of (ι := {x : Nat × Ms // x.1 ≤ args.length ∧ w = (if x.2.err ≠ 0 then x.2 else ftsWalk (args.drop x.1) (d + 1) x.2) ∧ (x.2.err = 0 → MsOk x.2 (d + 1))}) (fun x => (fr [(0, .ref 0 0 0), (2, .int .i64 d), (4, .ref 1 0 0), (7, .int .i64 x.1.1)], [.cells 0 (msC x.1.2), .cells 0 (fC5 op name md tk terms ak args)])) (fun x => args.length - x.1.1)
        ⟨(0, mi), Nat.zero_le _, hw, h3⟩ (Ent.fr' ⟨(by kernel_rfl), (by kernel_rfl), (by kernel_rfl), (by kernel_rfl), trivial⟩ (by kernel_rfl)) ?_
      rintro ⟨⟨j, mj⟩, k1, k2, k3⟩
      simp only at k1 k2 k3
      repeat first | refine opsStep ?_ | refine codeStep ?_ | refine drawStep ?_
      refine decB_dec (fun hlt => ?_) (fun hlt => ?_)
      · have hj : j < args.length := by have : (j : Int) < args.length := hlt; omega
        clear hlt
        repeat first | refine opsStep ?_ | refine codeStep ?_ | refine drawStep ?_
        refine decB_dec (fun he => ?_) (fun he => ?_)
        · have he : mj.err = 0 := he
          rw [if_neg (by simp [he])] at k2
          have hld : ((ftsC args).drop ((j : Int).toNat * 5)).take 5 = (args[j]'hj).cells := by rw [Int.toNat_natCast]; exact ftsC_at hj
          have hfit : 5 ≤ ((ftsC args).drop ((j : Int).toNat * 5)).length := by rw [List.length_drop, ftsC_len, Int.toNat_natCast]; omega
          have hrec := ih (args[j]'hj) (by have := fts_nodes hj; omega) (ftsOk_iff.1 hao _ (List.getElem_mem hj)) mj (d + 1) (k3 he)
          have hstep := ftsWalk_drop hj (d + 1) mj
          rw [← k2] at hstep
          have hao' := @FT.walk_ok (args[j]'hj) (d + 1) mj (k3 he)
          have haB : bels 1 (args[j]'hj).cells := closeds_bel _ (FT.cells_closed (args[j]'hj))
          rw [← hld, ← hdi] at hrec
          rw [← hld] at haB
          generalize FT.walk (args[j]'hj) (d + 1) mj = wj at *
          repeat first | refine opsStep ?_ | refine codeStep ?_ | refine drawStep ?_
          refine guardE_of ⟨by omega, by show (j : Int) < args.length; omega⟩ ?_
          repeat first | refine opsStep ?_ | refine codeStep ?_ | refine drawStep ?_
          refine guardE_of hfit ?_
          repeat first | refine opsStep ?_ | refine codeStep ?_ | refine drawStep ?_
          refine callT (args := [.ref 0 0 0, .agg (((ftsC args).drop ((j : Int).toNat * 5)).take 5), .int .i64 (IntKind.wrap .i64 ((d : Int) + 1))]) hrec [.cells 0 (fC5 op name md tk terms ak args)] rfl rfl (by simp only [bels, AV.bel]; exact ⟨by show 0 < 1; decide, haB, trivial, trivial⟩) (bel1 mj) (bel1 _) (by simp [AV.bel, bels]) ?_
          repeat first | refine opsStep ?_ | refine codeStep ?_ | refine drawStep ?_
          exact ⟨⟨(j + 1, wj), hj, hstep, hao'⟩, (by show args.length - (j + 1) < args.length - j; omega), Ent.fr' ⟨(by kernel_rfl), (by kernel_rfl), (by kernel_rfl), inc_slot (i := j) (by omega), trivial⟩ (by kernel_rfl)⟩
        · have he : ¬ mj.err = 0 := he
          rw [if_pos he] at k2
          subst k2
          repeat first | refine opsStep ?_ | refine codeStep ?_ | refine drawStep ?_
          exact finR (l := []) (v := .tup []) (H₁ := [.cells 0 (msC w), .cells 0 (fC5 op name md tk terms ak args)]) trivial (by kernel_rfl) (Ent.frD (l := []) (H' := [.cells 0 (msC w)]) trivial rfl (Nat.le_refl 1) trivial (bel1 _)) (by kernel_rfl) ⟨rfl, rfl⟩
      · have hj : j = args.length := by have : ¬ (j : Int) < args.length := hlt; omega
        clear hlt
        subst hj
        rw [List.drop_length, ftsWalk, ite_self] at k2
        subst k2
        repeat first | refine opsStep ?_ | refine codeStep ?_ | refine drawStep ?_
        exact finR (l := []) (v := .tup []) (H₁ := [.cells 0 (msC w), .cells 0 (fC5 op name md tk terms ak args)]) trivial (by kernel_rfl) (Ent.frD (l := []) (H' := [.cells 0 (msC w)]) trivial rfl (Nat.le_refl 1) trivial (bel1 _)) (by kernel_rfl) ⟨rfl, rfl⟩

theorem r06_CheckTerm (t : TT) (hok : t.ok) : Pure Tryd.prog 18 [.agg t.cells] (.int .i64 (chkT t)) := by
  have hw := r06_term _ t (Nat.le_refl _) hok ms0 1 ⟨by decide, by decide, by decide⟩
  have hxl := TT.cells_len t
  have hxc := TT.cells_closed t
  rw [chkT]
  generalize TT.walk t 1 ms0 = m at *
  generalize t.cells = x at *
  have hcl : (x.drop 0).take 4 = x := by rw [List.drop_zero, List.take_of_length_le (by omega)]
  refine Pure.of_sw 13 Tryd.func18 rfl Tryd.ntmps18 (by kernel_rfl) (Nat.le_of_ble_eq_true (by kernel_rfl)) (by simp only [closeds, AV.closed]; exact ⟨hxc, trivial⟩) (by simp only [AV.closed]) ?_
  refine SW.of_vc ?_
  repeat first | refine opsStep ?_ | refine codeStep ?_ | refine drawStep ?_
  refine guardE_of (by show 0 + 4 ≤ x.length; omega) ?_
  repeat first | refine opsStep ?_ | refine codeStep ?_ | refine drawStep ?_
  refine callF (args := [.ref 0 0 0, .agg x, .int .i64 1]) («as» := [.ref 1 0 0, .agg ((x.drop 0).take 4), .int .i64 1]) [1] hw (by decide) (by intro b hb; simp at hb; show b < 2; omega) rfl ?_ ?_ ?_ ?_ ?_
  · rfl
  · simp only [bels, AV.bel]; exact ⟨by show 0 < 1; decide, closeds_bel _ hxc, trivial, trivial⟩
  · exact bel1 _
  · rw [hcl]
    simp only [rns, AV.rn, closeds_rn _ hxc]
    rfl
  rintro _ _ ⟨rfl, rfl⟩
  repeat first | refine opsStep ?_ | refine codeStep ?_ | refine drawStep ?_
  exact finV (v' := .int .i64 m.err) (by kernel_rfl) rfl

theorem r06_Measure (t : FT) (hok : t.ok) : Pure Tryd.prog 33 [.agg t.cells] (.agg (msC (t.walk 1 ms0))) := by
  have hw := r06_formula _ t (Nat.le_refl _) hok ms0 1 ⟨by decide, by decide, by decide⟩
  have hxl := FT.cells_len t
  have hxc := FT.cells_closed t
  generalize FT.walk t 1 ms0 = m at *
  generalize t.cells = x at *
  have hcl : (x.drop 0).take 5 = x := by rw [List.drop_zero, List.take_of_length_le (by omega)]
  refine Pure.of_sw 12 Tryd.func33 rfl Tryd.ntmps33 (by kernel_rfl) (Nat.le_of_ble_eq_true (by kernel_rfl)) (by simp only [closeds, AV.closed]; exact ⟨hxc, trivial⟩) (by simp only [AV.closed]; exact msC_closed _) ?_
  refine SW.of_vc ?_
  repeat first | refine opsStep ?_ | refine codeStep ?_ | refine drawStep ?_
  refine guardE_of (by show 0 + 5 ≤ x.length; omega) ?_
  repeat first | refine opsStep ?_ | refine codeStep ?_ | refine drawStep ?_
  refine callF (args := [.ref 0 0 0, .agg x, .int .i64 1]) («as» := [.ref 2 0 0, .agg ((x.drop 0).take 5), .int .i64 1]) [2] hw (by decide) (by intro b hb; simp at hb; show b < 3; omega) rfl ?_ ?_ ?_ ?_ ?_
  · rfl
  · simp only [bels, AV.bel]; exact ⟨by show 0 < 1; decide, closeds_bel _ hxc, trivial, trivial⟩
  · exact bel1 _
  · rw [hcl]
    simp only [rns, AV.rn, closeds_rn _ hxc]
    rfl
  rintro _ _ ⟨rfl, rfl⟩
  repeat first | refine opsStep ?_ | refine codeStep ?_ | refine drawStep ?_
  refine finV (v' := .agg (((msC ms0).take 0 ++ msC m) ++ (msC ms0).drop 3)) (by kernel_rfl) ?_
  simp [msC]

theorem r06_Check (t : FT) (hok : t.ok) : Pure Tryd.prog 14 [.agg t.cells] (.int .i64 (chkF t)) := by
  have hm := r06_Measure t hok
  have hxl := FT.cells_len t
  have hxc := FT.cells_closed t
  rw [chkF]
  generalize FT.walk t 1 ms0 = m at *
  generalize t.cells = x at *
  have hcl : (x.drop 0).take 5 = x := by rw [List.drop_zero, List.take_of_length_le (by omega)]
  have hm' : Pure Tryd.prog 33 [.agg ((x.drop 0).take 5)] (.agg (msC m)) := by rw [hcl]; exact hm
  refine Pure.of_sw 6 Tryd.func14 rfl Tryd.ntmps14 (by kernel_rfl) (Nat.le_of_ble_eq_true (by kernel_rfl)) (by simp only [closeds, AV.closed]; exact ⟨hxc, trivial⟩) (by simp only [AV.closed]) ?_
  refine SW.of_vc ?_
  repeat first | refine opsStep ?_ | refine codeStep ?_ | refine drawStep ?_
  refine guardE_of (by show 0 + 5 ≤ x.length; omega) ?_
  repeat first | refine opsStep ?_ | refine codeStep ?_ | refine drawStep ?_
  refine callP hm' ?_
  repeat first | refine opsStep ?_ | refine codeStep ?_ | refine drawStep ?_
  exact finV (v' := .int .i64 m.err) (by kernel_rfl) rfl

end Tab

/- The laws ShowFormulas and ShowTerms. -/
namespace Tab
open Go Go.Proofs
set_option maxRecDepth 10000
set_option linter.unusedVariables false
set_option linter.unusedSimpArgs false
set_option linter.unusedSectionVars false
set_option maxHeartbeats 1000000

theorem showTerms (t : TT) (hok : t.ok) : Pure Tryd.prog 4 [.agg t.cells] (.bool true) := by
  have h1 := show_Term t hok
  have h2 := r06_CheckTerm t hok
  have h3 : chkT t = 0 → Pure Tryd.prog 19 [.agg t.cells] (.str t.tx) := fun h => by
    obtain ⟨h1, h2⟩ := chkT_right h
    exact r08Term _ t (Nat.le_refl _) h2 h1 hok
  have hf := law_fixed
  have hcl : (t.cells.drop 0).take 4 = t.cells := by rw [List.drop_zero, List.take_of_length_le (by rw [TT.cells_len]; omega)]
  have hlen := TT.cells_len t
  have hcc := TT.cells_closed t
  generalize chkT t = c at *
  generalize t.tx = x at *
  generalize t.cells = y at *
  rw [← hcl] at h1 h2 h3
  refine Pure.of_sw 28 Tryd.func4 rfl Tryd.ntmps4 (by kernel_rfl) (Nat.le_of_ble_eq_true (by kernel_rfl)) (by simp only [closeds, AV.closed]; exact ⟨hcc, trivial⟩) (by simp only [AV.closed]) ?_
  refine SW.of_vc ?_
  repeat first | refine opsStep ?_ | refine codeStep ?_ | refine drawStep ?_
  refine guardE_of (by show 0 + 4 ≤ y.length; omega) ?_
  repeat first | refine opsStep ?_ | refine codeStep ?_ | refine drawStep ?_
  refine callP (args := [.agg ((y.drop 0).take 4)]) h1 ?_
  repeat first | refine opsStep ?_ | refine codeStep ?_ | refine drawStep ?_
  refine guardE_of (by show 0 + 4 ≤ y.length; omega) ?_
  repeat first | refine opsStep ?_ | refine codeStep ?_ | refine drawStep ?_
  refine callP (args := [.agg ((y.drop 0).take 4)]) h2 ?_
  repeat first | refine opsStep ?_ | refine codeStep ?_ | refine drawStep ?_
  refine callP hf ?_
  repeat first | refine opsStep ?_ | refine codeStep ?_ | refine drawStep ?_
  refine decB_dec (fun k => ?_) (fun k => ?_)
  · exact absurd rfl (show c ≠ c from k)
  repeat first | refine opsStep ?_ | refine codeStep ?_ | refine drawStep ?_
  refine decB_dec (fun h => ?_) (fun h => ?_)
  · have h : c ≠ 0 := h
    repeat first | refine opsStep ?_ | refine codeStep ?_ | refine drawStep ?_
    exact finV (v' := .bool (decide ((if c = 0 then x else []) = []))) (by kernel_rfl) (by rw [if_neg h]; rfl)
  · have h : c = 0 := Decidable.of_not_not h
    repeat first | refine opsStep ?_ | refine codeStep ?_ | refine drawStep ?_
    refine guardE_of (by show 0 + 4 ≤ y.length; omega) ?_
    repeat first | refine opsStep ?_ | refine codeStep ?_ | refine drawStep ?_
    refine callP (args := [.agg ((y.drop 0).take 4)]) (h3 h) ?_
    repeat first | refine opsStep ?_ | refine codeStep ?_ | refine drawStep ?_
    exact finV (v' := .bool (decide ((if c = 0 then x else []) = x))) (by kernel_rfl) (by rw [if_pos h]; simp)

theorem showFormulas (t : FT) (hok : t.ok) : Pure Tryd.prog 3 [.agg t.cells] (.bool true) := by
  have h1 := show_Formula t hok
  have h2 := r06_Check t hok
  have h3 : chkF t = 0 → Pure Tryd.prog 16 [.agg t.cells] (.str t.tx) := fun h => by
    obtain ⟨h1, h2⟩ := chkF_right h
    exact r08Formula _ t (Nat.le_refl _) h2 h1 hok
  have hf := law_fixed
  have hcl : (t.cells.drop 0).take 5 = t.cells := by rw [List.drop_zero, List.take_of_length_le (by rw [FT.cells_len]; omega)]
  have hlen := FT.cells_len t
  have hcc := FT.cells_closed t
  generalize chkF t = c at *
  generalize t.tx = x at *
  generalize t.cells = y at *
  rw [← hcl] at h1 h2 h3
  refine Pure.of_sw 28 Tryd.func3 rfl Tryd.ntmps3 (by kernel_rfl) (Nat.le_of_ble_eq_true (by kernel_rfl)) (by simp only [closeds, AV.closed]; exact ⟨hcc, trivial⟩) (by simp only [AV.closed]) ?_
  refine SW.of_vc ?_
  repeat first | refine opsStep ?_ | refine codeStep ?_ | refine drawStep ?_
  refine guardE_of (by show 0 + 5 ≤ y.length; omega) ?_
  repeat first | refine opsStep ?_ | refine codeStep ?_ | refine drawStep ?_
  refine callP (args := [.agg ((y.drop 0).take 5)]) h1 ?_
  repeat first | refine opsStep ?_ | refine codeStep ?_ | refine drawStep ?_
  refine guardE_of (by show 0 + 5 ≤ y.length; omega) ?_
  repeat first | refine opsStep ?_ | refine codeStep ?_ | refine drawStep ?_
  refine callP (args := [.agg ((y.drop 0).take 5)]) h2 ?_
  repeat first | refine opsStep ?_ | refine codeStep ?_ | refine drawStep ?_
  refine callP hf ?_
  repeat first | refine opsStep ?_ | refine codeStep ?_ | refine drawStep ?_
  refine decB_dec (fun k => ?_) (fun k => ?_)
  · exact absurd rfl (show c ≠ c from k)
  repeat first | refine opsStep ?_ | refine codeStep ?_ | refine drawStep ?_
  refine decB_dec (fun h => ?_) (fun h => ?_)
  · have h : c ≠ 0 := h
    repeat first | refine opsStep ?_ | refine codeStep ?_ | refine drawStep ?_
    exact finV (v' := .bool (decide ((if c = 0 then x else []) = []))) (by kernel_rfl) (by rw [if_neg h]; rfl)
  · have h : c = 0 := Decidable.of_not_not h
    repeat first | refine opsStep ?_ | refine codeStep ?_ | refine drawStep ?_
    refine guardE_of (by show 0 + 5 ≤ y.length; omega) ?_
    repeat first | refine opsStep ?_ | refine codeStep ?_ | refine drawStep ?_
    refine callP (args := [.agg ((y.drop 0).take 5)]) (h3 h) ?_
    repeat first | refine opsStep ?_ | refine codeStep ?_ | refine drawStep ?_
    exact finV (v' := .bool (decide ((if c = 0 then x else []) = x))) (by kernel_rfl) (by rw [if_pos h]; simp)

end Tab
