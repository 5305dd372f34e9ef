/- Lemmas for this claim: part 11. No condition. -/
import Derived.Test.YtiflemdfnjgobaaDoorZ9
import Derived.Test.YtiflemdfnjgobaaDoorZ10
/- Nodes of formulas that are well made, by the document. -/
namespace Tab
open Go Go.Proofs
set_option maxRecDepth 10000
set_option linter.unusedVariables false
set_option linter.unusedSimpArgs false
set_option linter.unusedSectionVars false
set_option maxHeartbeats 4000000

theorem r06_wellMade (f : FT) (hn : f.name.length < 2^62) : Pure Tryd.prog 80 [.agg f.cells] (.bool (goodF f)) := by
  rw [FT.cells_eq]
  rcases f with ⟨op, name, md, tk, terms, ak, args⟩
  simp only [FT.op, FT.name, FT.md, FT.tk, FT.terms, FT.ak, FT.args] at hn ⊢
  have hL0 : ((args.length : Int) = 0) ↔ args.length = 0 := by omega
  have hL1 : ((args.length : Int) = 1) ↔ args.length = 1 := by omega
  have hL2 : ((args.length : Int) = 2) ↔ args.length = 2 := by omega
  have hT0 : ((terms.length : Int) = 0) ↔ terms.length = 0 := by omega
  have hT2 : ((terms.length : Int) = 2) ↔ terms.length = 2 := by omega
  by_cases hr : 0 ≤ op ∧ op ≤ 15
  · rcases (by omega : op = 0 ∨ op = 1 ∨ op = 2 ∨ op = 3 ∨ op = 4 ∨ op = 5 ∨ op = 6 ∨ op = 7 ∨ op = 8 ∨ op = 9 ∨ op = 10 ∨ op = 11 ∨ op = 12 ∨ op = 13 ∨ op = 14 ∨ op = 15) with hop | hop | hop | hop | hop | hop | hop | hop | hop | hop | hop | hop | hop | hop | hop | hop
    · subst hop
      refine Pure.of_sw 73 Tryd.func80 rfl Tryd.ntmps80 (by kernel_rfl) (Nat.le_of_ble_eq_true (by kernel_rfl)) (by simp only [closeds]; exact ⟨fC5_closed 0 name md tk terms ak args, trivial⟩) (by simp only [AV.closed]) ?_
      refine SW.of_vc ?_
      repeat' first | refine opsStep ?_ | refine codeStep ?_ | refine decB_split (fun h => ?_) (fun h => ?_)
      any_goals exact finB rfl (by first | (simp_all [goodF, FT.op, FT.name, FT.md, FT.terms, FT.args]; done) | (clear hr; simp only [goodF, FT.op, FT.name, FT.md, FT.terms, FT.args]; by_cases q1 : name = [] <;> by_cases q2 : md = 0 <;> by_cases q3 : 1 ≤ md <;> by_cases q4 : nameS name = true <;> by_cases q5 : terms = [] <;> by_cases q6 : args = [] <;> simp_all <;> first | rfl | omega | exact decide_eq_false (by omega) | (intro hh; exact absurd (of_decide_eq_true hh) (by omega))))
      refine optX_of (c := [0, 0, 1, 2, 2, 2, 2, 1, 1, 0, 0, 0, 0, 0, 0, 0].map (.int .i64)) (by kernel_rfl) ?_
      repeat first | refine opsStep ?_ | refine codeStep ?_ | refine drawStep ?_
      refine SW.drawn rfl (by kernel_rfl) ?_
      repeat' first | refine drawStep ?_ | refine decB_split (fun h => ?_) (fun h => ?_)
      all_goals
        refine ⟨by kernel_rfl, ?_⟩
        repeat first | refine opsStep ?_ | refine codeStep ?_ | refine drawStep ?_
        exact finB rfl (by first | (simp_all [goodF, FT.op, FT.name, FT.md, FT.terms, FT.args]; done) | (clear hr; simp only [goodF, FT.op, FT.name, FT.md, FT.terms, FT.args]; by_cases q1 : name = [] <;> by_cases q2 : md = 0 <;> by_cases q3 : 1 ≤ md <;> by_cases q4 : nameS name = true <;> by_cases q5 : terms = [] <;> by_cases q6 : args = [] <;> simp_all <;> first | rfl | omega | exact decide_eq_false (by omega) | (intro hh; exact absurd (of_decide_eq_true hh) (by omega))))
    · subst hop
      refine Pure.of_sw 73 Tryd.func80 rfl Tryd.ntmps80 (by kernel_rfl) (Nat.le_of_ble_eq_true (by kernel_rfl)) (by simp only [closeds]; exact ⟨fC5_closed 1 name md tk terms ak args, trivial⟩) (by simp only [AV.closed]) ?_
      refine SW.of_vc ?_
      repeat' first | refine opsStep ?_ | refine codeStep ?_ | refine decB_split (fun h => ?_) (fun h => ?_)
      any_goals exact finB rfl (by first | (simp_all [goodF, FT.op, FT.name, FT.md, FT.terms, FT.args]; done) | (clear hr; simp only [goodF, FT.op, FT.name, FT.md, FT.terms, FT.args]; by_cases q1 : name = [] <;> by_cases q2 : md = 0 <;> by_cases q3 : 1 ≤ md <;> by_cases q4 : nameS name = true <;> by_cases q5 : terms = [] <;> by_cases q6 : args = [] <;> simp_all <;> first | rfl | omega | exact decide_eq_false (by omega) | (intro hh; exact absurd (of_decide_eq_true hh) (by omega))))
      refine optX_of (c := [0, 0, 1, 2, 2, 2, 2, 1, 1, 0, 0, 0, 0, 0, 0, 0].map (.int .i64)) (by kernel_rfl) ?_
      repeat first | refine opsStep ?_ | refine codeStep ?_ | refine drawStep ?_
      refine SW.drawn rfl (by kernel_rfl) ?_
      repeat' first | refine drawStep ?_ | refine decB_split (fun h => ?_) (fun h => ?_)
      all_goals
        refine ⟨by kernel_rfl, ?_⟩
        repeat first | refine opsStep ?_ | refine codeStep ?_ | refine drawStep ?_
        exact finB rfl (by first | (simp_all [goodF, FT.op, FT.name, FT.md, FT.terms, FT.args]; done) | (clear hr; simp only [goodF, FT.op, FT.name, FT.md, FT.terms, FT.args]; by_cases q1 : name = [] <;> by_cases q2 : md = 0 <;> by_cases q3 : 1 ≤ md <;> by_cases q4 : nameS name = true <;> by_cases q5 : terms = [] <;> by_cases q6 : args = [] <;> simp_all <;> first | rfl | omega | exact decide_eq_false (by omega) | (intro hh; exact absurd (of_decide_eq_true hh) (by omega))))
    · subst hop
      refine Pure.of_sw 73 Tryd.func80 rfl Tryd.ntmps80 (by kernel_rfl) (Nat.le_of_ble_eq_true (by kernel_rfl)) (by simp only [closeds]; exact ⟨fC5_closed 2 name md tk terms ak args, trivial⟩) (by simp only [AV.closed]) ?_
      refine SW.of_vc ?_
      repeat' first | refine opsStep ?_ | refine codeStep ?_ | refine decB_split (fun h => ?_) (fun h => ?_)
      any_goals exact finB rfl (by first | (simp_all [goodF, FT.op, FT.name, FT.md, FT.terms, FT.args]; done) | (clear hr; simp only [goodF, FT.op, FT.name, FT.md, FT.terms, FT.args]; by_cases q1 : name = [] <;> by_cases q2 : md = 0 <;> by_cases q3 : 1 ≤ md <;> by_cases q4 : nameS name = true <;> by_cases q5 : terms = [] <;> by_cases q6 : args = [] <;> simp_all <;> first | rfl | omega | exact decide_eq_false (by omega) | (intro hh; exact absurd (of_decide_eq_true hh) (by omega))))
      refine optX_of (c := [0, 0, 1, 2, 2, 2, 2, 1, 1, 0, 0, 0, 0, 0, 0, 0].map (.int .i64)) (by kernel_rfl) ?_
      repeat first | refine opsStep ?_ | refine codeStep ?_ | refine drawStep ?_
      refine SW.drawn rfl (by kernel_rfl) ?_
      repeat' first | refine drawStep ?_ | refine decB_split (fun h => ?_) (fun h => ?_)
      all_goals
        refine ⟨by kernel_rfl, ?_⟩
        repeat first | refine opsStep ?_ | refine codeStep ?_ | refine drawStep ?_
        exact finB rfl (by first | (simp_all [goodF, FT.op, FT.name, FT.md, FT.terms, FT.args]; done) | (clear hr; simp only [goodF, FT.op, FT.name, FT.md, FT.terms, FT.args]; by_cases q1 : name = [] <;> by_cases q2 : md = 0 <;> by_cases q3 : 1 ≤ md <;> by_cases q4 : nameS name = true <;> by_cases q5 : terms = [] <;> by_cases q6 : args = [] <;> simp_all <;> first | rfl | omega | exact decide_eq_false (by omega) | (intro hh; exact absurd (of_decide_eq_true hh) (by omega))))
    · subst hop
      refine Pure.of_sw 73 Tryd.func80 rfl Tryd.ntmps80 (by kernel_rfl) (Nat.le_of_ble_eq_true (by kernel_rfl)) (by simp only [closeds]; exact ⟨fC5_closed 3 name md tk terms ak args, trivial⟩) (by simp only [AV.closed]) ?_
      refine SW.of_vc ?_
      repeat' first | refine opsStep ?_ | refine codeStep ?_ | refine decB_split (fun h => ?_) (fun h => ?_)
      any_goals exact finB rfl (by first | (simp_all [goodF, FT.op, FT.name, FT.md, FT.terms, FT.args]; done) | (clear hr; simp only [goodF, FT.op, FT.name, FT.md, FT.terms, FT.args]; by_cases q1 : name = [] <;> by_cases q2 : md = 0 <;> by_cases q3 : 1 ≤ md <;> by_cases q4 : nameS name = true <;> by_cases q5 : terms = [] <;> by_cases q6 : args = [] <;> simp_all <;> first | rfl | omega | exact decide_eq_false (by omega) | (intro hh; exact absurd (of_decide_eq_true hh) (by omega))))
      refine optX_of (c := [0, 0, 1, 2, 2, 2, 2, 1, 1, 0, 0, 0, 0, 0, 0, 0].map (.int .i64)) (by kernel_rfl) ?_
      repeat first | refine opsStep ?_ | refine codeStep ?_ | refine drawStep ?_
      refine SW.drawn rfl (by kernel_rfl) ?_
      repeat' first | refine drawStep ?_ | refine decB_split (fun h => ?_) (fun h => ?_)
      all_goals
        refine ⟨by kernel_rfl, ?_⟩
        repeat first | refine opsStep ?_ | refine codeStep ?_ | refine drawStep ?_
        exact finB rfl (by first | (simp_all [goodF, FT.op, FT.name, FT.md, FT.terms, FT.args]; done) | (clear hr; simp only [goodF, FT.op, FT.name, FT.md, FT.terms, FT.args]; by_cases q1 : name = [] <;> by_cases q2 : md = 0 <;> by_cases q3 : 1 ≤ md <;> by_cases q4 : nameS name = true <;> by_cases q5 : terms = [] <;> by_cases q6 : args = [] <;> simp_all <;> first | rfl | omega | exact decide_eq_false (by omega) | (intro hh; exact absurd (of_decide_eq_true hh) (by omega))))
    · subst hop
      refine Pure.of_sw 73 Tryd.func80 rfl Tryd.ntmps80 (by kernel_rfl) (Nat.le_of_ble_eq_true (by kernel_rfl)) (by simp only [closeds]; exact ⟨fC5_closed 4 name md tk terms ak args, trivial⟩) (by simp only [AV.closed]) ?_
      refine SW.of_vc ?_
      repeat' first | refine opsStep ?_ | refine codeStep ?_ | refine decB_split (fun h => ?_) (fun h => ?_)
      any_goals exact finB rfl (by first | (simp_all [goodF, FT.op, FT.name, FT.md, FT.terms, FT.args]; done) | (clear hr; simp only [goodF, FT.op, FT.name, FT.md, FT.terms, FT.args]; by_cases q1 : name = [] <;> by_cases q2 : md = 0 <;> by_cases q3 : 1 ≤ md <;> by_cases q4 : nameS name = true <;> by_cases q5 : terms = [] <;> by_cases q6 : args = [] <;> simp_all <;> first | rfl | omega | exact decide_eq_false (by omega) | (intro hh; exact absurd (of_decide_eq_true hh) (by omega))))
      refine optX_of (c := [0, 0, 1, 2, 2, 2, 2, 1, 1, 0, 0, 0, 0, 0, 0, 0].map (.int .i64)) (by kernel_rfl) ?_
      repeat first | refine opsStep ?_ | refine codeStep ?_ | refine drawStep ?_
      refine SW.drawn rfl (by kernel_rfl) ?_
      repeat' first | refine drawStep ?_ | refine decB_split (fun h => ?_) (fun h => ?_)
      all_goals
        refine ⟨by kernel_rfl, ?_⟩
        repeat first | refine opsStep ?_ | refine codeStep ?_ | refine drawStep ?_
        exact finB rfl (by first | (simp_all [goodF, FT.op, FT.name, FT.md, FT.terms, FT.args]; done) | (clear hr; simp only [goodF, FT.op, FT.name, FT.md, FT.terms, FT.args]; by_cases q1 : name = [] <;> by_cases q2 : md = 0 <;> by_cases q3 : 1 ≤ md <;> by_cases q4 : nameS name = true <;> by_cases q5 : terms = [] <;> by_cases q6 : args = [] <;> simp_all <;> first | rfl | omega | exact decide_eq_false (by omega) | (intro hh; exact absurd (of_decide_eq_true hh) (by omega))))
    · subst hop
      refine Pure.of_sw 73 Tryd.func80 rfl Tryd.ntmps80 (by kernel_rfl) (Nat.le_of_ble_eq_true (by kernel_rfl)) (by simp only [closeds]; exact ⟨fC5_closed 5 name md tk terms ak args, trivial⟩) (by simp only [AV.closed]) ?_
      refine SW.of_vc ?_
      repeat' first | refine opsStep ?_ | refine codeStep ?_ | refine decB_split (fun h => ?_) (fun h => ?_)
      any_goals exact finB rfl (by first | (simp_all [goodF, FT.op, FT.name, FT.md, FT.terms, FT.args]; done) | (clear hr; simp only [goodF, FT.op, FT.name, FT.md, FT.terms, FT.args]; by_cases q1 : name = [] <;> by_cases q2 : md = 0 <;> by_cases q3 : 1 ≤ md <;> by_cases q4 : nameS name = true <;> by_cases q5 : terms = [] <;> by_cases q6 : args = [] <;> simp_all <;> first | rfl | omega | exact decide_eq_false (by omega) | (intro hh; exact absurd (of_decide_eq_true hh) (by omega))))
      refine optX_of (c := [0, 0, 1, 2, 2, 2, 2, 1, 1, 0, 0, 0, 0, 0, 0, 0].map (.int .i64)) (by kernel_rfl) ?_
      repeat first | refine opsStep ?_ | refine codeStep ?_ | refine drawStep ?_
      refine SW.drawn rfl (by kernel_rfl) ?_
      repeat' first | refine drawStep ?_ | refine decB_split (fun h => ?_) (fun h => ?_)
      all_goals
        refine ⟨by kernel_rfl, ?_⟩
        repeat first | refine opsStep ?_ | refine codeStep ?_ | refine drawStep ?_
        exact finB rfl (by first | (simp_all [goodF, FT.op, FT.name, FT.md, FT.terms, FT.args]; done) | (clear hr; simp only [goodF, FT.op, FT.name, FT.md, FT.terms, FT.args]; by_cases q1 : name = [] <;> by_cases q2 : md = 0 <;> by_cases q3 : 1 ≤ md <;> by_cases q4 : nameS name = true <;> by_cases q5 : terms = [] <;> by_cases q6 : args = [] <;> simp_all <;> first | rfl | omega | exact decide_eq_false (by omega) | (intro hh; exact absurd (of_decide_eq_true hh) (by omega))))
    · subst hop
      refine Pure.of_sw 73 Tryd.func80 rfl Tryd.ntmps80 (by kernel_rfl) (Nat.le_of_ble_eq_true (by kernel_rfl)) (by simp only [closeds]; exact ⟨fC5_closed 6 name md tk terms ak args, trivial⟩) (by simp only [AV.closed]) ?_
      refine SW.of_vc ?_
      repeat' first | refine opsStep ?_ | refine codeStep ?_ | refine decB_split (fun h => ?_) (fun h => ?_)
      any_goals exact finB rfl (by first | (simp_all [goodF, FT.op, FT.name, FT.md, FT.terms, FT.args]; done) | (clear hr; simp only [goodF, FT.op, FT.name, FT.md, FT.terms, FT.args]; by_cases q1 : name = [] <;> by_cases q2 : md = 0 <;> by_cases q3 : 1 ≤ md <;> by_cases q4 : nameS name = true <;> by_cases q5 : terms = [] <;> by_cases q6 : args = [] <;> simp_all <;> first | rfl | omega | exact decide_eq_false (by omega) | (intro hh; exact absurd (of_decide_eq_true hh) (by omega))))
      refine optX_of (c := [0, 0, 1, 2, 2, 2, 2, 1, 1, 0, 0, 0, 0, 0, 0, 0].map (.int .i64)) (by kernel_rfl) ?_
      repeat first | refine opsStep ?_ | refine codeStep ?_ | refine drawStep ?_
      refine SW.drawn rfl (by kernel_rfl) ?_
      repeat' first | refine drawStep ?_ | refine decB_split (fun h => ?_) (fun h => ?_)
      all_goals
        refine ⟨by kernel_rfl, ?_⟩
        repeat first | refine opsStep ?_ | refine codeStep ?_ | refine drawStep ?_
        exact finB rfl (by first | (simp_all [goodF, FT.op, FT.name, FT.md, FT.terms, FT.args]; done) | (clear hr; simp only [goodF, FT.op, FT.name, FT.md, FT.terms, FT.args]; by_cases q1 : name = [] <;> by_cases q2 : md = 0 <;> by_cases q3 : 1 ≤ md <;> by_cases q4 : nameS name = true <;> by_cases q5 : terms = [] <;> by_cases q6 : args = [] <;> simp_all <;> first | rfl | omega | exact decide_eq_false (by omega) | (intro hh; exact absurd (of_decide_eq_true hh) (by omega))))
    · subst hop
      refine Pure.of_sw 73 Tryd.func80 rfl Tryd.ntmps80 (by kernel_rfl) (Nat.le_of_ble_eq_true (by kernel_rfl)) (by simp only [closeds]; exact ⟨fC5_closed 7 name md tk terms ak args, trivial⟩) (by simp only [AV.closed]) ?_
      refine SW.of_vc ?_
      repeat first | refine opsStep ?_ | refine codeStep ?_ | refine drawStep ?_
      refine callP (r04_Name name hn) ?_
      repeat' first | refine opsStep ?_ | refine codeStep ?_ | refine decB_split (fun h => ?_) (fun h => ?_)
      any_goals exact finB rfl (by first | (simp_all [goodF, FT.op, FT.name, FT.md, FT.terms, FT.args]; done) | (clear hr; simp only [goodF, FT.op, FT.name, FT.md, FT.terms, FT.args]; by_cases q1 : name = [] <;> by_cases q2 : md = 0 <;> by_cases q3 : 1 ≤ md <;> by_cases q4 : nameS name = true <;> by_cases q5 : terms = [] <;> by_cases q6 : args = [] <;> simp_all <;> first | rfl | omega | exact decide_eq_false (by omega) | (intro hh; exact absurd (of_decide_eq_true hh) (by omega))))
      refine optX_of (c := [0, 0, 1, 2, 2, 2, 2, 1, 1, 0, 0, 0, 0, 0, 0, 0].map (.int .i64)) (by kernel_rfl) ?_
      repeat first | refine opsStep ?_ | refine codeStep ?_ | refine drawStep ?_
      refine SW.drawn rfl (by kernel_rfl) ?_
      repeat' first | refine drawStep ?_ | refine decB_split (fun h => ?_) (fun h => ?_)
      all_goals
        refine ⟨by kernel_rfl, ?_⟩
        repeat first | refine opsStep ?_ | refine codeStep ?_ | refine drawStep ?_
        exact finB rfl (by first | (simp_all [goodF, FT.op, FT.name, FT.md, FT.terms, FT.args]; done) | (clear hr; simp only [goodF, FT.op, FT.name, FT.md, FT.terms, FT.args]; by_cases q1 : name = [] <;> by_cases q2 : md = 0 <;> by_cases q3 : 1 ≤ md <;> by_cases q4 : nameS name = true <;> by_cases q5 : terms = [] <;> by_cases q6 : args = [] <;> simp_all <;> first | rfl | omega | exact decide_eq_false (by omega) | (intro hh; exact absurd (of_decide_eq_true hh) (by omega))))
    · subst hop
      refine Pure.of_sw 73 Tryd.func80 rfl Tryd.ntmps80 (by kernel_rfl) (Nat.le_of_ble_eq_true (by kernel_rfl)) (by simp only [closeds]; exact ⟨fC5_closed 8 name md tk terms ak args, trivial⟩) (by simp only [AV.closed]) ?_
      refine SW.of_vc ?_
      repeat first | refine opsStep ?_ | refine codeStep ?_ | refine drawStep ?_
      refine callP (r04_Name name hn) ?_
      repeat' first | refine opsStep ?_ | refine codeStep ?_ | refine decB_split (fun h => ?_) (fun h => ?_)
      any_goals exact finB rfl (by first | (simp_all [goodF, FT.op, FT.name, FT.md, FT.terms, FT.args]; done) | (clear hr; simp only [goodF, FT.op, FT.name, FT.md, FT.terms, FT.args]; by_cases q1 : name = [] <;> by_cases q2 : md = 0 <;> by_cases q3 : 1 ≤ md <;> by_cases q4 : nameS name = true <;> by_cases q5 : terms = [] <;> by_cases q6 : args = [] <;> simp_all <;> first | rfl | omega | exact decide_eq_false (by omega) | (intro hh; exact absurd (of_decide_eq_true hh) (by omega))))
      refine optX_of (c := [0, 0, 1, 2, 2, 2, 2, 1, 1, 0, 0, 0, 0, 0, 0, 0].map (.int .i64)) (by kernel_rfl) ?_
      repeat first | refine opsStep ?_ | refine codeStep ?_ | refine drawStep ?_
      refine SW.drawn rfl (by kernel_rfl) ?_
      repeat' first | refine drawStep ?_ | refine decB_split (fun h => ?_) (fun h => ?_)
      all_goals
        refine ⟨by kernel_rfl, ?_⟩
        repeat first | refine opsStep ?_ | refine codeStep ?_ | refine drawStep ?_
        exact finB rfl (by first | (simp_all [goodF, FT.op, FT.name, FT.md, FT.terms, FT.args]; done) | (clear hr; simp only [goodF, FT.op, FT.name, FT.md, FT.terms, FT.args]; by_cases q1 : name = [] <;> by_cases q2 : md = 0 <;> by_cases q3 : 1 ≤ md <;> by_cases q4 : nameS name = true <;> by_cases q5 : terms = [] <;> by_cases q6 : args = [] <;> simp_all <;> first | rfl | omega | exact decide_eq_false (by omega) | (intro hh; exact absurd (of_decide_eq_true hh) (by omega))))
    · subst hop
      refine Pure.of_sw 73 Tryd.func80 rfl Tryd.ntmps80 (by kernel_rfl) (Nat.le_of_ble_eq_true (by kernel_rfl)) (by simp only [closeds]; exact ⟨fC5_closed 9 name md tk terms ak args, trivial⟩) (by simp only [AV.closed]) ?_
      refine SW.of_vc ?_
      repeat' first | refine opsStep ?_ | refine codeStep ?_ | refine decB_split (fun h => ?_) (fun h => ?_)
      any_goals exact finB rfl (by first | (simp_all [goodF, FT.op, FT.name, FT.md, FT.terms, FT.args]; done) | (clear hr; simp only [goodF, FT.op, FT.name, FT.md, FT.terms, FT.args]; by_cases q1 : name = [] <;> by_cases q2 : md = 0 <;> by_cases q3 : 1 ≤ md <;> by_cases q4 : nameS name = true <;> by_cases q5 : terms = [] <;> by_cases q6 : args = [] <;> simp_all <;> first | rfl | omega | exact decide_eq_false (by omega) | (intro hh; exact absurd (of_decide_eq_true hh) (by omega))))
      refine optX_of (c := [0, 0, 1, 2, 2, 2, 2, 1, 1, 0, 0, 0, 0, 0, 0, 0].map (.int .i64)) (by kernel_rfl) ?_
      repeat first | refine opsStep ?_ | refine codeStep ?_ | refine drawStep ?_
      refine SW.drawn rfl (by kernel_rfl) ?_
      repeat' first | refine drawStep ?_ | refine decB_split (fun h => ?_) (fun h => ?_)
      all_goals
        refine ⟨by kernel_rfl, ?_⟩
        repeat first | refine opsStep ?_ | refine codeStep ?_ | refine drawStep ?_
        exact finB rfl (by first | (simp_all [goodF, FT.op, FT.name, FT.md, FT.terms, FT.args]; done) | (clear hr; simp only [goodF, FT.op, FT.name, FT.md, FT.terms, FT.args]; by_cases q1 : name = [] <;> by_cases q2 : md = 0 <;> by_cases q3 : 1 ≤ md <;> by_cases q4 : nameS name = true <;> by_cases q5 : terms = [] <;> by_cases q6 : args = [] <;> simp_all <;> first | rfl | omega | exact decide_eq_false (by omega) | (intro hh; exact absurd (of_decide_eq_true hh) (by omega))))
    · subst hop
      refine Pure.of_sw 73 Tryd.func80 rfl Tryd.ntmps80 (by kernel_rfl) (Nat.le_of_ble_eq_true (by kernel_rfl)) (by simp only [closeds]; exact ⟨fC5_closed 10 name md tk terms ak args, trivial⟩) (by simp only [AV.closed]) ?_
      refine SW.of_vc ?_
      repeat' first | refine opsStep ?_ | refine codeStep ?_ | refine decB_split (fun h => ?_) (fun h => ?_)
      any_goals exact finB rfl (by first | (simp_all [goodF, FT.op, FT.name, FT.md, FT.terms, FT.args]; done) | (clear hr; simp only [goodF, FT.op, FT.name, FT.md, FT.terms, FT.args]; by_cases q1 : name = [] <;> by_cases q2 : md = 0 <;> by_cases q3 : 1 ≤ md <;> by_cases q4 : nameS name = true <;> by_cases q5 : terms = [] <;> by_cases q6 : args = [] <;> simp_all <;> first | rfl | omega | exact decide_eq_false (by omega) | (intro hh; exact absurd (of_decide_eq_true hh) (by omega))))
      refine optX_of (c := [0, 0, 1, 2, 2, 2, 2, 1, 1, 0, 0, 0, 0, 0, 0, 0].map (.int .i64)) (by kernel_rfl) ?_
      repeat first | refine opsStep ?_ | refine codeStep ?_ | refine drawStep ?_
      refine SW.drawn rfl (by kernel_rfl) ?_
      repeat' first | refine drawStep ?_ | refine decB_split (fun h => ?_) (fun h => ?_)
      all_goals
        refine ⟨by kernel_rfl, ?_⟩
        repeat first | refine opsStep ?_ | refine codeStep ?_ | refine drawStep ?_
        exact finB rfl (by first | (simp_all [goodF, FT.op, FT.name, FT.md, FT.terms, FT.args]; done) | (clear hr; simp only [goodF, FT.op, FT.name, FT.md, FT.terms, FT.args]; by_cases q1 : name = [] <;> by_cases q2 : md = 0 <;> by_cases q3 : 1 ≤ md <;> by_cases q4 : nameS name = true <;> by_cases q5 : terms = [] <;> by_cases q6 : args = [] <;> simp_all <;> first | rfl | omega | exact decide_eq_false (by omega) | (intro hh; exact absurd (of_decide_eq_true hh) (by omega))))
    · subst hop
      refine Pure.of_sw 73 Tryd.func80 rfl Tryd.ntmps80 (by kernel_rfl) (Nat.le_of_ble_eq_true (by kernel_rfl)) (by simp only [closeds]; exact ⟨fC5_closed 11 name md tk terms ak args, trivial⟩) (by simp only [AV.closed]) ?_
      refine SW.of_vc ?_
      repeat' first | refine opsStep ?_ | refine codeStep ?_ | refine decB_split (fun h => ?_) (fun h => ?_)
      any_goals exact finB rfl (by first | (simp_all [goodF, FT.op, FT.name, FT.md, FT.terms, FT.args]; done) | (clear hr; simp only [goodF, FT.op, FT.name, FT.md, FT.terms, FT.args]; by_cases q1 : name = [] <;> by_cases q2 : md = 0 <;> by_cases q3 : 1 ≤ md <;> by_cases q4 : nameS name = true <;> by_cases q5 : terms = [] <;> by_cases q6 : args = [] <;> simp_all <;> first | rfl | omega | exact decide_eq_false (by omega) | (intro hh; exact absurd (of_decide_eq_true hh) (by omega))))
      refine optX_of (c := [0, 0, 1, 2, 2, 2, 2, 1, 1, 0, 0, 0, 0, 0, 0, 0].map (.int .i64)) (by kernel_rfl) ?_
      repeat first | refine opsStep ?_ | refine codeStep ?_ | refine drawStep ?_
      refine SW.drawn rfl (by kernel_rfl) ?_
      repeat' first | refine drawStep ?_ | refine decB_split (fun h => ?_) (fun h => ?_)
      all_goals
        refine ⟨by kernel_rfl, ?_⟩
        repeat first | refine opsStep ?_ | refine codeStep ?_ | refine drawStep ?_
        exact finB rfl (by first | (simp_all [goodF, FT.op, FT.name, FT.md, FT.terms, FT.args]; done) | (clear hr; simp only [goodF, FT.op, FT.name, FT.md, FT.terms, FT.args]; by_cases q1 : name = [] <;> by_cases q2 : md = 0 <;> by_cases q3 : 1 ≤ md <;> by_cases q4 : nameS name = true <;> by_cases q5 : terms = [] <;> by_cases q6 : args = [] <;> simp_all <;> first | rfl | omega | exact decide_eq_false (by omega) | (intro hh; exact absurd (of_decide_eq_true hh) (by omega))))
    · subst hop
      refine Pure.of_sw 73 Tryd.func80 rfl Tryd.ntmps80 (by kernel_rfl) (Nat.le_of_ble_eq_true (by kernel_rfl)) (by simp only [closeds]; exact ⟨fC5_closed 12 name md tk terms ak args, trivial⟩) (by simp only [AV.closed]) ?_
      refine SW.of_vc ?_
      repeat' first | refine opsStep ?_ | refine codeStep ?_ | refine decB_split (fun h => ?_) (fun h => ?_)
      any_goals exact finB rfl (by first | (simp_all [goodF, FT.op, FT.name, FT.md, FT.terms, FT.args]; done) | (clear hr; simp only [goodF, FT.op, FT.name, FT.md, FT.terms, FT.args]; by_cases q1 : name = [] <;> by_cases q2 : md = 0 <;> by_cases q3 : 1 ≤ md <;> by_cases q4 : nameS name = true <;> by_cases q5 : terms = [] <;> by_cases q6 : args = [] <;> simp_all <;> first | rfl | omega | exact decide_eq_false (by omega) | (intro hh; exact absurd (of_decide_eq_true hh) (by omega))))
      refine optX_of (c := [0, 0, 1, 2, 2, 2, 2, 1, 1, 0, 0, 0, 0, 0, 0, 0].map (.int .i64)) (by kernel_rfl) ?_
      repeat first | refine opsStep ?_ | refine codeStep ?_ | refine drawStep ?_
      refine SW.drawn rfl (by kernel_rfl) ?_
      repeat' first | refine drawStep ?_ | refine decB_split (fun h => ?_) (fun h => ?_)
      all_goals
        refine ⟨by kernel_rfl, ?_⟩
        repeat first | refine opsStep ?_ | refine codeStep ?_ | refine drawStep ?_
        exact finB rfl (by first | (simp_all [goodF, FT.op, FT.name, FT.md, FT.terms, FT.args]; done) | (clear hr; simp only [goodF, FT.op, FT.name, FT.md, FT.terms, FT.args]; by_cases q1 : name = [] <;> by_cases q2 : md = 0 <;> by_cases q3 : 1 ≤ md <;> by_cases q4 : nameS name = true <;> by_cases q5 : terms = [] <;> by_cases q6 : args = [] <;> simp_all <;> first | rfl | omega | exact decide_eq_false (by omega) | (intro hh; exact absurd (of_decide_eq_true hh) (by omega))))
    · subst hop
      refine Pure.of_sw 73 Tryd.func80 rfl Tryd.ntmps80 (by kernel_rfl) (Nat.le_of_ble_eq_true (by kernel_rfl)) (by simp only [closeds]; exact ⟨fC5_closed 13 name md tk terms ak args, trivial⟩) (by simp only [AV.closed]) ?_
      refine SW.of_vc ?_
      repeat' first | refine opsStep ?_ | refine codeStep ?_ | refine decB_split (fun h => ?_) (fun h => ?_)
      any_goals exact finB rfl (by first | (simp_all [goodF, FT.op, FT.name, FT.md, FT.terms, FT.args]; done) | (clear hr; simp only [goodF, FT.op, FT.name, FT.md, FT.terms, FT.args]; by_cases q1 : name = [] <;> by_cases q2 : md = 0 <;> by_cases q3 : 1 ≤ md <;> by_cases q4 : nameS name = true <;> by_cases q5 : terms = [] <;> by_cases q6 : args = [] <;> simp_all <;> first | rfl | omega | exact decide_eq_false (by omega) | (intro hh; exact absurd (of_decide_eq_true hh) (by omega))))
      refine optX_of (c := [0, 0, 1, 2, 2, 2, 2, 1, 1, 0, 0, 0, 0, 0, 0, 0].map (.int .i64)) (by kernel_rfl) ?_
      repeat first | refine opsStep ?_ | refine codeStep ?_ | refine drawStep ?_
      refine SW.drawn rfl (by kernel_rfl) ?_
      repeat' first | refine drawStep ?_ | refine decB_split (fun h => ?_) (fun h => ?_)
      all_goals
        refine ⟨by kernel_rfl, ?_⟩
        repeat first | refine opsStep ?_ | refine codeStep ?_ | refine drawStep ?_
        exact finB rfl (by first | (simp_all [goodF, FT.op, FT.name, FT.md, FT.terms, FT.args]; done) | (clear hr; simp only [goodF, FT.op, FT.name, FT.md, FT.terms, FT.args]; by_cases q1 : name = [] <;> by_cases q2 : md = 0 <;> by_cases q3 : 1 ≤ md <;> by_cases q4 : nameS name = true <;> by_cases q5 : terms = [] <;> by_cases q6 : args = [] <;> simp_all <;> first | rfl | omega | exact decide_eq_false (by omega) | (intro hh; exact absurd (of_decide_eq_true hh) (by omega))))
    · subst hop
      refine Pure.of_sw 73 Tryd.func80 rfl Tryd.ntmps80 (by kernel_rfl) (Nat.le_of_ble_eq_true (by kernel_rfl)) (by simp only [closeds]; exact ⟨fC5_closed 14 name md tk terms ak args, trivial⟩) (by simp only [AV.closed]) ?_
      refine SW.of_vc ?_
      repeat' first | refine opsStep ?_ | refine codeStep ?_ | refine decB_split (fun h => ?_) (fun h => ?_)
      any_goals exact finB rfl (by first | (simp_all [goodF, FT.op, FT.name, FT.md, FT.terms, FT.args]; done) | (clear hr; simp only [goodF, FT.op, FT.name, FT.md, FT.terms, FT.args]; by_cases q1 : name = [] <;> by_cases q2 : md = 0 <;> by_cases q3 : 1 ≤ md <;> by_cases q4 : nameS name = true <;> by_cases q5 : terms = [] <;> by_cases q6 : args = [] <;> simp_all <;> first | rfl | omega | exact decide_eq_false (by omega) | (intro hh; exact absurd (of_decide_eq_true hh) (by omega))))
      refine optX_of (c := [0, 0, 1, 2, 2, 2, 2, 1, 1, 0, 0, 0, 0, 0, 0, 0].map (.int .i64)) (by kernel_rfl) ?_
      repeat first | refine opsStep ?_ | refine codeStep ?_ | refine drawStep ?_
      refine SW.drawn rfl (by kernel_rfl) ?_
      repeat' first | refine drawStep ?_ | refine decB_split (fun h => ?_) (fun h => ?_)
      all_goals
        refine ⟨by kernel_rfl, ?_⟩
        repeat first | refine opsStep ?_ | refine codeStep ?_ | refine drawStep ?_
        exact finB rfl (by first | (simp_all [goodF, FT.op, FT.name, FT.md, FT.terms, FT.args]; done) | (clear hr; simp only [goodF, FT.op, FT.name, FT.md, FT.terms, FT.args]; by_cases q1 : name = [] <;> by_cases q2 : md = 0 <;> by_cases q3 : 1 ≤ md <;> by_cases q4 : nameS name = true <;> by_cases q5 : terms = [] <;> by_cases q6 : args = [] <;> simp_all <;> first | rfl | omega | exact decide_eq_false (by omega) | (intro hh; exact absurd (of_decide_eq_true hh) (by omega))))
    · subst hop
      refine Pure.of_sw 73 Tryd.func80 rfl Tryd.ntmps80 (by kernel_rfl) (Nat.le_of_ble_eq_true (by kernel_rfl)) (by simp only [closeds]; exact ⟨fC5_closed 15 name md tk terms ak args, trivial⟩) (by simp only [AV.closed]) ?_
      refine SW.of_vc ?_
      repeat' first | refine opsStep ?_ | refine codeStep ?_ | refine decB_split (fun h => ?_) (fun h => ?_)
      any_goals exact finB rfl (by first | (simp_all [goodF, FT.op, FT.name, FT.md, FT.terms, FT.args]; done) | (clear hr; simp only [goodF, FT.op, FT.name, FT.md, FT.terms, FT.args]; by_cases q1 : name = [] <;> by_cases q2 : md = 0 <;> by_cases q3 : 1 ≤ md <;> by_cases q4 : nameS name = true <;> by_cases q5 : terms = [] <;> by_cases q6 : args = [] <;> simp_all <;> first | rfl | omega | exact decide_eq_false (by omega) | (intro hh; exact absurd (of_decide_eq_true hh) (by omega))))
      refine optX_of (c := [0, 0, 1, 2, 2, 2, 2, 1, 1, 0, 0, 0, 0, 0, 0, 0].map (.int .i64)) (by kernel_rfl) ?_
      repeat first | refine opsStep ?_ | refine codeStep ?_ | refine drawStep ?_
      refine SW.drawn rfl (by kernel_rfl) ?_
      repeat' first | refine drawStep ?_ | refine decB_split (fun h => ?_) (fun h => ?_)
      all_goals
        refine ⟨by kernel_rfl, ?_⟩
        repeat first | refine opsStep ?_ | refine codeStep ?_ | refine drawStep ?_
        exact finB rfl (by first | (simp_all [goodF, FT.op, FT.name, FT.md, FT.terms, FT.args]; done) | (clear hr; simp only [goodF, FT.op, FT.name, FT.md, FT.terms, FT.args]; by_cases q1 : name = [] <;> by_cases q2 : md = 0 <;> by_cases q3 : 1 ≤ md <;> by_cases q4 : nameS name = true <;> by_cases q5 : terms = [] <;> by_cases q6 : args = [] <;> simp_all <;> first | rfl | omega | exact decide_eq_false (by omega) | (intro hh; exact absurd (of_decide_eq_true hh) (by omega))))
  · skip
    have hg : goodF ⟨op, name, md, tk, terms, ak, args⟩ = false := by
      show (if op = 0 ∨ op = 1 then decide (name = []) && decide (md = 0) && decide (terms.length = 0) && decide (args.length = 0)
        else if op = 2 then decide (name = []) && decide (md = 0) && decide (terms.length = 0) && decide (args.length = 1)
        else if 3 ≤ op ∧ op ≤ 6 then decide (name = []) && decide (md = 0) && decide (terms.length = 0) && decide (args.length = 2)
        else if op = 7 ∨ op = 8 then nameS name && decide (md = 0) && decide (terms.length = 0) && decide (args.length = 1)
        else if 9 ≤ op ∧ op ≤ 14 then decide (name = []) && decide (md = 0) && decide (terms.length = 2) && decide (args.length = 0)
        else if op = 15 then decide (name = []) && decide (1 ≤ md) && decide (terms.length = 2) && decide (args.length = 0)
        else false) = false
      rw [if_neg (by omega), if_neg (by omega), if_neg (by omega), if_neg (by omega), if_neg (by omega), if_neg (by omega)]
    rw [hg]
    refine Pure.of_sw 73 Tryd.func80 rfl Tryd.ntmps80 (by kernel_rfl) (Nat.le_of_ble_eq_true (by kernel_rfl)) (by simp only [closeds]; exact ⟨fC5_closed op name md tk terms ak args, trivial⟩) (by simp only [AV.closed]) ?_
    refine SW.of_vc ?_
    repeat first | refine opsStep ?_ | refine codeStep ?_ | refine drawStep ?_
    refine decB_dec (fun h => ?_) (fun h => ?_)
    · repeat' first | refine opsStep ?_ | refine codeStep ?_ | refine decB_split (fun h => ?_) (fun h => ?_)
      all_goals exact finB (b' := false) rfl rfl
    · have h : ¬ op < 0 := h
      repeat first | refine opsStep ?_ | refine codeStep ?_ | refine drawStep ?_
      refine decB_dec (fun h2 => ?_) (fun h2 => ?_)
      · repeat' first | refine opsStep ?_ | refine codeStep ?_ | refine decB_split (fun h => ?_) (fun h => ?_)
        all_goals exact finB (b' := false) rfl rfl
      · have h2 : ¬ op > 15 := h2
        omega

end Tab

/- Trees are measured, by the document. -/
namespace Tab
open Go Go.Proofs
set_option maxRecDepth 10000
set_option linter.unusedVariables false
set_option linter.unusedSimpArgs false
set_option linter.unusedSectionVars false
set_option maxHeartbeats 1000000

theorem r06_node (m : Ms) (d : Nat) (g : Bool) (hm : MsOk m d) : ACall Tryd.prog 57 [.ref 0 0 0, .int .i64 d, .bool g] [.cells 0 (msC m)] fun o H' => o = .ret (.tup []) ∧ H' = [.cells 0 (msC (nodeM m d g))] := by
  have h1 := hm.size
  have h2 := hm.dep
  have h3 := hm.d
  have e1 : IntKind.wrap .i64 ((m.size : Int) + 1) = ((m.size + 1 : Nat) : Int) := by rw [IntWalk.i64_in _ (by omega)]; simp
  have e2 : (if (d : Int) > (m.depth : Int) then (d : Int) else (m.depth : Int)) = ((max m.depth d : Nat) : Int) := by split <;> omega
  refine ACall.of_sw 43 Tryd.func57 rfl Tryd.ntmps57 (by kernel_rfl) (Nat.le_of_ble_eq_true (by kernel_rfl)) ?_; refine SW.of_vc ?_
  repeat first | refine opsStep ?_ | refine codeStep ?_ | refine drawStep ?_
  refine decB_dec (fun c1 => ?_) (fun c1 => ?_)
  · have c1 : IntKind.wrap .i64 ((m.size : Int) + 1) > 500 := c1
    rw [e1] at c1
    have hn : nodeM m d g = ⟨m.size + 1, max m.depth d, 73⟩ := by rw [nodeM, if_pos (by omega)]
    rw [hn]
    repeat first | refine opsStep ?_ | refine codeStep ?_ | refine drawStep ?_
    exact finR (l := []) (v := .tup []) (H₁ := [.cells 0 [.int .i64 (m.size + 1 : Nat), .int .i64 (max m.depth d : Nat), .int .i64 73]]) trivial (Eq.trans (b := [.cells 0 [.int .i64 (IntKind.wrap .i64 ((m.size : Int) + 1)), .int .i64 (if (d : Int) > (m.depth : Int) then (d : Int) else (m.depth : Int)), .int .i64 73]]) (by kernel_rfl) (by rw [e1, e2])) (Ent.refl _ _ _) (by kernel_rfl) ⟨rfl, rfl⟩
  · have c1 : ¬ IntKind.wrap .i64 ((m.size : Int) + 1) > 500 := c1
    rw [e1] at c1
    repeat first | refine opsStep ?_ | refine codeStep ?_ | refine drawStep ?_
    refine decB_dec (fun c2 => ?_) (fun c2 => ?_)
    · have c2 : (d : Int) > 40 := c2
      have hn : nodeM m d g = ⟨m.size + 1, max m.depth d, 72⟩ := by rw [nodeM, if_neg (by omega), if_pos (by omega)]
      rw [hn]
      repeat first | refine opsStep ?_ | refine codeStep ?_ | refine drawStep ?_
      exact finR (l := []) (v := .tup []) (H₁ := [.cells 0 [.int .i64 (m.size + 1 : Nat), .int .i64 (max m.depth d : Nat), .int .i64 72]]) trivial (Eq.trans (b := [.cells 0 [.int .i64 (IntKind.wrap .i64 ((m.size : Int) + 1)), .int .i64 (if (d : Int) > (m.depth : Int) then (d : Int) else (m.depth : Int)), .int .i64 72]]) (by kernel_rfl) (by rw [e1, e2])) (Ent.refl _ _ _) (by kernel_rfl) ⟨rfl, rfl⟩
    · have c2 : ¬ (d : Int) > 40 := c2
      cases g with
      | true =>
        have hn : nodeM m d true = ⟨m.size + 1, max m.depth d, m.err⟩ := by rw [nodeM, if_neg (by omega), if_neg (by omega), if_pos rfl]
        rw [hn]
        repeat first | refine opsStep ?_ | refine codeStep ?_ | refine drawStep ?_
        exact finR (l := []) (v := .tup []) (H₁ := [.cells 0 [.int .i64 (m.size + 1 : Nat), .int .i64 (max m.depth d : Nat), .int .i64 m.err]]) trivial (Eq.trans (b := [.cells 0 [.int .i64 (IntKind.wrap .i64 ((m.size : Int) + 1)), .int .i64 (if (d : Int) > (m.depth : Int) then (d : Int) else (m.depth : Int)), .int .i64 m.err]]) (by kernel_rfl) (by rw [e1, e2])) (Ent.refl _ _ _) (by kernel_rfl) ⟨rfl, rfl⟩
      | false =>
        have hn : nodeM m d false = ⟨m.size + 1, max m.depth d, 3⟩ := by rw [nodeM, if_neg (by omega), if_neg (by omega), if_neg (by simp)]
        rw [hn]
        repeat first | refine opsStep ?_ | refine codeStep ?_ | refine drawStep ?_
        exact finR (l := []) (v := .tup []) (H₁ := [.cells 0 [.int .i64 (m.size + 1 : Nat), .int .i64 (max m.depth d : Nat), .int .i64 3]]) trivial (Eq.trans (b := [.cells 0 [.int .i64 (IntKind.wrap .i64 ((m.size : Int) + 1)), .int .i64 (if (d : Int) > (m.depth : Int) then (d : Int) else (m.depth : Int)), .int .i64 3]]) (by kernel_rfl) (by rw [e1, e2])) (Ent.refl _ _ _) (by kernel_rfl) ⟨rfl, rfl⟩

theorem bel1 (m : Ms) : blksBel 1 [.cells 0 (msC m)] := by simp only [blksBel, Blk.bel]; exact ⟨msC_bel _ _, trivial⟩
theorem r06_term : ∀ (n : Nat) (t : TT), t.nodes ≤ n → t.ok → ∀ (m : Ms) (d : Nat), MsOk m d → ACall Tryd.prog 37 [.ref 0 0 0, .agg t.cells, .int .i64 d] [.cells 0 (msC m)] fun o H' => o = .ret (.tup []) ∧ H' = [.cells 0 (msC (t.walk d m))] := by
  intro n
  induction n with
  | zero => intro t h; rcases t with ⟨op, num, name, k, args⟩; rw [TT.nodes] at h; omega
  | succ n ih =>
    intro t hnodes hok m d hm
    have hgood := r06_wellTerm t (by cases t; rw [TT.ok] at hok; have := hok.2.2.1; show List.length _ < _; simp only [TT.name]; omega)
    rw [TT.cells_eq] at hgood ⊢
    rcases t with ⟨op, num, name, k, args⟩
    have hwk : TT.walk ⟨op, num, name, k, args⟩ d m = if (nodeM m d (goodT ⟨op, num, name, k, args⟩)).err ≠ 0 then nodeM m d (goodT ⟨op, num, name, k, args⟩) else ttsWalk args (d + 1) (nodeM m d (goodT ⟨op, num, name, k, args⟩)) := by rw [TT.walk]
    rw [TT.ok] at hok
    rw [TT.nodes] at hnodes
    generalize goodT ⟨op, num, name, k, args⟩ = g at *
    generalize TT.walk ⟨op, num, name, k, args⟩ d m = w at *
    simp only [TT.op, TT.num, TT.name, TT.k, TT.args] at hgood ⊢
    have hal := hok.2.2.2.1
    have hao := hok.2.2.2.2
    have hd := hm.d
    have hdi : IntKind.wrap .i64 ((d : Int) + 1) = ((d + 1 : Nat) : Int) := by rw [IntWalk.i64_in _ (by omega)]; simp
    refine ACall.of_sw 35 Tryd.func37 rfl Tryd.ntmps37 (by kernel_rfl) (Nat.le_of_ble_eq_true (by kernel_rfl)) ?_; refine SW.of_vc ?_
    repeat first | refine opsStep ?_ | refine codeStep ?_ | refine drawStep ?_
    refine callP hgood ?_
    repeat first | refine opsStep ?_ | refine codeStep ?_ | refine drawStep ?_
    refine callT (args := [.ref 0 0 0, .int .i64 d, .bool g]) (r06_node m d g hm) [.cells 0 (tC op num name k args)] rfl rfl (by simp [bels, AV.bel]) (bel1 m) (bel1 _) (by simp [AV.bel, bels]) ?_
    repeat first | refine opsStep ?_ | refine codeStep ?_ | refine drawStep ?_
    refine loopE_of (ι := {x : Nat × Ms // x.1 ≤ args.length ∧ w = (if x.2.err ≠ 0 then x.2 else ttsWalk (args.drop x.1) (d + 1) x.2) ∧ (x.2.err = 0 → MsOk x.2 (d + 1))}) (fun x => (fr [(0, .ref 0 0 0), (2, .int .i64 d), (4, .ref 1 0 0), (6, .int .i64 x.1.1)], [.cells 0 (msC x.1.2), .cells 0 (tC op num name k args)])) (fun x => args.length - x.1.1)
      ⟨(0, nodeM m d g), Nat.zero_le _, hwk, fun e => nodeM_bd hm e⟩ (Ent.fr' ⟨(by kernel_rfl), (by kernel_rfl), (by kernel_rfl), (by kernel_rfl), trivial⟩ (by kernel_rfl)) ?_
    rintro ⟨⟨i, mi⟩, h1, h2, h3⟩
    simp only at h1 h2 h3
    repeat first | refine opsStep ?_ | refine codeStep ?_ | refine drawStep ?_
    refine decB_dec (fun hlt => ?_) (fun hlt => ?_)
    · have hi : i < args.length := by have : (i : Int) < args.length := hlt; omega
      clear hlt
      repeat first | refine opsStep ?_ | refine codeStep ?_ | refine drawStep ?_
      refine decB_dec (fun he => ?_) (fun he => ?_)
      · have he : mi.err = 0 := he
        rw [if_neg (by simp [he])] at h2
        have hld : ((ttsC args).drop ((i : Int).toNat * 4)).take 4 = (args[i]'hi).cells := by rw [Int.toNat_natCast]; exact ttsC_at hi
        have hfit : 4 ≤ ((ttsC args).drop ((i : Int).toNat * 4)).length := by rw [List.length_drop, ttsC_len, Int.toNat_natCast]; omega
        have hrec := ih (args[i]'hi) (by have := tts_nodes hi; omega) (ttsOk_iff.1 hao _ (List.getElem_mem hi)) mi (d + 1) (h3 he)
        have hstep := ttsWalk_drop hi (d + 1) mi
        rw [← h2] at hstep
        have hao' := @TT.walk_ok (args[i]'hi) (d + 1) mi (h3 he)
        have haB : bels 1 (args[i]'hi).cells := closeds_bel _ (TT.cells_closed (args[i]'hi))
        rw [← hld, ← hdi] at hrec
        rw [← hld] at haB
        generalize TT.walk (args[i]'hi) (d + 1) mi = wi at *
        repeat first | refine opsStep ?_ | refine codeStep ?_ | refine drawStep ?_
        refine guardE_of ⟨by omega, by show (i : Int) < args.length; omega⟩ ?_
        repeat first | refine opsStep ?_ | refine codeStep ?_ | refine drawStep ?_
        refine guardE_of hfit ?_
        repeat first | refine opsStep ?_ | refine codeStep ?_ | refine drawStep ?_
        refine callT (args := [.ref 0 0 0, .agg (((ttsC args).drop ((i : Int).toNat * 4)).take 4), .int .i64 (IntKind.wrap .i64 ((d : Int) + 1))]) hrec [.cells 0 (tC op num name k args)] rfl rfl (by simp only [bels, AV.bel]; exact ⟨by show 0 < 1; decide, haB, trivial, trivial⟩) (bel1 mi) (bel1 _) (by simp [AV.bel, bels]) ?_
        repeat first | refine opsStep ?_ | refine codeStep ?_ | refine drawStep ?_
        exact ⟨⟨(i + 1, wi), hi, hstep, hao'⟩, (by show args.length - (i + 1) < args.length - i; omega), Ent.fr' ⟨(by kernel_rfl), (by kernel_rfl), (by kernel_rfl), inc_slot (i := i) (by omega), trivial⟩ (by kernel_rfl)⟩
      · have he : ¬ mi.err = 0 := he
        rw [if_pos he] at h2
        subst h2
        repeat first | refine opsStep ?_ | refine codeStep ?_ | refine drawStep ?_
        exact finR (l := []) (v := .tup []) (H₁ := [.cells 0 (msC w), .cells 0 (tC op num name k args)]) trivial (by kernel_rfl) (Ent.frD (l := []) (H' := [.cells 0 (msC w)]) trivial rfl (Nat.le_refl 1) trivial (bel1 _)) (by kernel_rfl) ⟨rfl, rfl⟩
    · have hi : i = args.length := by have : ¬ (i : Int) < args.length := hlt; omega
      clear hlt
      subst hi
      rw [List.drop_length, ttsWalk, ite_self] at h2
      subst h2
      repeat first | refine opsStep ?_ | refine codeStep ?_ | refine drawStep ?_
      exact finR (l := []) (v := .tup []) (H₁ := [.cells 0 (msC w), .cells 0 (tC op num name k args)]) trivial (by kernel_rfl) (Ent.frD (l := []) (H' := [.cells 0 (msC w)]) trivial rfl (Nat.le_refl 1) trivial (bel1 _)) (by kernel_rfl) ⟨rfl, rfl⟩

theorem r06_formula : ∀ (n : Nat) (f : FT), f.nodes ≤ n → f.ok → ∀ (m : Ms) (d : Nat), MsOk m d → ACall Tryd.prog 53 [.ref 0 0 0, .agg f.cells, .int .i64 d] [.cells 0 (msC m)] fun o H' => o = .ret (.tup []) ∧ H' = [.cells 0 (msC (f.walk d m))] := by
  intro n
  induction n with
  | zero => intro t h; rcases t with ⟨op, name, md, tk, terms, ak, args⟩; rw [FT.nodes] at h; omega
  | succ n ih =>
    intro f hnodes hok m d hm
    have hgood := r06_wellMade f (by cases f; rw [FT.ok] at hok; have := hok.2.1; show List.length _ < _; simp only [FT.name]; omega)
    rw [FT.cells_eq] at hgood ⊢
    rcases f with ⟨op, name, md, tk, terms, ak, args⟩
    have hwk : FT.walk ⟨op, name, md, tk, terms, ak, args⟩ d m = if (nodeM m d (goodF ⟨op, name, md, tk, terms, ak, args⟩)).err ≠ 0 then nodeM m d (goodF ⟨op, name, md, tk, terms, ak, args⟩) else if (ttsWalk terms (d + 1) (nodeM m d (goodF ⟨op, name, md, tk, terms, ak, args⟩))).err ≠ 0 then ttsWalk terms (d + 1) (nodeM m d (goodF ⟨op, name, md, tk, terms, ak, args⟩)) else ftsWalk args (d + 1) (ttsWalk terms (d + 1) (nodeM m d (goodF ⟨op, name, md, tk, terms, ak, args⟩))) := by rw [FT.walk]
    rw [FT.ok] at hok
    rw [FT.nodes] at hnodes
    generalize goodF ⟨op, name, md, tk, terms, ak, args⟩ = g at *
    generalize FT.walk ⟨op, name, md, tk, terms, ak, args⟩ d m = w at *
    simp only [FT.op, FT.name, FT.md, FT.tk, FT.terms, FT.ak, FT.args] at hgood ⊢
    have htl := hok.2.2.2.1
    have hto := hok.2.2.2.2.1
    have hal := hok.2.2.2.2.2.1
    have hao := hok.2.2.2.2.2.2
    have hd := hm.d
    have hdi : IntKind.wrap .i64 ((d : Int) + 1) = ((d + 1 : Nat) : Int) := by rw [IntWalk.i64_in _ (by omega)]; simp
    have hwk2 : w = (if (if (nodeM m d g).err ≠ 0 then nodeM m d g else ttsWalk terms (d + 1) (nodeM m d g)).err ≠ 0 then (if (nodeM m d g).err ≠ 0 then nodeM m d g else ttsWalk terms (d + 1) (nodeM m d g)) else ftsWalk args (d + 1) (if (nodeM m d g).err ≠ 0 then nodeM m d g else ttsWalk terms (d + 1) (nodeM m d g))) := by
      rw [hwk]
      by_cases hne : (nodeM m d g).err ≠ 0
      · rw [if_pos hne, if_pos hne, if_pos hne]
      · rw [if_neg hne, if_neg hne]
    clear hwk
    refine ACall.of_sw 59 Tryd.func53 rfl Tryd.ntmps53 (by kernel_rfl) (Nat.le_of_ble_eq_true (by kernel_rfl)) ?_; refine SW.of_vc ?_
    repeat first | refine opsStep ?_ | refine codeStep ?_ | refine drawStep ?_
    refine callP hgood ?_
    repeat first | refine opsStep ?_ | refine codeStep ?_ | refine drawStep ?_
    refine callT (args := [.ref 0 0 0, .int .i64 d, .bool g]) (r06_node m d g hm) [.cells 0 (fC5 op name md tk terms ak args)] rfl rfl (by simp [bels, AV.bel]) (bel1 m) (bel1 _) (by simp [AV.bel, bels]) ?_
    have hm1 : (nodeM m d g).err = 0 → MsOk (nodeM m d g) (d + 1) := fun e => nodeM_bd hm e
    generalize nodeM m d g = m1 at *
    repeat first | refine opsStep ?_ | refine codeStep ?_ | refine drawStep ?_
    refine loopE_of (ι := {x : Nat × Ms // x.1 ≤ terms.length ∧ (if m1.err ≠ 0 then m1 else ttsWalk terms (d + 1) m1) = (if x.2.err ≠ 0 then x.2 else ttsWalk (terms.drop x.1) (d + 1) x.2) ∧ (x.2.err = 0 → MsOk x.2 (d + 1))}) (fun x => (fr [(0, .ref 0 0 0), (2, .int .i64 d), (4, .ref 1 0 0), (6, .int .i64 x.1.1)], [.cells 0 (msC x.1.2), .cells 0 (fC5 op name md tk terms ak args)])) (fun x => terms.length - x.1.1)
      ⟨(0, m1), Nat.zero_le _, rfl, hm1⟩ (Ent.fr' ⟨(by kernel_rfl), (by kernel_rfl), (by kernel_rfl), (by kernel_rfl), trivial⟩ (by kernel_rfl)) ?_
    rintro ⟨⟨i, mi⟩, h1, h2, h3⟩
    simp only at h1 h2 h3
    have fin : ∀ {ms : Ms}, (if m1.err ≠ 0 then m1 else ttsWalk terms (d + 1) m1) = ms → (ms.err = 0 → MsOk ms (d + 1)) → w = (if ms.err ≠ 0 then ms else ftsWalk args (d + 1) ms) := fun e _ => by rw [← e]; exact hwk2
    repeat first | refine opsStep ?_ | refine codeStep ?_ | refine drawStep ?_
    refine decB_dec (fun hlt => ?_) (fun hlt => ?_)
    · have hi : i < terms.length := by have : (i : Int) < terms.length := hlt; omega
      clear hlt
      repeat first | refine opsStep ?_ | refine codeStep ?_ | refine drawStep ?_
      refine decB_dec (fun he => ?_) (fun he => ?_)
      · have he : mi.err = 0 := he
        rw [if_neg (c := mi.err ≠ 0) (by simp [he])] at h2
        have hld : ((ttsC terms).drop ((i : Int).toNat * 4)).take 4 = (terms[i]'hi).cells := by rw [Int.toNat_natCast]; exact ttsC_at hi
        have hfit : 4 ≤ ((ttsC terms).drop ((i : Int).toNat * 4)).length := by rw [List.length_drop, ttsC_len, Int.toNat_natCast]; omega
        have hrec := r06_term _ (terms[i]'hi) (Nat.le_refl _) (ttsOk_iff.1 hto _ (List.getElem_mem hi)) mi (d + 1) (h3 he)
        have hstep := ttsWalk_drop hi (d + 1) mi
        rw [← h2] at hstep
        have hao' := @TT.walk_ok (terms[i]'hi) (d + 1) mi (h3 he)
        have haB : bels 1 (terms[i]'hi).cells := closeds_bel _ (TT.cells_closed (terms[i]'hi))
        rw [← hld, ← hdi] at hrec
        rw [← hld] at haB
        generalize TT.walk (terms[i]'hi) (d + 1) mi = wi at *
        repeat first | refine opsStep ?_ | refine codeStep ?_ | refine drawStep ?_
        refine guardE_of ⟨by omega, by show (i : Int) < terms.length; omega⟩ ?_
        repeat first | refine opsStep ?_ | refine codeStep ?_ | refine drawStep ?_
        refine guardE_of hfit ?_
        repeat first | refine opsStep ?_ | refine codeStep ?_ | refine drawStep ?_
        refine callT (args := [.ref 0 0 0, .agg (((ttsC terms).drop ((i : Int).toNat * 4)).take 4), .int .i64 (IntKind.wrap .i64 ((d : Int) + 1))]) hrec [.cells 0 (fC5 op name md tk terms ak args)] rfl rfl (by simp only [bels, AV.bel]; exact ⟨by show 0 < 1; decide, haB, trivial, trivial⟩) (bel1 mi) (bel1 _) (by simp [AV.bel, bels]) ?_
        repeat first | refine opsStep ?_ | refine codeStep ?_ | refine drawStep ?_
        exact ⟨⟨(i + 1, wi), hi, hstep, hao'⟩, (by show terms.length - (i + 1) < terms.length - i; omega), Ent.fr' ⟨(by kernel_rfl), (by kernel_rfl), (by kernel_rfl), inc_slot (i := i) (by omega), trivial⟩ (by kernel_rfl)⟩
      · have he : ¬ mi.err = 0 := he
        rw [if_pos (c := mi.err ≠ 0) he] at h2
        have hw := fin h2 h3
        repeat first | refine opsStep ?_ | refine codeStep ?_ | refine drawStep ?_
        refine loopE_of (ι := {x : Nat × Ms // x.1 ≤ args.length ∧ w = (if x.2.err ≠ 0 then x.2 else ftsWalk (args.drop x.1) (d + 1) x.2) ∧ (x.2.err = 0 → MsOk x.2 (d + 1))}) (fun x => (fr [(0, .ref 0 0 0), (2, .int .i64 d), (4, .ref 1 0 0), (7, .int .i64 x.1.1)], [.cells 0 (msC x.1.2), .cells 0 (fC5 op name md tk terms ak args)])) (fun x => args.length - x.1.1)
          ⟨(0, mi), Nat.zero_le _, hw, h3⟩ (Ent.fr' ⟨(by kernel_rfl), (by kernel_rfl), (by kernel_rfl), (by kernel_rfl), trivial⟩ (by kernel_rfl)) ?_
        rintro ⟨⟨j, mj⟩, k1, k2, k3⟩
        simp only at k1 k2 k3
        repeat first | refine opsStep ?_ | refine codeStep ?_ | refine drawStep ?_
        refine decB_dec (fun hlt => ?_) (fun hlt => ?_)
        · have hj : j < args.length := by have : (j : Int) < args.length := hlt; omega
          clear hlt
          repeat first | refine opsStep ?_ | refine codeStep ?_ | refine drawStep ?_
          refine decB_dec (fun he => ?_) (fun he => ?_)
          · have he : mj.err = 0 := he
            rw [if_neg (by simp [he])] at k2
            have hld : ((ftsC args).drop ((j : Int).toNat * 5)).take 5 = (args[j]'hj).cells := by rw [Int.toNat_natCast]; exact ftsC_at hj
            have hfit : 5 ≤ ((ftsC args).drop ((j : Int).toNat * 5)).length := by rw [List.length_drop, ftsC_len, Int.toNat_natCast]; omega
            have hrec := ih (args[j]'hj) (by have := fts_nodes hj; omega) (ftsOk_iff.1 hao _ (List.getElem_mem hj)) mj (d + 1) (k3 he)
            have hstep := ftsWalk_drop hj (d + 1) mj
            rw [← k2] at hstep
            have hao' := @FT.walk_ok (args[j]'hj) (d + 1) mj (k3 he)
            have haB : bels 1 (args[j]'hj).cells := closeds_bel _ (FT.cells_closed (args[j]'hj))
            rw [← hld, ← hdi] at hrec
            rw [← hld] at haB
            generalize FT.walk (args[j]'hj) (d + 1) mj = wj at *
            repeat first | refine opsStep ?_ | refine codeStep ?_ | refine drawStep ?_
            refine guardE_of ⟨by omega, by show (j : Int) < args.length; omega⟩ ?_
            repeat first | refine opsStep ?_ | refine codeStep ?_ | refine drawStep ?_
            refine guardE_of hfit ?_
            repeat first | refine opsStep ?_ | refine codeStep ?_ | refine drawStep ?_
            refine callT (args := [.ref 0 0 0, .agg (((ftsC args).drop ((j : Int).toNat * 5)).take 5), .int .i64 (IntKind.wrap .i64 ((d : Int) + 1))]) hrec [.cells 0 (fC5 op name md tk terms ak args)] rfl rfl (by simp only [bels, AV.bel]; exact ⟨by show 0 < 1; decide, haB, trivial, trivial⟩) (bel1 mj) (bel1 _) (by simp [AV.bel, bels]) ?_
            repeat first | refine opsStep ?_ | refine codeStep ?_ | refine drawStep ?_
            exact ⟨⟨(j + 1, wj), hj, hstep, hao'⟩, (by show args.length - (j + 1) < args.length - j; omega), Ent.fr' ⟨(by kernel_rfl), (by kernel_rfl), (by kernel_rfl), inc_slot (i := j) (by omega), trivial⟩ (by kernel_rfl)⟩
          · have he : ¬ mj.err = 0 := he
            rw [if_pos he] at k2
            subst k2
            repeat first | refine opsStep ?_ | refine codeStep ?_ | refine drawStep ?_
            exact finR (l := []) (v := .tup []) (H₁ := [.cells 0 (msC w), .cells 0 (fC5 op name md tk terms ak args)]) trivial (by kernel_rfl) (Ent.frD (l := []) (H' := [.cells 0 (msC w)]) trivial rfl (Nat.le_refl 1) trivial (bel1 _)) (by kernel_rfl) ⟨rfl, rfl⟩
        · have hj : j = args.length := by have : ¬ (j : Int) < args.length := hlt; omega
          clear hlt
          subst hj
          rw [List.drop_length, ftsWalk, ite_self] at k2
          subst k2
          repeat first | refine opsStep ?_ | refine codeStep ?_ | refine drawStep ?_
          exact finR (l := []) (v := .tup []) (H₁ := [.cells 0 (msC w), .cells 0 (fC5 op name md tk terms ak args)]) trivial (by kernel_rfl) (Ent.frD (l := []) (H' := [.cells 0 (msC w)]) trivial rfl (Nat.le_refl 1) trivial (bel1 _)) (by kernel_rfl) ⟨rfl, rfl⟩
    · have hi : i = terms.length := by have : ¬ (i : Int) < terms.length := hlt; omega
      clear hlt
      subst hi
      rw [List.drop_length, ttsWalk, ite_self] at h2
      have hw := fin h2 h3
      repeat first | refine opsStep ?_ | refine codeStep ?_ | refine drawStep ?_
      refine loopE_of (ι := {x : Nat × Ms // x.1 ≤ args.length ∧ w = (if x.2.err ≠ 0 then x.2 else ftsWalk (args.drop x.1) (d + 1) x.2) ∧ (x.2.err = 0 → MsOk x.2 (d + 1))}) (fun x => (fr [(0, .ref 0 0 0), (2, .int .i64 d), (4, .ref 1 0 0), (7, .int .i64 x.1.1)], [.cells 0 (msC x.1.2), .cells 0 (fC5 op name md tk terms ak args)])) (fun x => args.length - x.1.1)
        ⟨(0, mi), Nat.zero_le _, hw, h3⟩ (Ent.fr' ⟨(by kernel_rfl), (by kernel_rfl), (by kernel_rfl), (by kernel_rfl), trivial⟩ (by kernel_rfl)) ?_
      rintro ⟨⟨j, mj⟩, k1, k2, k3⟩
      simp only at k1 k2 k3
      repeat first | refine opsStep ?_ | refine codeStep ?_ | refine drawStep ?_
      refine decB_dec (fun hlt => ?_) (fun hlt => ?_)
      · have hj : j < args.length := by have : (j : Int) < args.length := hlt; omega
        clear hlt
        repeat first | refine opsStep ?_ | refine codeStep ?_ | refine drawStep ?_
        refine decB_dec (fun he => ?_) (fun he => ?_)
        · have he : mj.err = 0 := he
          rw [if_neg (by simp [he])] at k2
          have hld : ((ftsC args).drop ((j : Int).toNat * 5)).take 5 = (args[j]'hj).cells := by rw [Int.toNat_natCast]; exact ftsC_at hj
          have hfit : 5 ≤ ((ftsC args).drop ((j : Int).toNat * 5)).length := by rw [List.length_drop, ftsC_len, Int.toNat_natCast]; omega
          have hrec := ih (args[j]'hj) (by have := fts_nodes hj; omega) (ftsOk_iff.1 hao _ (List.getElem_mem hj)) mj (d + 1) (k3 he)
          have hstep := ftsWalk_drop hj (d + 1) mj
          rw [← k2] at hstep
          have hao' := @FT.walk_ok (args[j]'hj) (d + 1) mj (k3 he)
          have haB : bels 1 (args[j]'hj).cells := closeds_bel _ (FT.cells_closed (args[j]'hj))
          rw [← hld, ← hdi] at hrec
          rw [← hld] at haB
          generalize FT.walk (args[j]'hj) (d + 1) mj = wj at *
          repeat first | refine opsStep ?_ | refine codeStep ?_ | refine drawStep ?_
          refine guardE_of ⟨by omega, by show (j : Int) < args.length; omega⟩ ?_
          repeat first | refine opsStep ?_ | refine codeStep ?_ | refine drawStep ?_
          refine guardE_of hfit ?_
          repeat first | refine opsStep ?_ | refine codeStep ?_ | refine drawStep ?_
          refine callT (args := [.ref 0 0 0, .agg (((ftsC args).drop ((j : Int).toNat * 5)).take 5), .int .i64 (IntKind.wrap .i64 ((d : Int) + 1))]) hrec [.cells 0 (fC5 op name md tk terms ak args)] rfl rfl (by simp only [bels, AV.bel]; exact ⟨by show 0 < 1; decide, haB, trivial, trivial⟩) (bel1 mj) (bel1 _) (by simp [AV.bel, bels]) ?_
          repeat first | refine opsStep ?_ | refine codeStep ?_ | refine drawStep ?_
          exact ⟨⟨(j + 1, wj), hj, hstep, hao'⟩, (by show args.length - (j + 1) < args.length - j; omega), Ent.fr' ⟨(by kernel_rfl), (by kernel_rfl), (by kernel_rfl), inc_slot (i := j) (by omega), trivial⟩ (by kernel_rfl)⟩
        · have he : ¬ mj.err = 0 := he
          rw [if_pos he] at k2
          subst k2
          repeat first | refine opsStep ?_ | refine codeStep ?_ | refine drawStep ?_
          exact finR (l := []) (v := .tup []) (H₁ := [.cells 0 (msC w), .cells 0 (fC5 op name md tk terms ak args)]) trivial (by kernel_rfl) (Ent.frD (l := []) (H' := [.cells 0 (msC w)]) trivial rfl (Nat.le_refl 1) trivial (bel1 _)) (by kernel_rfl) ⟨rfl, rfl⟩
      · have hj : j = args.length := by have : ¬ (j : Int) < args.length := hlt; omega
        clear hlt
        subst hj
        rw [List.drop_length, ftsWalk, ite_self] at k2
        subst k2
        repeat first | refine opsStep ?_ | refine codeStep ?_ | refine drawStep ?_
        exact finR (l := []) (v := .tup []) (H₁ := [.cells 0 (msC w), .cells 0 (fC5 op name md tk terms ak args)]) trivial (by kernel_rfl) (Ent.frD (l := []) (H' := [.cells 0 (msC w)]) trivial rfl (Nat.le_refl 1) trivial (bel1 _)) (by kernel_rfl) ⟨rfl, rfl⟩

theorem r06_Measure (t : FT) (hok : t.ok) : Pure Tryd.prog 33 [.agg t.cells] (.agg (msC (t.walk 1 ms0))) := by
  have hw := r06_formula _ t (Nat.le_refl _) hok ms0 1 ⟨by decide, by decide, by decide⟩
  have hxl := FT.cells_len t
  have hxc := FT.cells_closed t
  generalize FT.walk t 1 ms0 = m at *
  generalize t.cells = x at *
  have hcl : (x.drop 0).take 5 = x := by rw [List.drop_zero, List.take_of_length_le (by omega)]
  refine Pure.of_sw 12 Tryd.func33 rfl Tryd.ntmps33 (by kernel_rfl) (Nat.le_of_ble_eq_true (by kernel_rfl)) (by simp only [closeds, AV.closed]; exact ⟨hxc, trivial⟩) (by simp only [AV.closed]; exact msC_closed _) ?_
  refine SW.of_vc ?_
  repeat first | refine opsStep ?_ | refine codeStep ?_ | refine drawStep ?_
  refine guardE_of (by show 0 + 5 ≤ x.length; omega) ?_
  repeat first | refine opsStep ?_ | refine codeStep ?_ | refine drawStep ?_
  refine callF (args := [.ref 0 0 0, .agg x, .int .i64 1]) («as» := [.ref 2 0 0, .agg ((x.drop 0).take 5), .int .i64 1]) [2] hw (by decide) (by intro b hb; simp at hb; show b < 3; omega) rfl ?_ ?_ ?_ ?_ ?_
  · rfl
  · simp only [bels, AV.bel]; exact ⟨by show 0 < 1; decide, closeds_bel _ hxc, trivial, trivial⟩
  · exact bel1 _
  · rw [hcl]
    simp only [rns, AV.rn, closeds_rn _ hxc]
    rfl
  rintro _ _ ⟨rfl, rfl⟩
  repeat first | refine opsStep ?_ | refine codeStep ?_ | refine drawStep ?_
  refine finV (v' := .agg (((msC ms0).take 0 ++ msC m) ++ (msC ms0).drop 3)) (by kernel_rfl) ?_
  simp [msC]

theorem r06_Check (t : FT) (hok : t.ok) : Pure Tryd.prog 14 [.agg t.cells] (.int .i64 (chkF t)) := by
  have hm := r06_Measure t hok
  have hxl := FT.cells_len t
  have hxc := FT.cells_closed t
  rw [chkF]
  generalize FT.walk t 1 ms0 = m at *
  generalize t.cells = x at *
  have hcl : (x.drop 0).take 5 = x := by rw [List.drop_zero, List.take_of_length_le (by omega)]
  have hm' : Pure Tryd.prog 33 [.agg ((x.drop 0).take 5)] (.agg (msC m)) := by rw [hcl]; exact hm
  refine Pure.of_sw 6 Tryd.func14 rfl Tryd.ntmps14 (by kernel_rfl) (Nat.le_of_ble_eq_true (by kernel_rfl)) (by simp only [closeds, AV.closed]; exact ⟨hxc, trivial⟩) (by simp only [AV.closed]) ?_
  refine SW.of_vc ?_
  repeat first | refine opsStep ?_ | refine codeStep ?_ | refine drawStep ?_
  refine guardE_of (by show 0 + 5 ≤ x.length; omega) ?_
  repeat first | refine opsStep ?_ | refine codeStep ?_ | refine drawStep ?_
  refine callP hm' ?_
  repeat first | refine opsStep ?_ | refine codeStep ?_ | refine drawStep ?_
  exact finV (v' := .int .i64 m.err) (by kernel_rfl) rfl

end Tab
