/- Lemmas for this claim: part 10. No condition. -/
import Derived.Test.YtiflemdfnjgobaaDoorZ9
/- The walk over a term. -/
namespace Tab
open Go Go.Proofs
set_option maxRecDepth 10000
set_option linter.unusedVariables false
set_option linter.unusedSimpArgs false
set_option linter.unusedSectionVars false
set_option maxHeartbeats 1000000

mutual
theorem TT.walk_dep : ∀ (t : TT) (d : Nat) (m : Ms), (t.walk d m).err = 0 → m.depth ≤ 100 → (t.walk d m).depth ≤ 100
  | .mk op num name k args, d, m, h, hm => by
    rw [TT.walk] at h ⊢
    by_cases hn : (nodeM m d (goodT (.mk op num name k args))).err ≠ 0
    · rw [if_pos hn] at h; exact absurd h hn
    · rw [if_neg hn] at h ⊢
      obtain ⟨_, _, n3, _, _⟩ := nodeM_ok (Decidable.of_not_not hn)
      exact ttsWalk_dep args _ _ h (by simp only [nodeM]; omega)
theorem ttsWalk_dep : ∀ (l : List TT) (d : Nat) (m : Ms), (ttsWalk l d m).err = 0 → m.depth ≤ 100 → (ttsWalk l d m).depth ≤ 100
  | [], d, m, h, hm => by simpa [ttsWalk] using hm
  | t :: l, d, m, h, hm => by
    rw [ttsWalk] at h ⊢
    by_cases hn : (t.walk d m).err ≠ 0
    · rw [if_pos hn] at h; exact absurd h hn
    · rw [if_neg hn] at h ⊢
      exact ttsWalk_dep l d _ h (TT.walk_dep t d m (Decidable.of_not_not hn) hm)
end
theorem TT.walk_ok {t : TT} {d : Nat} {m : Ms} (h : MsOk m d) (he : (t.walk d m).err = 0) : MsOk (t.walk d m) d :=
  ⟨(TT.walk_right t d m he).2.2, TT.walk_dep t d m he h.dep, h.d⟩
def wF : AV := .fn (.func 81) [] [.ref 1 0 0]
def mH (m : Ms) : List Blk := [.cells 0 (msC m), .cells 0 [.ref 0 0 0]]
theorem mH_bel (m : Ms) : blksBel 2 (mH m) := by
  simp only [mH, blksBel, Blk.bel]
  exact ⟨msC_bel _ _, by simp [bels, AV.bel], trivial⟩
theorem mH_bel' (m : Ms) (n : Nat) (h : 2 ≤ n) : blksBel n (mH m) := by
  simp only [mH, blksBel, Blk.bel]
  exact ⟨msC_bel _ _, by simp [bels, AV.bel]; omega, trivial⟩
theorem tts_nodes : ∀ {l : List TT} {i : Nat} (h : i < l.length), (l[i]'h).nodes ≤ ttsNodes l
  | t :: l, 0, h => by rw [ttsNodes]; show t.nodes ≤ _; omega
  | t :: l, i + 1, h => by rw [ttsNodes]; have := tts_nodes (l := l) (i := i) (by simpa using h); show (l[i]'_).nodes ≤ _; omega
theorem ttsWalk_drop {l : List TT} {i : Nat} (h : i < l.length) (d : Nat) (m : Ms) : ttsWalk (l.drop i) d m = if ((l[i]'h).walk d m).err ≠ 0 then (l[i]'h).walk d m else ttsWalk (l.drop (i + 1)) d ((l[i]'h).walk d m) := by
  rw [List.drop_eq_getElem_cons h, ttsWalk]

theorem over4 {l : List AV} (h : l.length = 4) (a b c d : AV) : over [a, b, c, d] 0 l = l := by
  rw [over, h]; simp

theorem walk_term : ∀ (n : Nat) (t : TT), t.nodes ≤ n → t.ok → ∀ (m : Ms) (d : Nat), MsOk m d → m.err = 0 → ACall Tryd.prog 55 [wF, .agg t.cells, .int .i64 d] (mH m) fun o H' => o = .ret (.bool (decide ((t.walk d m).err = 0))) ∧ H' = mH (t.walk d m) := by
  intro n
  induction n with
  | zero => intro t h; rcases t with ⟨op, num, name, k, args⟩; rw [TT.nodes] at h; omega
  | succ n ih =>
    intro t hnodes hok m d hm he
    have hgood := tree_term t (by cases t; rw [TT.ok] at hok; have := hok.2.2.1; show List.length _ < _; simp only [TT.name]; omega)
    have hwk := TT.walk_eq t d m
    rw [TT.cells_eq] at hgood ⊢
    rcases t with ⟨op, num, name, k, args⟩
    rw [TT.ok] at hok
    rw [TT.nodes] at hnodes
    generalize goodT ⟨op, num, name, k, args⟩ = g at *
    generalize TT.walk ⟨op, num, name, k, args⟩ d m = w at *
    simp only [TT.op, TT.num, TT.name, TT.k, TT.args] at hgood hwk ⊢
    have hal := hok.2.2.2.1
    have hao := hok.2.2.2.2
    have hd := hm.d
    refine ACall.of_sw 29 Tryd.func55 rfl Tryd.ntmps55 (by kernel_rfl) (Nat.le_of_ble_eq_true (by kernel_rfl)) ?_; refine SW.of_vc ?_
    repeat first | refine opsStep ?_ | refine codeStep ?_ | refine drawStep ?_
    refine callP hgood ?_
    repeat first | refine opsStep ?_ | refine codeStep ?_ | refine drawStep ?_
    refine callT (args := [.int .i64 d, .bool g, .ref 1 0 0]) (met1 m d g hm he) [.cells 0 (tC op num name k args)] rfl rfl (by simp [bels, AV.bel]) (mH_bel m) (mH_bel _) (by simp [AV.bel]) ?_
    repeat first | refine opsStep ?_ | refine codeStep ?_ | refine drawStep ?_
    refine decB_split (fun h => ?_) (fun h => ?_)
    · have hne : (nodeM m d g).err ≠ 0 := by simpa using h
      rw [if_pos hne] at hwk
      repeat first | refine opsStep ?_ | refine codeStep ?_ | refine drawStep ?_
      refine finR (l := [(6, .bool false)]) (v := .bool false) (H₁ := mH (nodeM m d g) ++ [.cells 0 (tC op num name k args)]) ⟨(by kernel_rfl), trivial⟩ (by kernel_rfl) (Ent.frD (l := [(6, .bool false)]) ⟨(by kernel_rfl), trivial⟩ rfl (Nat.le_refl 2) (by simp [frBel, AV.bel]) (mH_bel _)) (by kernel_rfl) ⟨by rw [hwk, decide_eq_false hne], by rw [hwk]⟩
    · have hne : (nodeM m d g).err = 0 := by simpa using h
      rw [if_neg (by simp [hne])] at hwk
      have hm1 := nodeM_bd hm hne
      clear h
      repeat first | refine opsStep ?_ | refine codeStep ?_ | refine drawStep ?_
      refine loopE_of (ι := {x : Nat × Ms // x.1 ≤ args.length ∧ w = ttsWalk (args.drop x.1) (d + 1) x.2 ∧ MsOk x.2 (d + 1) ∧ x.2.err = 0}) (fun x => (fr [(0, wF), (2, .int .i64 d), (16, .sl k args.length (ttsC args)), (17, .int .i64 args.length), (18, .int .i64 x.1.1)], mH x.1.2)) (fun x => args.length - x.1.1)
        ⟨(0, nodeM m d g), Nat.zero_le _, hwk, hm1, hne⟩ (Ent.frD (X := [.cells 0 (tC op num name k args)]) ⟨(by kernel_rfl), (by kernel_rfl), (by kernel_rfl), (by kernel_rfl), (by kernel_rfl), trivial⟩ (by kernel_rfl) (Nat.le_refl 2) (by simp only [frBel, AV.bel, wF, bels]; exact ⟨⟨trivial, by show 1 < 2; decide, trivial⟩, trivial, closeds_bel _ (ttsC_closed _), trivial, trivial, trivial⟩) (mH_bel _)) ?_
      rintro ⟨⟨i, mi⟩, h1, h2, h3, h4⟩
      simp only at h1 h2 h3 h4
      repeat first | refine opsStep ?_ | refine codeStep ?_ | refine drawStep ?_
      refine decB_dec (fun hlt => ?_) (fun hlt => ?_)
      · have hi : i < args.length := by have : (i : Int) < args.length := hlt; omega
        clear hlt
        have hld : ((ttsC args).drop ((i : Int).toNat * 4)).take 4 = (args[i]'hi).cells := by rw [Int.toNat_natCast]; exact ttsC_at hi
        have hfit : 4 ≤ ((ttsC args).drop ((i : Int).toNat * 4)).length := by rw [List.length_drop, ttsC_len, Int.toNat_natCast]; omega
        have hdi : IntKind.wrap .i64 ((d : Int) + 1) = ((d + 1 : Nat) : Int) := by rw [IntWalk.i64_in _ (by omega)]; simp
        have hrec := ih (args[i]'hi) (by have := tts_nodes hi; omega) (ttsOk_iff.1 hao _ (List.getElem_mem hi)) mi (d + 1) h3 h4
        have hstep := ttsWalk_drop hi (d + 1) mi
        rw [← h2] at hstep
        have hao' := @TT.walk_ok (args[i]'hi) (d + 1) mi h3
        have haC := TT.cells_len (args[i]'hi)
        have haB : bels 2 (args[i]'hi).cells := closeds_bel _ (TT.cells_closed (args[i]'hi))
        rw [← hdi] at hrec
        generalize args[i]'hi = a at *
        generalize TT.walk a (d + 1) mi = wi at *
        repeat first | refine opsStep ?_ | refine codeStep ?_ | refine drawStep ?_
        refine guardE_of ⟨by omega, by show (i : Int) < args.length; omega⟩ ?_
        repeat first | refine opsStep ?_ | refine codeStep ?_ | refine drawStep ?_
        refine guardE_of hfit ?_
        repeat first | refine opsStep ?_ | refine codeStep ?_ | refine drawStep ?_
        refine guardE_of ⟨by show (((ttsC args).drop ((i : Int).toNat * 4)).take 4).length = 4; rw [hld]; exact haC, by decide, by decide⟩ ?_
        iterate 1 refine opsStep ?_
        refine VCode.ent (Ent.fr' (l := [(0, wF), (2, .int .i64 d), (8, .ref 2 0 0), (16, .sl k args.length (ttsC args)), (17, .int .i64 args.length), (18, .int .i64 i)]) (H' := mH mi ++ [.cells 0 a.cells]) ⟨(by kernel_rfl), (by kernel_rfl), (by kernel_rfl), (by kernel_rfl), (by kernel_rfl), (by kernel_rfl), trivial⟩ (Eq.trans (b := mH mi ++ [.cells 0 (over [.int .i64 0, .int .i64 0, .str [], .sl .nil 0 []] 0 (((ttsC args).drop ((i : Int).toNat * 4)).take 4))]) (by kernel_rfl) (by rw [hld, over4 haC]))) ?_
        repeat first | refine opsStep ?_ | refine codeStep ?_ | refine drawStep ?_
        refine guardE_of (by show 0 + 4 ≤ a.cells.length; omega) ?_
        repeat first | refine opsStep ?_ | refine codeStep ?_ | refine drawStep ?_
        have hcl : (a.cells.drop 0).take 4 = a.cells := by rw [List.drop_zero, List.take_of_length_le (by omega)]
        have hrec' : ACall Tryd.prog 55 [wF, .agg ((a.cells.drop 0).take 4), .int .i64 (IntKind.wrap .i64 ((d : Int) + 1))] (mH mi) fun o H' => o = .ret (.bool (decide (wi.err = 0))) ∧ H' = mH wi := by rw [hcl]; exact hrec
        refine callT (args := [wF, .agg ((a.cells.drop 0).take 4), .int .i64 (IntKind.wrap .i64 ((d : Int) + 1))]) hrec' [.cells 0 a.cells] rfl rfl (by rw [hcl]; simp only [bels, AV.bel, wF]; exact ⟨⟨trivial, by show 1 < 2; decide, trivial⟩, haB, trivial, trivial⟩) (mH_bel mi) (mH_bel _) (by simp [AV.bel]) ?_
        repeat first | refine opsStep ?_ | refine codeStep ?_ | refine drawStep ?_
        refine decB_split (fun hb => ?_) (fun hb => ?_)
        · have hne : wi.err ≠ 0 := by simpa using hb
          rw [if_pos hne] at hstep
          repeat first | refine opsStep ?_ | refine codeStep ?_ | refine drawStep ?_
          refine finR (l := [(6, .bool false)]) (v := .bool false) (H₁ := mH wi ++ [.cells 0 a.cells]) ⟨(by kernel_rfl), trivial⟩ (by kernel_rfl) (Ent.frD (l := [(6, .bool false)]) ⟨(by kernel_rfl), trivial⟩ rfl (Nat.le_refl 2) (by simp [frBel, AV.bel]) (mH_bel _)) (by kernel_rfl) ⟨by rw [hstep, decide_eq_false hne], by rw [hstep]⟩
        · have hne : wi.err = 0 := by simpa using hb
          rw [if_neg (by simp [hne])] at hstep
          clear hb
          repeat first | refine opsStep ?_ | refine codeStep ?_ | refine drawStep ?_
          exact ⟨⟨(i + 1, wi), hi, hstep, hao' hne, hne⟩, (by show args.length - (i + 1) < args.length - i; omega), Ent.frD (X := [.cells 0 a.cells]) ⟨(by kernel_rfl), (by kernel_rfl), (by kernel_rfl), (by kernel_rfl), inc_slot (i := i) (by omega), trivial⟩ (by kernel_rfl) (Nat.le_refl 2) (by simp only [frBel, AV.bel, wF, bels]; exact ⟨⟨trivial, by show 1 < 2; decide, trivial⟩, trivial, closeds_bel _ (ttsC_closed _), trivial, trivial, trivial⟩) (mH_bel _)⟩
      · have hi : i = args.length := by have : ¬ (i : Int) < args.length := hlt; omega
        clear hlt
        subst hi
        rw [List.drop_length, ttsWalk] at h2
        subst h2
        repeat first | refine opsStep ?_ | refine codeStep ?_ | refine drawStep ?_
        exact finR (l := [(6, .bool true)]) (v := .bool true) (H₁ := mH w) ⟨(by kernel_rfl), trivial⟩ (by kernel_rfl) (Ent.refl _ _ _) (by kernel_rfl) ⟨by rw [decide_eq_true h4], rfl⟩

end Tab

/- Nodes of formulas that are well made. -/
namespace Tab
open Go Go.Proofs
set_option maxRecDepth 10000
set_option linter.unusedVariables false
set_option linter.unusedSimpArgs false
set_option linter.unusedSectionVars false
set_option maxHeartbeats 4000000

theorem tree_formula (f : FT) (hn : f.name.length < 2^62) : Pure Tryd.prog 102 [.agg f.cells] (.bool (goodF f)) := by
  rw [FT.cells_eq]
  rcases f with ⟨op, name, md, tk, terms, ak, args⟩
  simp only [FT.op, FT.name, FT.md, FT.tk, FT.terms, FT.ak, FT.args] at hn ⊢
  have hL0 : ((args.length : Int) = 0) ↔ args.length = 0 := by omega
  have hL1 : ((args.length : Int) = 1) ↔ args.length = 1 := by omega
  have hL2 : ((args.length : Int) = 2) ↔ args.length = 2 := by omega
  have hT0 : ((terms.length : Int) = 0) ↔ terms.length = 0 := by omega
  have hT2 : ((terms.length : Int) = 2) ↔ terms.length = 2 := by omega
  by_cases hr : 0 ≤ op ∧ op ≤ 15
  · rcases (by omega : op = 0 ∨ op = 1 ∨ op = 2 ∨ op = 3 ∨ op = 4 ∨ op = 5 ∨ op = 6 ∨ op = 7 ∨ op = 8 ∨ op = 9 ∨ op = 10 ∨ op = 11 ∨ op = 12 ∨ op = 13 ∨ op = 14 ∨ op = 15) with hop | hop | hop | hop | hop | hop | hop | hop | hop | hop | hop | hop | hop | hop | hop | hop
    · subst hop
      refine Pure.of_sw 132 Tryd.func102 rfl Tryd.ntmps102 (by kernel_rfl) (Nat.le_of_ble_eq_true (by kernel_rfl)) (by simp only [closeds]; exact ⟨fC5_closed 0 name md tk terms ak args, trivial⟩) (by simp only [AV.closed]) ?_
      refine SW.of_vc ?_
      repeat' first | refine opsStep ?_ | refine codeStep ?_ | refine decB_split (fun h => ?_) (fun h => ?_)
      all_goals
        refine SW.drawn rfl (by kernel_rfl) ?_
        repeat first | refine opsStep ?_ | refine codeStep ?_ | refine drawStep ?_
        refine ⟨by kernel_rfl, ?_⟩
        repeat' first | refine opsStep ?_ | refine codeStep ?_ | refine decB_split (fun h => ?_) (fun h => ?_)
      all_goals exact finB rfl (by first | (simp_all [goodF, FT.op, FT.name, FT.md, FT.terms, FT.args]; done) | (clear hr; simp only [goodF, FT.op, FT.name, FT.md, FT.terms, FT.args]; by_cases q1 : name = [] <;> by_cases q2 : md = 0 <;> by_cases q3 : 1 ≤ md <;> by_cases q4 : nameS name = true <;> by_cases q5 : terms = [] <;> by_cases q6 : args = [] <;> simp_all <;> first | rfl | omega | exact decide_eq_false (by omega) | (intro hh; exact absurd (of_decide_eq_true hh) (by omega))))
    · subst hop
      refine Pure.of_sw 132 Tryd.func102 rfl Tryd.ntmps102 (by kernel_rfl) (Nat.le_of_ble_eq_true (by kernel_rfl)) (by simp only [closeds]; exact ⟨fC5_closed 1 name md tk terms ak args, trivial⟩) (by simp only [AV.closed]) ?_
      refine SW.of_vc ?_
      repeat' first | refine opsStep ?_ | refine codeStep ?_ | refine decB_split (fun h => ?_) (fun h => ?_)
      all_goals
        refine SW.drawn rfl (by kernel_rfl) ?_
        repeat first | refine opsStep ?_ | refine codeStep ?_ | refine drawStep ?_
        refine ⟨by kernel_rfl, ?_⟩
        repeat' first | refine opsStep ?_ | refine codeStep ?_ | refine decB_split (fun h => ?_) (fun h => ?_)
      all_goals exact finB rfl (by first | (simp_all [goodF, FT.op, FT.name, FT.md, FT.terms, FT.args]; done) | (clear hr; simp only [goodF, FT.op, FT.name, FT.md, FT.terms, FT.args]; by_cases q1 : name = [] <;> by_cases q2 : md = 0 <;> by_cases q3 : 1 ≤ md <;> by_cases q4 : nameS name = true <;> by_cases q5 : terms = [] <;> by_cases q6 : args = [] <;> simp_all <;> first | rfl | omega | exact decide_eq_false (by omega) | (intro hh; exact absurd (of_decide_eq_true hh) (by omega))))
    · subst hop
      refine Pure.of_sw 132 Tryd.func102 rfl Tryd.ntmps102 (by kernel_rfl) (Nat.le_of_ble_eq_true (by kernel_rfl)) (by simp only [closeds]; exact ⟨fC5_closed 2 name md tk terms ak args, trivial⟩) (by simp only [AV.closed]) ?_
      refine SW.of_vc ?_
      repeat' first | refine opsStep ?_ | refine codeStep ?_ | refine decB_split (fun h => ?_) (fun h => ?_)
      all_goals
        refine SW.drawn rfl (by kernel_rfl) ?_
        repeat first | refine opsStep ?_ | refine codeStep ?_ | refine drawStep ?_
        refine ⟨by kernel_rfl, ?_⟩
        repeat' first | refine opsStep ?_ | refine codeStep ?_ | refine decB_split (fun h => ?_) (fun h => ?_)
      all_goals exact finB rfl (by first | (simp_all [goodF, FT.op, FT.name, FT.md, FT.terms, FT.args]; done) | (clear hr; simp only [goodF, FT.op, FT.name, FT.md, FT.terms, FT.args]; by_cases q1 : name = [] <;> by_cases q2 : md = 0 <;> by_cases q3 : 1 ≤ md <;> by_cases q4 : nameS name = true <;> by_cases q5 : terms = [] <;> by_cases q6 : args = [] <;> simp_all <;> first | rfl | omega | exact decide_eq_false (by omega) | (intro hh; exact absurd (of_decide_eq_true hh) (by omega))))
    · subst hop
      refine Pure.of_sw 132 Tryd.func102 rfl Tryd.ntmps102 (by kernel_rfl) (Nat.le_of_ble_eq_true (by kernel_rfl)) (by simp only [closeds]; exact ⟨fC5_closed 3 name md tk terms ak args, trivial⟩) (by simp only [AV.closed]) ?_
      refine SW.of_vc ?_
      repeat' first | refine opsStep ?_ | refine codeStep ?_ | refine decB_split (fun h => ?_) (fun h => ?_)
      all_goals
        refine SW.drawn rfl (by kernel_rfl) ?_
        repeat first | refine opsStep ?_ | refine codeStep ?_ | refine drawStep ?_
        refine ⟨by kernel_rfl, ?_⟩
        repeat' first | refine opsStep ?_ | refine codeStep ?_ | refine decB_split (fun h => ?_) (fun h => ?_)
      all_goals exact finB rfl (by first | (simp_all [goodF, FT.op, FT.name, FT.md, FT.terms, FT.args]; done) | (clear hr; simp only [goodF, FT.op, FT.name, FT.md, FT.terms, FT.args]; by_cases q1 : name = [] <;> by_cases q2 : md = 0 <;> by_cases q3 : 1 ≤ md <;> by_cases q4 : nameS name = true <;> by_cases q5 : terms = [] <;> by_cases q6 : args = [] <;> simp_all <;> first | rfl | omega | exact decide_eq_false (by omega) | (intro hh; exact absurd (of_decide_eq_true hh) (by omega))))
    · subst hop
      refine Pure.of_sw 132 Tryd.func102 rfl Tryd.ntmps102 (by kernel_rfl) (Nat.le_of_ble_eq_true (by kernel_rfl)) (by simp only [closeds]; exact ⟨fC5_closed 4 name md tk terms ak args, trivial⟩) (by simp only [AV.closed]) ?_
      refine SW.of_vc ?_
      repeat' first | refine opsStep ?_ | refine codeStep ?_ | refine decB_split (fun h => ?_) (fun h => ?_)
      all_goals
        refine SW.drawn rfl (by kernel_rfl) ?_
        repeat first | refine opsStep ?_ | refine codeStep ?_ | refine drawStep ?_
        refine ⟨by kernel_rfl, ?_⟩
        repeat' first | refine opsStep ?_ | refine codeStep ?_ | refine decB_split (fun h => ?_) (fun h => ?_)
      all_goals exact finB rfl (by first | (simp_all [goodF, FT.op, FT.name, FT.md, FT.terms, FT.args]; done) | (clear hr; simp only [goodF, FT.op, FT.name, FT.md, FT.terms, FT.args]; by_cases q1 : name = [] <;> by_cases q2 : md = 0 <;> by_cases q3 : 1 ≤ md <;> by_cases q4 : nameS name = true <;> by_cases q5 : terms = [] <;> by_cases q6 : args = [] <;> simp_all <;> first | rfl | omega | exact decide_eq_false (by omega) | (intro hh; exact absurd (of_decide_eq_true hh) (by omega))))
    · subst hop
      refine Pure.of_sw 132 Tryd.func102 rfl Tryd.ntmps102 (by kernel_rfl) (Nat.le_of_ble_eq_true (by kernel_rfl)) (by simp only [closeds]; exact ⟨fC5_closed 5 name md tk terms ak args, trivial⟩) (by simp only [AV.closed]) ?_
      refine SW.of_vc ?_
      repeat' first | refine opsStep ?_ | refine codeStep ?_ | refine decB_split (fun h => ?_) (fun h => ?_)
      all_goals
        refine SW.drawn rfl (by kernel_rfl) ?_
        repeat first | refine opsStep ?_ | refine codeStep ?_ | refine drawStep ?_
        refine ⟨by kernel_rfl, ?_⟩
        repeat' first | refine opsStep ?_ | refine codeStep ?_ | refine decB_split (fun h => ?_) (fun h => ?_)
      all_goals exact finB rfl (by first | (simp_all [goodF, FT.op, FT.name, FT.md, FT.terms, FT.args]; done) | (clear hr; simp only [goodF, FT.op, FT.name, FT.md, FT.terms, FT.args]; by_cases q1 : name = [] <;> by_cases q2 : md = 0 <;> by_cases q3 : 1 ≤ md <;> by_cases q4 : nameS name = true <;> by_cases q5 : terms = [] <;> by_cases q6 : args = [] <;> simp_all <;> first | rfl | omega | exact decide_eq_false (by omega) | (intro hh; exact absurd (of_decide_eq_true hh) (by omega))))
    · subst hop
      refine Pure.of_sw 132 Tryd.func102 rfl Tryd.ntmps102 (by kernel_rfl) (Nat.le_of_ble_eq_true (by kernel_rfl)) (by simp only [closeds]; exact ⟨fC5_closed 6 name md tk terms ak args, trivial⟩) (by simp only [AV.closed]) ?_
      refine SW.of_vc ?_
      repeat' first | refine opsStep ?_ | refine codeStep ?_ | refine decB_split (fun h => ?_) (fun h => ?_)
      all_goals
        refine SW.drawn rfl (by kernel_rfl) ?_
        repeat first | refine opsStep ?_ | refine codeStep ?_ | refine drawStep ?_
        refine ⟨by kernel_rfl, ?_⟩
        repeat' first | refine opsStep ?_ | refine codeStep ?_ | refine decB_split (fun h => ?_) (fun h => ?_)
      all_goals exact finB rfl (by first | (simp_all [goodF, FT.op, FT.name, FT.md, FT.terms, FT.args]; done) | (clear hr; simp only [goodF, FT.op, FT.name, FT.md, FT.terms, FT.args]; by_cases q1 : name = [] <;> by_cases q2 : md = 0 <;> by_cases q3 : 1 ≤ md <;> by_cases q4 : nameS name = true <;> by_cases q5 : terms = [] <;> by_cases q6 : args = [] <;> simp_all <;> first | rfl | omega | exact decide_eq_false (by omega) | (intro hh; exact absurd (of_decide_eq_true hh) (by omega))))
    · subst hop
      refine Pure.of_sw 132 Tryd.func102 rfl Tryd.ntmps102 (by kernel_rfl) (Nat.le_of_ble_eq_true (by kernel_rfl)) (by simp only [closeds]; exact ⟨fC5_closed 7 name md tk terms ak args, trivial⟩) (by simp only [AV.closed]) ?_
      refine SW.of_vc ?_
      repeat' first | refine opsStep ?_ | refine codeStep ?_ | refine decB_split (fun h => ?_) (fun h => ?_)
      all_goals
        refine SW.drawn rfl (by kernel_rfl) ?_
        repeat first | refine opsStep ?_ | refine codeStep ?_ | refine drawStep ?_
        refine ⟨by kernel_rfl, ?_⟩
        repeat first | refine opsStep ?_ | refine codeStep ?_ | refine drawStep ?_
        refine callP (glyph_Name name hn) ?_
        repeat' first | refine opsStep ?_ | refine codeStep ?_ | refine decB_split (fun h => ?_) (fun h => ?_)
      all_goals exact finB rfl (by first | (simp_all [goodF, FT.op, FT.name, FT.md, FT.terms, FT.args]; done) | (clear hr; simp only [goodF, FT.op, FT.name, FT.md, FT.terms, FT.args]; by_cases q1 : name = [] <;> by_cases q2 : md = 0 <;> by_cases q3 : 1 ≤ md <;> by_cases q4 : nameS name = true <;> by_cases q5 : terms = [] <;> by_cases q6 : args = [] <;> simp_all <;> first | rfl | omega | exact decide_eq_false (by omega) | (intro hh; exact absurd (of_decide_eq_true hh) (by omega))))
    · subst hop
      refine Pure.of_sw 132 Tryd.func102 rfl Tryd.ntmps102 (by kernel_rfl) (Nat.le_of_ble_eq_true (by kernel_rfl)) (by simp only [closeds]; exact ⟨fC5_closed 8 name md tk terms ak args, trivial⟩) (by simp only [AV.closed]) ?_
      refine SW.of_vc ?_
      repeat' first | refine opsStep ?_ | refine codeStep ?_ | refine decB_split (fun h => ?_) (fun h => ?_)
      all_goals
        refine SW.drawn rfl (by kernel_rfl) ?_
        repeat first | refine opsStep ?_ | refine codeStep ?_ | refine drawStep ?_
        refine ⟨by kernel_rfl, ?_⟩
        repeat first | refine opsStep ?_ | refine codeStep ?_ | refine drawStep ?_
        refine callP (glyph_Name name hn) ?_
        repeat' first | refine opsStep ?_ | refine codeStep ?_ | refine decB_split (fun h => ?_) (fun h => ?_)
      all_goals exact finB rfl (by first | (simp_all [goodF, FT.op, FT.name, FT.md, FT.terms, FT.args]; done) | (clear hr; simp only [goodF, FT.op, FT.name, FT.md, FT.terms, FT.args]; by_cases q1 : name = [] <;> by_cases q2 : md = 0 <;> by_cases q3 : 1 ≤ md <;> by_cases q4 : nameS name = true <;> by_cases q5 : terms = [] <;> by_cases q6 : args = [] <;> simp_all <;> first | rfl | omega | exact decide_eq_false (by omega) | (intro hh; exact absurd (of_decide_eq_true hh) (by omega))))
    · subst hop
      refine Pure.of_sw 132 Tryd.func102 rfl Tryd.ntmps102 (by kernel_rfl) (Nat.le_of_ble_eq_true (by kernel_rfl)) (by simp only [closeds]; exact ⟨fC5_closed 9 name md tk terms ak args, trivial⟩) (by simp only [AV.closed]) ?_
      refine SW.of_vc ?_
      repeat' first | refine opsStep ?_ | refine codeStep ?_ | refine decB_split (fun h => ?_) (fun h => ?_)
      all_goals
        refine SW.drawn rfl (by kernel_rfl) ?_
        repeat first | refine opsStep ?_ | refine codeStep ?_ | refine drawStep ?_
        refine ⟨by kernel_rfl, ?_⟩
        repeat' first | refine opsStep ?_ | refine codeStep ?_ | refine decB_split (fun h => ?_) (fun h => ?_)
      all_goals exact finB rfl (by first | (simp_all [goodF, FT.op, FT.name, FT.md, FT.terms, FT.args]; done) | (clear hr; simp only [goodF, FT.op, FT.name, FT.md, FT.terms, FT.args]; by_cases q1 : name = [] <;> by_cases q2 : md = 0 <;> by_cases q3 : 1 ≤ md <;> by_cases q4 : nameS name = true <;> by_cases q5 : terms = [] <;> by_cases q6 : args = [] <;> simp_all <;> first | rfl | omega | exact decide_eq_false (by omega) | (intro hh; exact absurd (of_decide_eq_true hh) (by omega))))
    · subst hop
      refine Pure.of_sw 132 Tryd.func102 rfl Tryd.ntmps102 (by kernel_rfl) (Nat.le_of_ble_eq_true (by kernel_rfl)) (by simp only [closeds]; exact ⟨fC5_closed 10 name md tk terms ak args, trivial⟩) (by simp only [AV.closed]) ?_
      refine SW.of_vc ?_
      repeat' first | refine opsStep ?_ | refine codeStep ?_ | refine decB_split (fun h => ?_) (fun h => ?_)
      all_goals
        refine SW.drawn rfl (by kernel_rfl) ?_
        repeat first | refine opsStep ?_ | refine codeStep ?_ | refine drawStep ?_
        refine ⟨by kernel_rfl, ?_⟩
        repeat' first | refine opsStep ?_ | refine codeStep ?_ | refine decB_split (fun h => ?_) (fun h => ?_)
      all_goals exact finB rfl (by first | (simp_all [goodF, FT.op, FT.name, FT.md, FT.terms, FT.args]; done) | (clear hr; simp only [goodF, FT.op, FT.name, FT.md, FT.terms, FT.args]; by_cases q1 : name = [] <;> by_cases q2 : md = 0 <;> by_cases q3 : 1 ≤ md <;> by_cases q4 : nameS name = true <;> by_cases q5 : terms = [] <;> by_cases q6 : args = [] <;> simp_all <;> first | rfl | omega | exact decide_eq_false (by omega) | (intro hh; exact absurd (of_decide_eq_true hh) (by omega))))
    · subst hop
      refine Pure.of_sw 132 Tryd.func102 rfl Tryd.ntmps102 (by kernel_rfl) (Nat.le_of_ble_eq_true (by kernel_rfl)) (by simp only [closeds]; exact ⟨fC5_closed 11 name md tk terms ak args, trivial⟩) (by simp only [AV.closed]) ?_
      refine SW.of_vc ?_
      repeat' first | refine opsStep ?_ | refine codeStep ?_ | refine decB_split (fun h => ?_) (fun h => ?_)
      all_goals
        refine SW.drawn rfl (by kernel_rfl) ?_
        repeat first | refine opsStep ?_ | refine codeStep ?_ | refine drawStep ?_
        refine ⟨by kernel_rfl, ?_⟩
        repeat' first | refine opsStep ?_ | refine codeStep ?_ | refine decB_split (fun h => ?_) (fun h => ?_)
      all_goals exact finB rfl (by first | (simp_all [goodF, FT.op, FT.name, FT.md, FT.terms, FT.args]; done) | (clear hr; simp only [goodF, FT.op, FT.name, FT.md, FT.terms, FT.args]; by_cases q1 : name = [] <;> by_cases q2 : md = 0 <;> by_cases q3 : 1 ≤ md <;> by_cases q4 : nameS name = true <;> by_cases q5 : terms = [] <;> by_cases q6 : args = [] <;> simp_all <;> first | rfl | omega | exact decide_eq_false (by omega) | (intro hh; exact absurd (of_decide_eq_true hh) (by omega))))
    · subst hop
      refine Pure.of_sw 132 Tryd.func102 rfl Tryd.ntmps102 (by kernel_rfl) (Nat.le_of_ble_eq_true (by kernel_rfl)) (by simp only [closeds]; exact ⟨fC5_closed 12 name md tk terms ak args, trivial⟩) (by simp only [AV.closed]) ?_
      refine SW.of_vc ?_
      repeat' first | refine opsStep ?_ | refine codeStep ?_ | refine decB_split (fun h => ?_) (fun h => ?_)
      all_goals
        refine SW.drawn rfl (by kernel_rfl) ?_
        repeat first | refine opsStep ?_ | refine codeStep ?_ | refine drawStep ?_
        refine ⟨by kernel_rfl, ?_⟩
        repeat' first | refine opsStep ?_ | refine codeStep ?_ | refine decB_split (fun h => ?_) (fun h => ?_)
      all_goals exact finB rfl (by first | (simp_all [goodF, FT.op, FT.name, FT.md, FT.terms, FT.args]; done) | (clear hr; simp only [goodF, FT.op, FT.name, FT.md, FT.terms, FT.args]; by_cases q1 : name = [] <;> by_cases q2 : md = 0 <;> by_cases q3 : 1 ≤ md <;> by_cases q4 : nameS name = true <;> by_cases q5 : terms = [] <;> by_cases q6 : args = [] <;> simp_all <;> first | rfl | omega | exact decide_eq_false (by omega) | (intro hh; exact absurd (of_decide_eq_true hh) (by omega))))
    · subst hop
      refine Pure.of_sw 132 Tryd.func102 rfl Tryd.ntmps102 (by kernel_rfl) (Nat.le_of_ble_eq_true (by kernel_rfl)) (by simp only [closeds]; exact ⟨fC5_closed 13 name md tk terms ak args, trivial⟩) (by simp only [AV.closed]) ?_
      refine SW.of_vc ?_
      repeat' first | refine opsStep ?_ | refine codeStep ?_ | refine decB_split (fun h => ?_) (fun h => ?_)
      all_goals
        refine SW.drawn rfl (by kernel_rfl) ?_
        repeat first | refine opsStep ?_ | refine codeStep ?_ | refine drawStep ?_
        refine ⟨by kernel_rfl, ?_⟩
        repeat' first | refine opsStep ?_ | refine codeStep ?_ | refine decB_split (fun h => ?_) (fun h => ?_)
      all_goals exact finB rfl (by first | (simp_all [goodF, FT.op, FT.name, FT.md, FT.terms, FT.args]; done) | (clear hr; simp only [goodF, FT.op, FT.name, FT.md, FT.terms, FT.args]; by_cases q1 : name = [] <;> by_cases q2 : md = 0 <;> by_cases q3 : 1 ≤ md <;> by_cases q4 : nameS name = true <;> by_cases q5 : terms = [] <;> by_cases q6 : args = [] <;> simp_all <;> first | rfl | omega | exact decide_eq_false (by omega) | (intro hh; exact absurd (of_decide_eq_true hh) (by omega))))
    · subst hop
      refine Pure.of_sw 132 Tryd.func102 rfl Tryd.ntmps102 (by kernel_rfl) (Nat.le_of_ble_eq_true (by kernel_rfl)) (by simp only [closeds]; exact ⟨fC5_closed 14 name md tk terms ak args, trivial⟩) (by simp only [AV.closed]) ?_
      refine SW.of_vc ?_
      repeat' first | refine opsStep ?_ | refine codeStep ?_ | refine decB_split (fun h => ?_) (fun h => ?_)
      all_goals
        refine SW.drawn rfl (by kernel_rfl) ?_
        repeat first | refine opsStep ?_ | refine codeStep ?_ | refine drawStep ?_
        refine ⟨by kernel_rfl, ?_⟩
        repeat' first | refine opsStep ?_ | refine codeStep ?_ | refine decB_split (fun h => ?_) (fun h => ?_)
      all_goals exact finB rfl (by first | (simp_all [goodF, FT.op, FT.name, FT.md, FT.terms, FT.args]; done) | (clear hr; simp only [goodF, FT.op, FT.name, FT.md, FT.terms, FT.args]; by_cases q1 : name = [] <;> by_cases q2 : md = 0 <;> by_cases q3 : 1 ≤ md <;> by_cases q4 : nameS name = true <;> by_cases q5 : terms = [] <;> by_cases q6 : args = [] <;> simp_all <;> first | rfl | omega | exact decide_eq_false (by omega) | (intro hh; exact absurd (of_decide_eq_true hh) (by omega))))
    · subst hop
      refine Pure.of_sw 132 Tryd.func102 rfl Tryd.ntmps102 (by kernel_rfl) (Nat.le_of_ble_eq_true (by kernel_rfl)) (by simp only [closeds]; exact ⟨fC5_closed 15 name md tk terms ak args, trivial⟩) (by simp only [AV.closed]) ?_
      refine SW.of_vc ?_
      repeat' first | refine opsStep ?_ | refine codeStep ?_ | refine decB_split (fun h => ?_) (fun h => ?_)
      all_goals
        refine SW.drawn rfl (by kernel_rfl) ?_
        repeat first | refine opsStep ?_ | refine codeStep ?_ | refine drawStep ?_
        refine ⟨by kernel_rfl, ?_⟩
        repeat' first | refine opsStep ?_ | refine codeStep ?_ | refine decB_split (fun h => ?_) (fun h => ?_)
      all_goals exact finB rfl (by first | (simp_all [goodF, FT.op, FT.name, FT.md, FT.terms, FT.args]; done) | (clear hr; simp only [goodF, FT.op, FT.name, FT.md, FT.terms, FT.args]; by_cases q1 : name = [] <;> by_cases q2 : md = 0 <;> by_cases q3 : 1 ≤ md <;> by_cases q4 : nameS name = true <;> by_cases q5 : terms = [] <;> by_cases q6 : args = [] <;> simp_all <;> first | rfl | omega | exact decide_eq_false (by omega) | (intro hh; exact absurd (of_decide_eq_true hh) (by omega))))
  · skip
    have hg : goodF ⟨op, name, md, tk, terms, ak, args⟩ = false := by
      show (if op = 0 ∨ op = 1 then decide (name = []) && decide (md = 0) && decide (terms.length = 0) && decide (args.length = 0)
        else if op = 2 then decide (name = []) && decide (md = 0) && decide (terms.length = 0) && decide (args.length = 1)
        else if 3 ≤ op ∧ op ≤ 6 then decide (name = []) && decide (md = 0) && decide (terms.length = 0) && decide (args.length = 2)
        else if op = 7 ∨ op = 8 then nameS name && decide (md = 0) && decide (terms.length = 0) && decide (args.length = 1)
        else if 9 ≤ op ∧ op ≤ 14 then decide (name = []) && decide (md = 0) && decide (terms.length = 2) && decide (args.length = 0)
        else if op = 15 then decide (name = []) && decide (1 ≤ md) && decide (terms.length = 2) && decide (args.length = 0)
        else false) = false
      rw [if_neg (by omega), if_neg (by omega), if_neg (by omega), if_neg (by omega), if_neg (by omega), if_neg (by omega)]
    rw [hg]
    refine Pure.of_sw 132 Tryd.func102 rfl Tryd.ntmps102 (by kernel_rfl) (Nat.le_of_ble_eq_true (by kernel_rfl)) (by simp only [closeds]; exact ⟨fC5_closed op name md tk terms ak args, trivial⟩) (by simp only [AV.closed]) ?_
    refine SW.of_vc ?_
    repeat' first | refine opsStep ?_ | refine codeStep ?_ | refine decB_split (fun h => ?_) (fun h => ?_)
    all_goals
      refine SW.drawn rfl (by kernel_rfl) ?_
      repeat first | refine opsStep ?_ | refine codeStep ?_ | refine drawStep ?_
      refine ⟨by kernel_rfl, ?_⟩
      repeat' first | refine opsStep ?_ | refine codeStep ?_ | refine decB_split (fun h => ?_) (fun h => ?_)
    all_goals first
      | exact finB (b' := false) rfl rfl
      | (exfalso; simp_all <;> omega)

end Tab

/- The walk over a formula. -/
namespace Tab
open Go Go.Proofs
set_option maxRecDepth 10000
set_option linter.unusedVariables false
set_option linter.unusedSimpArgs false
set_option linter.unusedSectionVars false
set_option maxHeartbeats 1000000

mutual
theorem FT.walk_dep : ∀ (t : FT) (d : Nat) (m : Ms), (t.walk d m).err = 0 → m.depth ≤ 100 → (t.walk d m).depth ≤ 100
  | .mk op name md tk terms ak args, d, m, h, hm => by
    rw [FT.walk] at h ⊢
    by_cases hn : (nodeM m d (goodF (.mk op name md tk terms ak args))).err ≠ 0
    · rw [if_pos hn] at h; exact absurd h hn
    · rw [if_neg hn] at h ⊢
      obtain ⟨_, _, n3, _, _⟩ := nodeM_ok (Decidable.of_not_not hn)
      by_cases ht : (ttsWalk terms (d + 1) (nodeM m d (goodF (.mk op name md tk terms ak args)))).err ≠ 0
      · rw [if_pos ht] at h; exact absurd h ht
      · rw [if_neg ht] at h ⊢
        exact ftsWalk_dep args _ _ h (ttsWalk_dep terms _ _ (Decidable.of_not_not ht) (by simp only [nodeM]; omega))
theorem ftsWalk_dep : ∀ (l : List FT) (d : Nat) (m : Ms), (ftsWalk l d m).err = 0 → m.depth ≤ 100 → (ftsWalk l d m).depth ≤ 100
  | [], d, m, h, hm => by simpa [ftsWalk] using hm
  | t :: l, d, m, h, hm => by
    rw [ftsWalk] at h ⊢
    by_cases hn : (t.walk d m).err ≠ 0
    · rw [if_pos hn] at h; exact absurd h hn
    · rw [if_neg hn] at h ⊢
      exact ftsWalk_dep l d _ h (FT.walk_dep t d m (Decidable.of_not_not hn) hm)
end
theorem FT.walk_ok {t : FT} {d : Nat} {m : Ms} (h : MsOk m d) (he : (t.walk d m).err = 0) : MsOk (t.walk d m) d :=
  ⟨(FT.walk_right t d m he).2.2, FT.walk_dep t d m he h.dep, h.d⟩
theorem fts_nodes : ∀ {l : List FT} {i : Nat} (h : i < l.length), (l[i]'h).nodes ≤ ftsNodes l
  | t :: l, 0, h => by rw [ftsNodes]; show t.nodes ≤ _; omega
  | t :: l, i + 1, h => by rw [ftsNodes]; have := fts_nodes (l := l) (i := i) (by simpa using h); show (l[i]'_).nodes ≤ _; omega
theorem ftsWalk_drop {l : List FT} {i : Nat} (h : i < l.length) (d : Nat) (m : Ms) : ftsWalk (l.drop i) d m = if ((l[i]'h).walk d m).err ≠ 0 then (l[i]'h).walk d m else ftsWalk (l.drop (i + 1)) d ((l[i]'h).walk d m) := by
  rw [List.drop_eq_getElem_cons h, ftsWalk]
theorem over5 {l : List AV} (h : l.length = 5) (a b c d e : AV) : over [a, b, c, d, e] 0 l = l := by
  rw [over, h]; simp

theorem walk_formula : ∀ (n : Nat) (f : FT), f.nodes ≤ n → f.ok → ∀ (m : Ms) (d : Nat), MsOk m d → m.err = 0 → ACall Tryd.prog 73 [wF, .agg f.cells, .int .i64 d] (mH m) fun o H' => o = .ret (.bool (decide ((f.walk d m).err = 0))) ∧ H' = mH (f.walk d m) := by
  intro n
  induction n with
  | zero => intro t h; rcases t with ⟨op, name, md, tk, terms, ak, args⟩; rw [FT.nodes] at h; omega
  | succ n ih =>
    intro f hnodes hok m d hm he
    have hgood := tree_formula f (by cases f; rw [FT.ok] at hok; have := hok.2.1; show List.length _ < _; simp only [FT.name]; omega)
    rw [FT.cells_eq] at hgood ⊢
    rcases f with ⟨op, name, md, tk, terms, ak, args⟩
    have hwk : FT.walk ⟨op, name, md, tk, terms, ak, args⟩ d m = if (nodeM m d (goodF ⟨op, name, md, tk, terms, ak, args⟩)).err ≠ 0 then nodeM m d (goodF ⟨op, name, md, tk, terms, ak, args⟩) else if (ttsWalk terms (d + 1) (nodeM m d (goodF ⟨op, name, md, tk, terms, ak, args⟩))).err ≠ 0 then ttsWalk terms (d + 1) (nodeM m d (goodF ⟨op, name, md, tk, terms, ak, args⟩)) else ftsWalk args (d + 1) (ttsWalk terms (d + 1) (nodeM m d (goodF ⟨op, name, md, tk, terms, ak, args⟩))) := by rw [FT.walk]
    rw [FT.ok] at hok
    rw [FT.nodes] at hnodes
    generalize goodF ⟨op, name, md, tk, terms, ak, args⟩ = g at *
    generalize FT.walk ⟨op, name, md, tk, terms, ak, args⟩ d m = w at *
    simp only [FT.op, FT.name, FT.md, FT.tk, FT.terms, FT.ak, FT.args] at hgood ⊢
    have htl := hok.2.2.2.1
    have hto := hok.2.2.2.2.1
    have hal := hok.2.2.2.2.2.1
    have hao := hok.2.2.2.2.2.2
    have hd := hm.d
    have hdi : IntKind.wrap .i64 ((d : Int) + 1) = ((d + 1 : Nat) : Int) := by rw [IntWalk.i64_in _ (by omega)]; simp
    have hFB : bels 3 (fC5 op name md tk terms ak args) := by simp only [bels, AV.bel]; exact ⟨trivial, trivial, trivial, closeds_bel _ (ttsC_closed _), closeds_bel _ (ftsC_closed _), trivial⟩
    refine ACall.of_sw 45 Tryd.func73 rfl Tryd.ntmps73 (by kernel_rfl) (Nat.le_of_ble_eq_true (by kernel_rfl)) ?_; refine SW.of_vc ?_
    repeat first | refine opsStep ?_ | refine codeStep ?_ | refine drawStep ?_
    refine callP hgood ?_
    repeat first | refine opsStep ?_ | refine codeStep ?_ | refine drawStep ?_
    refine callT (args := [.int .i64 d, .bool g, .ref 1 0 0]) (met1 m d g hm he) [.cells 0 (fC5 op name md tk terms ak args)] rfl rfl (by simp [bels, AV.bel]) (mH_bel m) (mH_bel _) (by simp [AV.bel]) ?_
    repeat first | refine opsStep ?_ | refine codeStep ?_ | refine drawStep ?_
    refine decB_split (fun h => ?_) (fun h => ?_)
    · have hne : (nodeM m d g).err ≠ 0 := by simpa using h
      rw [if_pos hne] at hwk
      repeat first | refine opsStep ?_ | refine codeStep ?_ | refine drawStep ?_
      refine finR (l := [(6, .bool false)]) (v := .bool false) (H₁ := mH (nodeM m d g) ++ [.cells 0 (fC5 op name md tk terms ak args)]) ⟨(by kernel_rfl), trivial⟩ (by kernel_rfl) (Ent.frD (l := [(6, .bool false)]) ⟨(by kernel_rfl), trivial⟩ rfl (Nat.le_refl 2) (by simp [frBel, AV.bel]) (mH_bel _)) (by kernel_rfl) ⟨by rw [hwk, decide_eq_false hne], by rw [hwk]⟩
    · have hne : (nodeM m d g).err = 0 := by simpa using h
      rw [if_neg (by simp [hne])] at hwk
      have hm1 := nodeM_bd hm hne
      clear h
      repeat first | refine opsStep ?_ | refine codeStep ?_ | refine drawStep ?_
      refine loopE_of (ι := {x : Nat × Ms // x.1 ≤ terms.length ∧ ttsWalk terms (d + 1) (nodeM m d g) = ttsWalk (terms.drop x.1) (d + 1) x.2 ∧ MsOk x.2 (d + 1) ∧ x.2.err = 0}) (fun x => (fr [(0, wF), (2, .int .i64 d), (4, .ref 2 0 0), (18, .sl tk terms.length (ttsC terms)), (19, .int .i64 terms.length), (20, .int .i64 x.1.1)], mH x.1.2 ++ [.cells 0 (fC5 op name md tk terms ak args)])) (fun x => terms.length - x.1.1)
        ⟨(0, nodeM m d g), Nat.zero_le _, rfl, hm1, hne⟩ (Ent.fr' ⟨(by kernel_rfl), (by kernel_rfl), (by kernel_rfl), (by kernel_rfl), (by kernel_rfl), (by kernel_rfl), trivial⟩ (by kernel_rfl)) ?_
      rintro ⟨⟨i, mi⟩, h1, h2, h3, h4⟩
      simp only at h1 h2 h3 h4
      repeat first | refine opsStep ?_ | refine codeStep ?_ | refine drawStep ?_
      refine decB_dec (fun hlt => ?_) (fun hlt => ?_)
      · have hi : i < terms.length := by have : (i : Int) < terms.length := hlt; omega
        clear hlt
        have hld : ((ttsC terms).drop ((i : Int).toNat * 4)).take 4 = (terms[i]'hi).cells := by rw [Int.toNat_natCast]; exact ttsC_at hi
        have hfit : 4 ≤ ((ttsC terms).drop ((i : Int).toNat * 4)).length := by rw [List.length_drop, ttsC_len, Int.toNat_natCast]; omega
        have hrec := walk_term _ (terms[i]'hi) (Nat.le_refl _) (ttsOk_iff.1 hto _ (List.getElem_mem hi)) mi (d + 1) h3 h4
        have hstep := ttsWalk_drop hi (d + 1) mi
        rw [← h2] at hstep
        have hao' := @TT.walk_ok (terms[i]'hi) (d + 1) mi h3
        have haC := TT.cells_len (terms[i]'hi)
        have haB : bels 2 (terms[i]'hi).cells := closeds_bel _ (TT.cells_closed (terms[i]'hi))
        rw [← hdi] at hrec
        generalize terms[i]'hi = a at *
        generalize TT.walk a (d + 1) mi = wi at *
        repeat first | refine opsStep ?_ | refine codeStep ?_ | refine drawStep ?_
        refine guardE_of ⟨by omega, by show (i : Int) < terms.length; omega⟩ ?_
        repeat first | refine opsStep ?_ | refine codeStep ?_ | refine drawStep ?_
        refine guardE_of hfit ?_
        repeat first | refine opsStep ?_ | refine codeStep ?_ | refine drawStep ?_
        refine guardE_of ⟨by show (((ttsC terms).drop ((i : Int).toNat * 4)).take 4).length = 4; rw [hld]; exact haC, by decide, by decide⟩ ?_
        iterate 1 refine opsStep ?_
        refine VCode.ent (Ent.fr' (l := [(0, wF), (2, .int .i64 d), (4, .ref 2 0 0), (8, .ref 3 0 0), (18, .sl tk terms.length (ttsC terms)), (19, .int .i64 terms.length), (20, .int .i64 i)]) (H' := mH mi ++ [.cells 0 (fC5 op name md tk terms ak args), .cells 0 a.cells]) ⟨(by kernel_rfl), (by kernel_rfl), (by kernel_rfl), (by kernel_rfl), (by kernel_rfl), (by kernel_rfl), (by kernel_rfl), trivial⟩ (Eq.trans (b := mH mi ++ [.cells 0 (fC5 op name md tk terms ak args), .cells 0 (over [.int .i64 0, .int .i64 0, .str [], .sl .nil 0 []] 0 (((ttsC terms).drop ((i : Int).toNat * 4)).take 4))]) (by kernel_rfl) (by rw [hld, over4 haC]))) ?_
        repeat first | refine opsStep ?_ | refine codeStep ?_ | refine drawStep ?_
        refine guardE_of (by show 0 + 4 ≤ a.cells.length; omega) ?_
        repeat first | refine opsStep ?_ | refine codeStep ?_ | refine drawStep ?_
        have hcl : (a.cells.drop 0).take 4 = a.cells := by rw [List.drop_zero, List.take_of_length_le (by omega)]
        have hrec' : ACall Tryd.prog 55 [wF, .agg ((a.cells.drop 0).take 4), .int .i64 (IntKind.wrap .i64 ((d : Int) + 1))] (mH mi) fun o H' => o = .ret (.bool (decide (wi.err = 0))) ∧ H' = mH wi := by rw [hcl]; exact hrec
        refine callT (args := [wF, .agg ((a.cells.drop 0).take 4), .int .i64 (IntKind.wrap .i64 ((d : Int) + 1))]) hrec' [.cells 0 (fC5 op name md tk terms ak args), .cells 0 a.cells] rfl rfl (by rw [hcl]; simp only [bels, AV.bel, wF]; exact ⟨⟨trivial, by show 1 < 2; decide, trivial⟩, haB, trivial, trivial⟩) (mH_bel mi) (mH_bel _) (by simp [AV.bel]) ?_
        repeat first | refine opsStep ?_ | refine codeStep ?_ | refine drawStep ?_
        refine decB_split (fun hb => ?_) (fun hb => ?_)
        · have hne2 : wi.err ≠ 0 := by simpa using hb
          rw [if_pos hne2] at hstep
          have hw : w = wi := by rw [hwk, hstep, if_pos hne2]
          repeat first | refine opsStep ?_ | refine codeStep ?_ | refine drawStep ?_
          refine finR (l := [(6, .bool false)]) (v := .bool false) (H₁ := mH wi ++ [.cells 0 (fC5 op name md tk terms ak args), .cells 0 a.cells]) ⟨(by kernel_rfl), trivial⟩ (by kernel_rfl) (Ent.frD (l := [(6, .bool false)]) ⟨(by kernel_rfl), trivial⟩ rfl (Nat.le_refl 2) (by simp [frBel, AV.bel]) (mH_bel _)) (by kernel_rfl) ⟨by rw [hw, decide_eq_false hne2], by rw [hw]⟩
        · have hne2 : wi.err = 0 := by simpa using hb
          rw [if_neg (by simp [hne2])] at hstep
          clear hb
          repeat first | refine opsStep ?_ | refine codeStep ?_ | refine drawStep ?_
          exact ⟨⟨(i + 1, wi), hi, hstep, hao' hne2, hne2⟩, (by show terms.length - (i + 1) < terms.length - i; omega), Ent.frD (X := [.cells 0 a.cells]) ⟨(by kernel_rfl), (by kernel_rfl), (by kernel_rfl), (by kernel_rfl), (by kernel_rfl), inc_slot (i := i) (by omega), trivial⟩ (by kernel_rfl) (Nat.le_succ 2) (by simp only [frBel, AV.bel, wF, bels]; exact ⟨⟨trivial, by show 1 < 3; decide, trivial⟩, trivial, by show 2 < 3; decide, closeds_bel _ (ttsC_closed _), trivial, trivial, trivial⟩) (by simp only [mH, List.cons_append, List.nil_append, blksBel, Blk.bel]; exact ⟨msC_bel _ _, by simp [bels, AV.bel], hFB, trivial⟩)⟩
      · have hi : i = terms.length := by have : ¬ (i : Int) < terms.length := hlt; omega
        clear hlt
        subst hi
        rw [List.drop_length, ttsWalk] at h2
        rw [h2, if_neg (by simp [h4])] at hwk
        clear h2
        repeat first | refine opsStep ?_ | refine codeStep ?_ | refine drawStep ?_
        refine loopE_of (ι := {x : Nat × Ms // x.1 ≤ args.length ∧ w = ftsWalk (args.drop x.1) (d + 1) x.2 ∧ MsOk x.2 (d + 1) ∧ x.2.err = 0}) (fun x => (fr [(0, wF), (2, .int .i64 d), (32, .sl ak args.length (ftsC args)), (33, .int .i64 args.length), (34, .int .i64 x.1.1)], mH x.1.2)) (fun x => args.length - x.1.1)
          ⟨(0, mi), Nat.zero_le _, hwk, h3, h4⟩ (Ent.frD (X := [.cells 0 (fC5 op name md tk terms ak args)]) ⟨(by kernel_rfl), (by kernel_rfl), (by kernel_rfl), (by kernel_rfl), (by kernel_rfl), trivial⟩ (by kernel_rfl) (Nat.le_refl 2) (by simp only [frBel, AV.bel, wF, bels]; exact ⟨⟨trivial, by show 1 < 2; decide, trivial⟩, trivial, closeds_bel _ (ftsC_closed _), trivial, trivial, trivial⟩) (mH_bel _)) ?_
        rintro ⟨⟨i, mi⟩, h1, h2, h3, h4⟩
        simp only at h1 h2 h3 h4
        repeat first | refine opsStep ?_ | refine codeStep ?_ | refine drawStep ?_
        refine decB_dec (fun hlt => ?_) (fun hlt => ?_)
        · have hi : i < args.length := by have : (i : Int) < args.length := hlt; omega
          clear hlt
          have hld : ((ftsC args).drop ((i : Int).toNat * 5)).take 5 = (args[i]'hi).cells := by rw [Int.toNat_natCast]; exact ftsC_at hi
          have hfit : 5 ≤ ((ftsC args).drop ((i : Int).toNat * 5)).length := by rw [List.length_drop, ftsC_len, Int.toNat_natCast]; omega
          have hrec := ih (args[i]'hi) (by have := fts_nodes hi; omega) (ftsOk_iff.1 hao _ (List.getElem_mem hi)) mi (d + 1) h3 h4
          have hstep := ftsWalk_drop hi (d + 1) mi
          rw [← h2] at hstep
          have hao' := @FT.walk_ok (args[i]'hi) (d + 1) mi h3
          have haC := FT.cells_len (args[i]'hi)
          have haB : bels 2 (args[i]'hi).cells := closeds_bel _ (FT.cells_closed (args[i]'hi))
          rw [← hdi] at hrec
          generalize args[i]'hi = a at *
          generalize FT.walk a (d + 1) mi = wi at *
          repeat first | refine opsStep ?_ | refine codeStep ?_ | refine drawStep ?_
          refine guardE_of ⟨by omega, by show (i : Int) < args.length; omega⟩ ?_
          repeat first | refine opsStep ?_ | refine codeStep ?_ | refine drawStep ?_
          refine guardE_of hfit ?_
          repeat first | refine opsStep ?_ | refine codeStep ?_ | refine drawStep ?_
          refine guardE_of ⟨by show (((ftsC args).drop ((i : Int).toNat * 5)).take 5).length = 5; rw [hld]; exact haC, by decide, by decide⟩ ?_
          iterate 1 refine opsStep ?_
          refine VCode.ent (Ent.fr' (l := [(0, wF), (2, .int .i64 d), (10, .ref 2 0 0), (32, .sl ak args.length (ftsC args)), (33, .int .i64 args.length), (34, .int .i64 i)]) (H' := mH mi ++ [.cells 0 a.cells]) ⟨(by kernel_rfl), (by kernel_rfl), (by kernel_rfl), (by kernel_rfl), (by kernel_rfl), (by kernel_rfl), trivial⟩ (Eq.trans (b := mH mi ++ [.cells 0 (over [.int .i64 0, .str [], .int .i64 0, .sl .nil 0 [], .sl .nil 0 []] 0 (((ftsC args).drop ((i : Int).toNat * 5)).take 5))]) (by kernel_rfl) (by rw [hld, over5 haC]))) ?_
          repeat first | refine opsStep ?_ | refine codeStep ?_ | refine drawStep ?_
          refine guardE_of (by show 0 + 5 ≤ a.cells.length; omega) ?_
          repeat first | refine opsStep ?_ | refine codeStep ?_ | refine drawStep ?_
          have hcl : (a.cells.drop 0).take 5 = a.cells := by rw [List.drop_zero, List.take_of_length_le (by omega)]
          have hrec' : ACall Tryd.prog 73 [wF, .agg ((a.cells.drop 0).take 5), .int .i64 (IntKind.wrap .i64 ((d : Int) + 1))] (mH mi) fun o H' => o = .ret (.bool (decide (wi.err = 0))) ∧ H' = mH wi := by rw [hcl]; exact hrec
          refine callT (args := [wF, .agg ((a.cells.drop 0).take 5), .int .i64 (IntKind.wrap .i64 ((d : Int) + 1))]) hrec' [.cells 0 a.cells] rfl rfl (by rw [hcl]; simp only [bels, AV.bel, wF]; exact ⟨⟨trivial, by show 1 < 2; decide, trivial⟩, haB, trivial, trivial⟩) (mH_bel mi) (mH_bel _) (by simp [AV.bel]) ?_
          repeat first | refine opsStep ?_ | refine codeStep ?_ | refine drawStep ?_
          refine decB_split (fun hb => ?_) (fun hb => ?_)
          · have hne2 : wi.err ≠ 0 := by simpa using hb
            rw [if_pos hne2] at hstep
            repeat first | refine opsStep ?_ | refine codeStep ?_ | refine drawStep ?_
            refine finR (l := [(6, .bool false)]) (v := .bool false) (H₁ := mH wi ++ [.cells 0 a.cells]) ⟨(by kernel_rfl), trivial⟩ (by kernel_rfl) (Ent.frD (l := [(6, .bool false)]) ⟨(by kernel_rfl), trivial⟩ rfl (Nat.le_refl 2) (by simp [frBel, AV.bel]) (mH_bel _)) (by kernel_rfl) ⟨by rw [hstep, decide_eq_false hne2], by rw [hstep]⟩
          · have hne2 : wi.err = 0 := by simpa using hb
            rw [if_neg (by simp [hne2])] at hstep
            clear hb
            repeat first | refine opsStep ?_ | refine codeStep ?_ | refine drawStep ?_
            exact ⟨⟨(i + 1, wi), hi, hstep, hao' hne2, hne2⟩, (by show args.length - (i + 1) < args.length - i; omega), Ent.frD (X := [.cells 0 a.cells]) ⟨(by kernel_rfl), (by kernel_rfl), (by kernel_rfl), (by kernel_rfl), inc_slot (i := i) (by omega), trivial⟩ (by kernel_rfl) (Nat.le_refl 2) (by simp only [frBel, AV.bel, wF, bels]; exact ⟨⟨trivial, by show 1 < 2; decide, trivial⟩, trivial, closeds_bel _ (ftsC_closed _), trivial, trivial, trivial⟩) (mH_bel _)⟩
        · have hi : i = args.length := by have : ¬ (i : Int) < args.length := hlt; omega
          clear hlt
          subst hi
          rw [List.drop_length, ftsWalk] at h2
          subst h2
          repeat first | refine opsStep ?_ | refine codeStep ?_ | refine drawStep ?_
          exact finR (l := [(6, .bool true)]) (v := .bool true) (H₁ := mH w) ⟨(by kernel_rfl), trivial⟩ (by kernel_rfl) (Ent.refl _ _ _) (by kernel_rfl) ⟨by rw [decide_eq_true h4], rfl⟩

end Tab

/- Trees are measured. -/
namespace Tab
open Go Go.Proofs
set_option maxRecDepth 10000
set_option linter.unusedVariables false
set_option linter.unusedSimpArgs false
set_option linter.unusedSectionVars false
set_option maxHeartbeats 1000000

theorem met (b : Nat) (H : List Blk) : ACall Tryd.prog 54 [.ref b 0 0] H fun o H' => o = .ret (.fn (.func 81) [] [.ref H.length 0 0]) ∧ H' = H ++ [.cells 0 [.ref b 0 0]] := by
  refine ACall.of_sw 4 Tryd.func54 rfl Tryd.ntmps54 (by kernel_rfl) (Nat.le_of_ble_eq_true (by kernel_rfl)) ?_; refine SW.of_vc ?_
  repeat first | refine opsStep ?_ | refine codeStep ?_ | refine drawStep ?_
  exact finR (l := [(2, .fn (.func 81) [] [.ref H.length 0 0])]) (H₁ := H ++ [.cells 0 [.ref b 0 0]]) ⟨(by kernel_rfl), trivial⟩ (by kernel_rfl) (Ent.refl _ _ _) (by kernel_rfl) ⟨rfl, rfl⟩

theorem down_of {ops : List Oper} {D : Nat → Bool} (h : Down ops D) {j i : Nat} {o : Oper} {e : Edge} (hj : ops[j]? = some o) (he : e ∈ o.after) (hb : Region.binds .any e = true) (hi : e.on = i) (hD : D i = false) : D j = false := by
  cases hd : D j with
  | false => rfl
  | true => have := h j o e hd hj he hb; rw [hi, hD] at this; cases this
theorem addD_self (D : Nat → Bool) (i : Nat) : addD D i i = true := by simp [addD]
theorem addD_ne (D : Nat → Bool) {i j : Nat} (h : j ≠ i) : addD D i j = D j := by simp [addD, h]

def c1S (x : List AV) (b0 b1 : Bool) : Slots := fr [(1, .ref 0 0 0), (3, .ref 1 0 0), (5, cond b0 (.fn (.func 81) [] [.ref 2 0 0]) .junk), (6, cond b1 (.agg x) .junk)]
def c1H (x : List AV) (m : Ms) (b0 b2 : Bool) : List Blk := cond b2 [.cells 0 x, .cells 0 (msC m), .cells 0 [.ref 1 0 0]] (cond b0 [.cells 0 x, .cells 0 (msC ms0), .cells 0 [.ref 1 0 0]] [.cells 0 x, .cells 0 (msC ms0)])
theorem tree_CheckTerm (t : TT) (hok : t.ok) : Pure Tryd.prog 35 [.agg t.cells] (.int .i64 (chkT t)) := by
  have hw := walk_term _ t (Nat.le_refl _) hok ms0 1 ⟨by decide, by decide, by decide⟩ rfl
  have hxl := TT.cells_len t
  have hxc := TT.cells_closed t
  rw [chkT]
  generalize TT.walk t 1 ms0 = m at *
  generalize t.cells = x at *
  refine Pure.of_sw 10 Tryd.func35 rfl Tryd.ntmps35 (by kernel_rfl) (Nat.le_of_ble_eq_true (by kernel_rfl)) (by simp only [closeds, AV.closed]; exact ⟨hxc, trivial⟩) (by simp only [AV.closed]) ?_
  refine SW.of_vc ?_
  repeat first | refine opsStep ?_ | refine codeStep ?_ | refine drawStep ?_
  refine SW.anyO (ι := Unit) (fun _ => True) (fun D _ => (c1S x (D 0) (D 1), c1H x m (D 0) (D 2))) rfl (by kernel_rfl) (by kernel_rfl) (by kernel_rfl) ?_ ?_ ?_
  · intro D hD
    refine ⟨trivial, (), ?_⟩
    simp only [hD 0 (by decide), hD 1 (by decide), hD 2 (by decide)]
    exact Ent.fr' ⟨(by kernel_rfl), (by kernel_rfl), (by kernel_rfl), (by kernel_rfl), trivial⟩ (by kernel_rfl)
  · intro D _ i o _ hdn ho hDi hrdy
    match i, ho with
    | 0, ho =>
      cases ho
      have h2 : D 2 = false := down_of hdn (j := 2) (e := ⟨0, .data⟩) rfl (by simp) rfl rfl hDi
      show vcRun Tryd.prog _ (c1S x (D 0) (D 1)) (c1H x m (D 0) (D 2)) _ (fun s H => True ∧ ∃ y : Unit, Ent _ s H (c1S x (addD D 0 0) (addD D 0 1)) (c1H x m (addD D 0 0) (addD D 0 2)))
      rw [addD_self, addD_ne D (by decide), addD_ne D (by decide), hDi, h2]
      refine ⟨_, met 1 [.cells 0 x, .cells 0 (msC ms0)], ?_⟩
      rintro _ _ ⟨rfl, rfl⟩
      exact ⟨trivial, (), Ent.fr' ⟨(by kernel_rfl), (by kernel_rfl), (by kernel_rfl), (by kernel_rfl), trivial⟩ (by kernel_rfl)⟩
    | 1, ho =>
      cases ho
      have h2 : D 2 = false := down_of hdn (j := 2) (e := ⟨1, .data⟩) rfl (by simp) rfl rfl hDi
      show vcRun Tryd.prog _ (c1S x (D 0) (D 1)) (c1H x m (D 0) (D 2)) _ (fun s H => True ∧ ∃ y : Unit, Ent _ s H (c1S x (addD D 1 0) (addD D 1 1)) (c1H x m (addD D 1 0) (addD D 1 2)))
      rw [addD_self, addD_ne D (by decide), addD_ne D (by decide), hDi, h2]
      have hcl : (x.drop 0).take 4 = x := by rw [List.drop_zero, List.take_of_length_le (by omega)]
      cases D 0 with
      | true =>
        refine guardE_of (by show 0 + 4 ≤ x.length; omega) ?_
        exact ⟨trivial, (), Ent.fr' ⟨(by kernel_rfl), (by kernel_rfl), (by kernel_rfl), Eq.trans (b := .agg ((x.drop 0).take 4)) (by kernel_rfl) (by rw [hcl]; rfl), trivial⟩ (by kernel_rfl)⟩
      | false =>
        refine guardE_of (by show 0 + 4 ≤ x.length; omega) ?_
        exact ⟨trivial, (), Ent.fr' ⟨(by kernel_rfl), (by kernel_rfl), (by kernel_rfl), Eq.trans (b := .agg ((x.drop 0).take 4)) (by kernel_rfl) (by rw [hcl]; rfl), trivial⟩ (by kernel_rfl)⟩
    | 2, ho =>
      cases ho
      have h0 : D 0 = true := hrdy ⟨0, .data⟩ (by simp) rfl
      have h1 : D 1 = true := hrdy ⟨1, .data⟩ (by simp) rfl
      show vcRun Tryd.prog _ (c1S x (D 0) (D 1)) (c1H x m (D 0) (D 2)) _ (fun s H => True ∧ ∃ y : Unit, Ent _ s H (c1S x (addD D 2 0) (addD D 2 1)) (c1H x m (addD D 2 0) (addD D 2 2)))
      rw [addD_self, addD_ne D (by decide), addD_ne D (by decide), hDi, h0, h1]
      refine callF [1, 2] hw (by decide) (by intro b hb; simp at hb; show b < 3; omega) rfl ?_ ?_ ?_ ?_ ?_
      · rfl
      · simp only [bels, AV.bel, wF]; exact ⟨⟨trivial, by show 1 < 2; decide, trivial⟩, closeds_bel _ hxc, trivial, trivial⟩
      · exact mH_bel _
      · simp only [rns, AV.rn, wF, closeds_rn _ hxc]
        rfl
      · rintro _ _ ⟨rfl, rfl⟩
        exact ⟨trivial, (), Ent.fr' ⟨(by kernel_rfl), (by kernel_rfl), (by kernel_rfl), (by kernel_rfl), trivial⟩ (by kernel_rfl)⟩
  · intro D _ _ hD
    show VCode _ _ _ _ _ _
    simp only [hD 0 (by decide), hD 1 (by decide), hD 2 (by decide)]
    repeat first | refine opsStep ?_ | refine codeStep ?_ | refine drawStep ?_
    exact finV (v' := .int .i64 m.err) (by kernel_rfl) rfl

def c2S (x : List AV) (b0 b1 : Bool) : Slots := fr [(1, .ref 0 0 0), (2, .ref 1 0 0), (3, .ref 2 0 0), (5, cond b0 (.fn (.func 81) [] [.ref 3 0 0]) .junk), (6, cond b1 (.agg x) .junk)]
def c2H (x : List AV) (m : Ms) (b0 b2 : Bool) : List Blk := cond b2 [.cells 0 x, .cells 0 (msC ms0), .cells 0 (msC m), .cells 0 [.ref 2 0 0]] (cond b0 [.cells 0 x, .cells 0 (msC ms0), .cells 0 (msC ms0), .cells 0 [.ref 2 0 0]] [.cells 0 x, .cells 0 (msC ms0), .cells 0 (msC ms0)])
theorem tree_measured (t : FT) (hok : t.ok) : Pure Tryd.prog 47 [.agg t.cells] (.agg (msC (t.walk 1 ms0))) := by
  have hw := walk_formula _ t (Nat.le_refl _) hok ms0 1 ⟨by decide, by decide, by decide⟩ rfl
  have hxl := FT.cells_len t
  have hxc := FT.cells_closed t
  generalize FT.walk t 1 ms0 = m at *
  generalize t.cells = x at *
  refine Pure.of_sw 9 Tryd.func47 rfl Tryd.ntmps47 (by kernel_rfl) (Nat.le_of_ble_eq_true (by kernel_rfl)) (by simp only [closeds, AV.closed]; exact ⟨hxc, trivial⟩) (by simp only [AV.closed]; exact msC_closed _) ?_
  refine SW.of_vc ?_
  repeat first | refine opsStep ?_ | refine codeStep ?_ | refine drawStep ?_
  refine SW.anyO (ι := Unit) (fun _ => True) (fun D _ => (c2S x (D 0) (D 1), c2H x m (D 0) (D 2))) rfl (by kernel_rfl) (by kernel_rfl) (by kernel_rfl) ?_ ?_ ?_
  · intro D hD
    refine ⟨trivial, (), ?_⟩
    simp only [hD 0 (by decide), hD 1 (by decide), hD 2 (by decide)]
    exact Ent.fr' ⟨(by kernel_rfl), (by kernel_rfl), (by kernel_rfl), (by kernel_rfl), (by kernel_rfl), trivial⟩ (by kernel_rfl)
  · intro D _ i o _ hdn ho hDi hrdy
    match i, ho with
    | 0, ho =>
      cases ho
      have h2 : D 2 = false := down_of hdn (j := 2) (e := ⟨0, .data⟩) rfl (by simp) rfl rfl hDi
      show vcRun Tryd.prog _ (c2S x (D 0) (D 1)) (c2H x m (D 0) (D 2)) _ (fun s H => True ∧ ∃ y : Unit, Ent _ s H (c2S x (addD D 0 0) (addD D 0 1)) (c2H x m (addD D 0 0) (addD D 0 2)))
      rw [addD_self, addD_ne D (by decide), addD_ne D (by decide), hDi, h2]
      refine ⟨_, met 2 [.cells 0 x, .cells 0 (msC ms0), .cells 0 (msC ms0)], ?_⟩
      rintro _ _ ⟨rfl, rfl⟩
      exact ⟨trivial, (), Ent.fr' ⟨(by kernel_rfl), (by kernel_rfl), (by kernel_rfl), (by kernel_rfl), (by kernel_rfl), trivial⟩ (by kernel_rfl)⟩
    | 1, ho =>
      cases ho
      have h2 : D 2 = false := down_of hdn (j := 2) (e := ⟨1, .data⟩) rfl (by simp) rfl rfl hDi
      show vcRun Tryd.prog _ (c2S x (D 0) (D 1)) (c2H x m (D 0) (D 2)) _ (fun s H => True ∧ ∃ y : Unit, Ent _ s H (c2S x (addD D 1 0) (addD D 1 1)) (c2H x m (addD D 1 0) (addD D 1 2)))
      rw [addD_self, addD_ne D (by decide), addD_ne D (by decide), hDi, h2]
      have hcl : (x.drop 0).take 5 = x := by rw [List.drop_zero, List.take_of_length_le (by omega)]
      cases D 0 with
      | true =>
        refine guardE_of (by show 0 + 5 ≤ x.length; omega) ?_
        exact ⟨trivial, (), Ent.fr' ⟨(by kernel_rfl), (by kernel_rfl), (by kernel_rfl), (by kernel_rfl), Eq.trans (b := .agg ((x.drop 0).take 5)) (by kernel_rfl) (by rw [hcl]; rfl), trivial⟩ (by kernel_rfl)⟩
      | false =>
        refine guardE_of (by show 0 + 5 ≤ x.length; omega) ?_
        exact ⟨trivial, (), Ent.fr' ⟨(by kernel_rfl), (by kernel_rfl), (by kernel_rfl), (by kernel_rfl), Eq.trans (b := .agg ((x.drop 0).take 5)) (by kernel_rfl) (by rw [hcl]; rfl), trivial⟩ (by kernel_rfl)⟩
    | 2, ho =>
      cases ho
      have h0 : D 0 = true := hrdy ⟨0, .data⟩ (by simp) rfl
      have h1 : D 1 = true := hrdy ⟨1, .data⟩ (by simp) rfl
      show vcRun Tryd.prog _ (c2S x (D 0) (D 1)) (c2H x m (D 0) (D 2)) _ (fun s H => True ∧ ∃ y : Unit, Ent _ s H (c2S x (addD D 2 0) (addD D 2 1)) (c2H x m (addD D 2 0) (addD D 2 2)))
      rw [addD_self, addD_ne D (by decide), addD_ne D (by decide), hDi, h0, h1]
      refine callF [2, 3] hw (by decide) (by intro b hb; simp at hb; show b < 4; omega) rfl ?_ ?_ ?_ ?_ ?_
      · rfl
      · simp only [bels, AV.bel, wF]; exact ⟨⟨trivial, by show 1 < 2; decide, trivial⟩, closeds_bel _ hxc, trivial, trivial⟩
      · exact mH_bel _
      · simp only [rns, AV.rn, wF, closeds_rn _ hxc]
        rfl
      · rintro _ _ ⟨rfl, rfl⟩
        exact ⟨trivial, (), Ent.fr' ⟨(by kernel_rfl), (by kernel_rfl), (by kernel_rfl), (by kernel_rfl), (by kernel_rfl), trivial⟩ (by kernel_rfl)⟩
  · intro D _ _ hD
    show VCode _ _ _ _ _ _
    simp only [hD 0 (by decide), hD 1 (by decide), hD 2 (by decide)]
    repeat first | refine opsStep ?_ | refine codeStep ?_ | refine drawStep ?_
    refine finV (v' := .agg (((msC ms0).take 0 ++ msC m) ++ (msC ms0).drop 3)) (by kernel_rfl) ?_
    simp [msC]

theorem tree_Check (t : FT) (hok : t.ok) : Pure Tryd.prog 25 [.agg t.cells] (.int .i64 (chkF t)) := by
  have hm := tree_measured t hok
  have hxl := FT.cells_len t
  have hxc := FT.cells_closed t
  rw [chkF]
  generalize FT.walk t 1 ms0 = m at *
  generalize t.cells = x at *
  have hcl : (x.drop 0).take 5 = x := by rw [List.drop_zero, List.take_of_length_le (by omega)]
  have hm' : Pure Tryd.prog 47 [.agg ((x.drop 0).take 5)] (.agg (msC m)) := by rw [hcl]; exact hm
  refine Pure.of_sw 6 Tryd.func25 rfl Tryd.ntmps25 (by kernel_rfl) (Nat.le_of_ble_eq_true (by kernel_rfl)) (by simp only [closeds, AV.closed]; exact ⟨hxc, trivial⟩) (by simp only [AV.closed]) ?_
  refine SW.of_vc ?_
  repeat first | refine opsStep ?_ | refine codeStep ?_ | refine drawStep ?_
  refine guardE_of (by show 0 + 5 ≤ x.length; omega) ?_
  repeat first | refine opsStep ?_ | refine codeStep ?_ | refine drawStep ?_
  refine callP hm' ?_
  repeat first | refine opsStep ?_ | refine codeStep ?_ | refine drawStep ?_
  exact finV (v' := .int .i64 m.err) (by kernel_rfl) rfl

end Tab
