/- Lemmas for this claim: part 14. No condition. -/
import Derived.Test.YtgadapklmphliaaZ8
import Derived.Test.YtgadapklmphliaaZ9
import Derived.Test.YtgadapklmphliaaZ11
import Derived.Test.YtgadapklmphliaaZ12
import Derived.Test.YtgadapklmphliaaZ13
/- count: total. -/
namespace Tab
open Go Go.Proofs
set_option maxRecDepth 10000
set_option linter.unusedVariables false
set_option linter.unusedSimpArgs false
set_option linter.unusedSectionVars false

/-- The slots of total's region when some of its operations have run. -/
def tS (g : Gr) (B T : Nat) (b0 b1 b2 b3 b4 b5 b6 b7 b8 : Bool) : Slots := fun t => match t with
  | 0 => .ref 0 0 0
  | 2 => .ref 2 0 0
  | 3 => .ref 3 0 0
  | 5 => bif b0 then .ref 0 0 0 else .junk
  | 6 => bif b1 then .ref 0 0 0 else .junk
  | 7 => bif b2 then .ref 0 0 3 else .junk
  | 8 => bif b3 then .sl .any g.n (yL g g.n) else .junk
  | 9 => bif b4 then .tref (yL g g.n) else .junk
  | 10 => bif b5 then .int .i64 (yesN g 0 : Nat) else .junk
  | 11 => bif b6 then .ref 0 0 0 else .junk
  | 12 => bif b7 then .int .i64 (B : Nat) else .junk
  | 13 => bif b8 then .int .i64 (T : Nat) else .junk
  | _ => .junk
noncomputable def tH (d : Den) (g : Gr) (T : Nat) (b9 : Bool) (kn : List Int) : List Blk := kH d g kn [.cells 0 [bif b9 then .int .i64 (T : Nat) else .int .i64 0], .cells 0 [.int .i64 0]]

abbrev totRec : Code := .region 1 #[{ dst := none, op := Op.store 2 (Operand.tmp 0) (Operand.const (Value.int IntKind.i64 0)), type := 0, pos := "count.go:114", after := #[], guard := none },
  { dst := none, op := Op.store 29 (Operand.tmp 1) (Operand.const (Value.int IntKind.i64 200)), type := 0, pos := "count.go:114", after := #[{ on := 0, ground := Ground.chain }, { on := 0, ground := Ground.phase }], guard := none }] false
theorem tot_RecFn : ∃ o1 o2, RecFn Try.prog 83 Try.f83 0 o1 o2 totRec 2 3 { callee := .builtin .recover, args := #[], argTypes := #[] } 20 20 := by
  refine ⟨_, _, ⟨Try.func83, rfl, rfl, rfl, rfl, rfl, rfl, rfl, rfl, ?_, rfl, ?_, ?_⟩⟩
  · exact ⟨#[], (by kernel_rfl)⟩
  · decide
  · decide
/-- What the deferred call does. -/
theorem tot_body (nt : Fr) (C K : Blk) (x y : AV) : SW Try.prog nt totRec (argS [.ref 2 0 0, .ref 3 0 0]) [C, K, .cells 0 [x], .cells 0 [y]] (fun e _ H' => e = .normal ∧ H' = [C, K, .cells 0 [.int .i64 0], .cells 0 [.int .i64 200]]) := by
  refine SW.of_vc ?_
  repeat first | refine opsStep ?_ | refine codeStep ?_ | refine drawStep ?_
  exact ⟨rfl, rfl⟩

theorem mL_map (k) : (List.replicate k (-1 : Int)).map (.int .i64) = mL k := by simp [mL]
theorem kH_zero (d : Den) (g : Gr) (X : List Blk) : kH d g (List.replicate g.n (-1)) X = cnH d g (.cells g.n (mL g.n) :: X) := by rw [kH, mL_map, cnH]
def totV (g : Gr) : AV := .tup [.int .i64 (if totN g < 9223372036854775808 then (totN g : Nat) else 0), .int .i64 (if totN g < 9223372036854775808 then 0 else 200)]
set_option maxHeartbeats 1000000 in
theorem count_total (d : Den) (hd : rightS d = true) (g : Gr) (hgr : grD d = g) (hfin : FinP g) : ACall Try.prog 37 [.ref 0 0 0] (kH d g (List.replicate g.n (-1)) []) (fun o _ => o = .ret (totV g)) := by
  obtain ⟨r, hr⟩ := hfin
  have hgo : g.Ok := by rw [← hgr]; exact grD_ok hd
  have hyl0 : (yL g g.n)[0]? = some (.int .i64 (yesN g 0 : Nat)) := yL_get hgo.pos
  have hB : ¬ beyN g 0 < 9223372036854775808 → ¬ totN g < 9223372036854775808 := by rw [totN]; omega
  have hY : yesN g 0 < 9223372036854775808 := by have := yesTo_le g 0 g.K; have := hgo.let'; show yesTo g 0 g.K < _; omega
  obtain ⟨o1, o2, F⟩ := tot_RecFn
  have hbey := fun (kn : List Int) (hk : KnOk g (beyN g) kn) X => count_beyond d hd g hgr X r hr (r 0 + 1) 0 kn hgo.pos hk (fun _ => ⟨.inl rfl, Nat.lt_succ_self _⟩)
  have hpan : ¬ totN g < 9223372036854775808 → Out.ret (.tup [.int .i64 0, .int .i64 200]) = .ret (totV g) := fun h => by rw [totV, if_neg h, if_neg h]
  have hret : totN g < 9223372036854775808 → Out.ret (.tup [.int .i64 (totN g : Nat), .int .i64 0]) = .ret (totV g) := fun h => by rw [totV, if_pos h, if_pos h]
  subst hgr
  have hk0 : KnOk (grD d) (beyN (grD d)) (List.replicate (grD d).n (-1)) := ⟨by simp, fun x v h => by
    rw [List.getElem?_replicate] at h
    split at h
    · exact .inl (by simpa using h.symm)
    · simp at h⟩
  refine ACall.of_defer F 14 Try.func37 rfl Try.ntmps37 (by kernel_rfl) (by kernel_rfl) (by decide) rfl rfl rfl rfl rfl rfl rfl rfl (by decide) (s1 := upd (upd (argS [.ref 0 0 0]) 2 (.ref 2 0 0)) 3 (.ref 3 0 0)) (H1 := tH d (grD d) (totN (grD d)) false (List.replicate (grD d).n (-1))) (cv := [.ref 2 0 0, .ref 3 0 0]) ?_ rfl (by decide) (by decide) ?_
  · refine SW.of_vc ?_
    repeat first | refine opsStep ?_ | refine codeStep ?_ | refine drawStep ?_
    exact ⟨rfl, rfl, rfl⟩
  refine SW.seq (SW.anyO (ι := {kn : List Int // KnOk (grD d) (beyN (grD d)) kn}) (fun D => (D 7 = true → beyN (grD d) 0 < 9223372036854775808) ∧ (D 8 = true → totN (grD d) < 9223372036854775808)) (fun D x => (tS (grD d) (beyN (grD d) 0) (totN (grD d)) (D 0) (D 1) (D 2) (D 3) (D 4) (D 5) (D 6) (D 7) (D 8), tH d (grD d) (totN (grD d)) (D 9) x.1)) rfl (by kernel_rfl) (by kernel_rfl) (by kernel_rfl) ?_ ?_ ?_)
  · intro D hD
    refine ⟨⟨fun h => (by rw [hD 7 (by decide)] at h; simp at h), fun h => (by rw [hD 8 (by decide)] at h; simp at h)⟩, ⟨_, hk0⟩, ?_⟩
    simp only [hD 0 (by decide), hD 1 (by decide), hD 2 (by decide), hD 3 (by decide), hD 4 (by decide), hD 5 (by decide), hD 6 (by decide), hD 7 (by decide), hD 8 (by decide), hD 9 (by decide)]
    refine Ent.weak fun t => ?_
    match t with
    | 0 => exact .inr rfl
    | 1 => exact .inl rfl
    | 2 => exact .inr rfl
    | 3 => exact .inr rfl
    | 4 => exact .inl rfl
    | 5 => exact .inl rfl
    | 6 => exact .inl rfl
    | 7 => exact .inl rfl
    | 8 => exact .inl rfl
    | 9 => exact .inl rfl
    | 10 => exact .inl rfl
    | 11 => exact .inl rfl
    | 12 => exact .inl rfl
    | 13 => exact .inl rfl
    | t + 14 => exact .inl rfl
  · intro D x i o hq hdn ho hDi hrdy
    match i, ho with
    | 0, ho =>
      cases ho
      have e : tS (grD d) (beyN (grD d) 0) (totN (grD d)) (addD D 0 0) (addD D 0 1) (addD D 0 2) (addD D 0 3) (addD D 0 4) (addD D 0 5) (addD D 0 6) (addD D 0 7) (addD D 0 8) = tS (grD d) (beyN (grD d) 0) (totN (grD d)) true (D 1) (D 2) (D 3) (D 4) (D 5) (D 6) (D 7) (D 8) := by simp [addD]
      have e9 : addD D 0 9 = (D 9) := by simp [addD]
      have e8 : (addD D 0 7 = true → beyN (grD d) 0 < 9223372036854775808) ∧ (addD D 0 8 = true → totN (grD d) < 9223372036854775808) := by simpa [addD] using hq
      show vcRun Try.prog _ (tS (grD d) (beyN (grD d) 0) (totN (grD d)) (D 0) (D 1) (D 2) (D 3) (D 4) (D 5) (D 6) (D 7) (D 8)) (tH d (grD d) (totN (grD d)) (D 9) x.1) _ (fun s H => ((addD D 0 7 = true → beyN (grD d) 0 < 9223372036854775808) ∧ (addD D 0 8 = true → totN (grD d) < 9223372036854775808)) ∧ ∃ y : {kn : List Int // KnOk (grD d) (beyN (grD d)) kn}, Ent ⟨14, 4⟩ s H (tS (grD d) (beyN (grD d) 0) (totN (grD d)) (addD D 0 0) (addD D 0 1) (addD D 0 2) (addD D 0 3) (addD D 0 4) (addD D 0 5) (addD D 0 6) (addD D 0 7) (addD D 0 8)) (tH d (grD d) (totN (grD d)) (addD D 0 9) y.1))
      rw [e, e9]
      refine And.intro e8 ⟨x, Ent.weak fun t => ?_⟩
      match t with
      | 0 => exact .inr rfl
      | 1 => exact .inl rfl
      | 2 => exact .inr rfl
      | 3 => exact .inr rfl
      | 4 => exact .inl rfl
      | 5 => exact .inr rfl
      | 6 => exact .inr rfl
      | 7 => exact .inr rfl
      | 8 => exact .inr rfl
      | 9 => exact .inr rfl
      | 10 => exact .inr rfl
      | 11 => exact .inr rfl
      | 12 => exact .inr rfl
      | 13 => exact .inr rfl
      | t + 14 => exact .inl rfl
    | 1, ho =>
      cases ho
      have h0 : D 0 = true := hrdy ⟨0, .data⟩ (by simp) rfl
      have e : tS (grD d) (beyN (grD d) 0) (totN (grD d)) (addD D 1 0) (addD D 1 1) (addD D 1 2) (addD D 1 3) (addD D 1 4) (addD D 1 5) (addD D 1 6) (addD D 1 7) (addD D 1 8) = tS (grD d) (beyN (grD d) 0) (totN (grD d)) true true (D 2) (D 3) (D 4) (D 5) (D 6) (D 7) (D 8) := by simp [addD, h0]
      have e9 : addD D 1 9 = (D 9) := by simp [addD, h0]
      have e8 : (addD D 1 7 = true → beyN (grD d) 0 < 9223372036854775808) ∧ (addD D 1 8 = true → totN (grD d) < 9223372036854775808) := by simpa [addD] using hq
      show vcRun Try.prog _ (tS (grD d) (beyN (grD d) 0) (totN (grD d)) (D 0) (D 1) (D 2) (D 3) (D 4) (D 5) (D 6) (D 7) (D 8)) (tH d (grD d) (totN (grD d)) (D 9) x.1) _ (fun s H => ((addD D 1 7 = true → beyN (grD d) 0 < 9223372036854775808) ∧ (addD D 1 8 = true → totN (grD d) < 9223372036854775808)) ∧ ∃ y : {kn : List Int // KnOk (grD d) (beyN (grD d)) kn}, Ent ⟨14, 4⟩ s H (tS (grD d) (beyN (grD d) 0) (totN (grD d)) (addD D 1 0) (addD D 1 1) (addD D 1 2) (addD D 1 3) (addD D 1 4) (addD D 1 5) (addD D 1 6) (addD D 1 7) (addD D 1 8)) (tH d (grD d) (totN (grD d)) (addD D 1 9) y.1))
      rw [e, e9]
      rw [h0]
      refine And.intro e8 ⟨x, Ent.weak fun t => ?_⟩
      match t with
      | 0 => exact .inr rfl
      | 1 => exact .inl rfl
      | 2 => exact .inr rfl
      | 3 => exact .inr rfl
      | 4 => exact .inl rfl
      | 5 => exact .inr rfl
      | 6 => exact .inr rfl
      | 7 => exact .inr rfl
      | 8 => exact .inr rfl
      | 9 => exact .inr rfl
      | 10 => exact .inr rfl
      | 11 => exact .inr rfl
      | 12 => exact .inr rfl
      | 13 => exact .inr rfl
      | t + 14 => exact .inl rfl
    | 2, ho =>
      cases ho
      have h1 : D 1 = true := hrdy ⟨1, .data⟩ (by simp) rfl
      have e : tS (grD d) (beyN (grD d) 0) (totN (grD d)) (addD D 2 0) (addD D 2 1) (addD D 2 2) (addD D 2 3) (addD D 2 4) (addD D 2 5) (addD D 2 6) (addD D 2 7) (addD D 2 8) = tS (grD d) (beyN (grD d) 0) (totN (grD d)) (D 0) true true (D 3) (D 4) (D 5) (D 6) (D 7) (D 8) := by simp [addD, h1]
      have e9 : addD D 2 9 = (D 9) := by simp [addD, h1]
      have e8 : (addD D 2 7 = true → beyN (grD d) 0 < 9223372036854775808) ∧ (addD D 2 8 = true → totN (grD d) < 9223372036854775808) := by simpa [addD] using hq
      show vcRun Try.prog _ (tS (grD d) (beyN (grD d) 0) (totN (grD d)) (D 0) (D 1) (D 2) (D 3) (D 4) (D 5) (D 6) (D 7) (D 8)) (tH d (grD d) (totN (grD d)) (D 9) x.1) _ (fun s H => ((addD D 2 7 = true → beyN (grD d) 0 < 9223372036854775808) ∧ (addD D 2 8 = true → totN (grD d) < 9223372036854775808)) ∧ ∃ y : {kn : List Int // KnOk (grD d) (beyN (grD d)) kn}, Ent ⟨14, 4⟩ s H (tS (grD d) (beyN (grD d) 0) (totN (grD d)) (addD D 2 0) (addD D 2 1) (addD D 2 2) (addD D 2 3) (addD D 2 4) (addD D 2 5) (addD D 2 6) (addD D 2 7) (addD D 2 8)) (tH d (grD d) (totN (grD d)) (addD D 2 9) y.1))
      rw [e, e9]
      rw [h1]
      refine And.intro e8 ⟨x, Ent.weak fun t => ?_⟩
      match t with
      | 0 => exact .inr rfl
      | 1 => exact .inl rfl
      | 2 => exact .inr rfl
      | 3 => exact .inr rfl
      | 4 => exact .inl rfl
      | 5 => exact .inr rfl
      | 6 => exact .inr rfl
      | 7 => exact .inr rfl
      | 8 => exact .inr rfl
      | 9 => exact .inr rfl
      | 10 => exact .inr rfl
      | 11 => exact .inr rfl
      | 12 => exact .inr rfl
      | 13 => exact .inr rfl
      | t + 14 => exact .inl rfl
    | 3, ho =>
      cases ho
      have h2 : D 2 = true := hrdy ⟨2, .data⟩ (by simp) rfl
      have e : tS (grD d) (beyN (grD d) 0) (totN (grD d)) (addD D 3 0) (addD D 3 1) (addD D 3 2) (addD D 3 3) (addD D 3 4) (addD D 3 5) (addD D 3 6) (addD D 3 7) (addD D 3 8) = tS (grD d) (beyN (grD d) 0) (totN (grD d)) (D 0) (D 1) true true (D 4) (D 5) (D 6) (D 7) (D 8) := by simp [addD, h2]
      have e9 : addD D 3 9 = (D 9) := by simp [addD, h2]
      have e8 : (addD D 3 7 = true → beyN (grD d) 0 < 9223372036854775808) ∧ (addD D 3 8 = true → totN (grD d) < 9223372036854775808) := by simpa [addD] using hq
      show vcRun Try.prog _ (tS (grD d) (beyN (grD d) 0) (totN (grD d)) (D 0) (D 1) (D 2) (D 3) (D 4) (D 5) (D 6) (D 7) (D 8)) (tH d (grD d) (totN (grD d)) (D 9) x.1) _ (fun s H => ((addD D 3 7 = true → beyN (grD d) 0 < 9223372036854775808) ∧ (addD D 3 8 = true → totN (grD d) < 9223372036854775808)) ∧ ∃ y : {kn : List Int // KnOk (grD d) (beyN (grD d)) kn}, Ent ⟨14, 4⟩ s H (tS (grD d) (beyN (grD d) 0) (totN (grD d)) (addD D 3 0) (addD D 3 1) (addD D 3 2) (addD D 3 3) (addD D 3 4) (addD D 3 5) (addD D 3 6) (addD D 3 7) (addD D 3 8)) (tH d (grD d) (totN (grD d)) (addD D 3 9) y.1))
      rw [e, e9]
      rw [h2]
      refine And.intro e8 ⟨x, Ent.weak fun t => ?_⟩
      match t with
      | 0 => exact .inr rfl
      | 1 => exact .inl rfl
      | 2 => exact .inr rfl
      | 3 => exact .inr rfl
      | 4 => exact .inl rfl
      | 5 => exact .inr rfl
      | 6 => exact .inr rfl
      | 7 => exact .inr rfl
      | 8 => exact .inr rfl
      | 9 => exact .inr rfl
      | 10 => exact .inr rfl
      | 11 => exact .inr rfl
      | 12 => exact .inr rfl
      | 13 => exact .inr rfl
      | t + 14 => exact .inl rfl
    | 4, ho =>
      cases ho
      have h3 : D 3 = true := hrdy ⟨3, .data⟩ (by simp) rfl
      have e : tS (grD d) (beyN (grD d) 0) (totN (grD d)) (addD D 4 0) (addD D 4 1) (addD D 4 2) (addD D 4 3) (addD D 4 4) (addD D 4 5) (addD D 4 6) (addD D 4 7) (addD D 4 8) = tS (grD d) (beyN (grD d) 0) (totN (grD d)) (D 0) (D 1) (D 2) true true (D 5) (D 6) (D 7) (D 8) := by simp [addD, h3]
      have e9 : addD D 4 9 = (D 9) := by simp [addD, h3]
      have e8 : (addD D 4 7 = true → beyN (grD d) 0 < 9223372036854775808) ∧ (addD D 4 8 = true → totN (grD d) < 9223372036854775808) := by simpa [addD] using hq
      show vcRun Try.prog _ (tS (grD d) (beyN (grD d) 0) (totN (grD d)) (D 0) (D 1) (D 2) (D 3) (D 4) (D 5) (D 6) (D 7) (D 8)) (tH d (grD d) (totN (grD d)) (D 9) x.1) _ (fun s H => ((addD D 4 7 = true → beyN (grD d) 0 < 9223372036854775808) ∧ (addD D 4 8 = true → totN (grD d) < 9223372036854775808)) ∧ ∃ y : {kn : List Int // KnOk (grD d) (beyN (grD d)) kn}, Ent ⟨14, 4⟩ s H (tS (grD d) (beyN (grD d) 0) (totN (grD d)) (addD D 4 0) (addD D 4 1) (addD D 4 2) (addD D 4 3) (addD D 4 4) (addD D 4 5) (addD D 4 6) (addD D 4 7) (addD D 4 8)) (tH d (grD d) (totN (grD d)) (addD D 4 9) y.1))
      rw [e, e9]
      rw [h3]
      refine guardE_of (by show (0 : Int) ≤ 0 ∧ (0 : Int) < (((grD d).n : Nat) : Int); have := hgo.pos; omega) ?_
      refine And.intro e8 ⟨x, Ent.weak fun t => ?_⟩
      match t with
      | 0 => exact .inr rfl
      | 1 => exact .inl rfl
      | 2 => exact .inr rfl
      | 3 => exact .inr rfl
      | 4 => exact .inl rfl
      | 5 => exact .inr rfl
      | 6 => exact .inr rfl
      | 7 => exact .inr rfl
      | 8 => exact .inr rfl
      | 9 => exact .inr rfl
      | 10 => exact .inr rfl
      | 11 => exact .inr rfl
      | 12 => exact .inr rfl
      | 13 => exact .inr rfl
      | t + 14 => exact .inl rfl
    | 5, ho =>
      cases ho
      have h4 : D 4 = true := hrdy ⟨4, .data⟩ (by simp) rfl
      have e : tS (grD d) (beyN (grD d) 0) (totN (grD d)) (addD D 5 0) (addD D 5 1) (addD D 5 2) (addD D 5 3) (addD D 5 4) (addD D 5 5) (addD D 5 6) (addD D 5 7) (addD D 5 8) = tS (grD d) (beyN (grD d) 0) (totN (grD d)) (D 0) (D 1) (D 2) (D 3) true true (D 6) (D 7) (D 8) := by simp [addD, h4]
      have e9 : addD D 5 9 = (D 9) := by simp [addD, h4]
      have e8 : (addD D 5 7 = true → beyN (grD d) 0 < 9223372036854775808) ∧ (addD D 5 8 = true → totN (grD d) < 9223372036854775808) := by simpa [addD] using hq
      show vcRun Try.prog _ (tS (grD d) (beyN (grD d) 0) (totN (grD d)) (D 0) (D 1) (D 2) (D 3) (D 4) (D 5) (D 6) (D 7) (D 8)) (tH d (grD d) (totN (grD d)) (D 9) x.1) _ (fun s H => ((addD D 5 7 = true → beyN (grD d) 0 < 9223372036854775808) ∧ (addD D 5 8 = true → totN (grD d) < 9223372036854775808)) ∧ ∃ y : {kn : List Int // KnOk (grD d) (beyN (grD d)) kn}, Ent ⟨14, 4⟩ s H (tS (grD d) (beyN (grD d) 0) (totN (grD d)) (addD D 5 0) (addD D 5 1) (addD D 5 2) (addD D 5 3) (addD D 5 4) (addD D 5 5) (addD D 5 6) (addD D 5 7) (addD D 5 8)) (tH d (grD d) (totN (grD d)) (addD D 5 9) y.1))
      rw [e, e9]
      rw [h4]
      refine optE_of (c := .int .i64 (yesN (grD d) 0 : Nat)) (yL_get hgo.pos) ?_
      refine And.intro e8 ⟨x, Ent.weak fun t => ?_⟩
      match t with
      | 0 => exact .inr rfl
      | 1 => exact .inl rfl
      | 2 => exact .inr rfl
      | 3 => exact .inr rfl
      | 4 => exact .inl rfl
      | 5 => exact .inr rfl
      | 6 => exact .inr rfl
      | 7 => exact .inr rfl
      | 8 => exact .inr rfl
      | 9 => exact .inr rfl
      | 10 => exact .inr rfl
      | 11 => exact .inr rfl
      | 12 => exact .inr rfl
      | 13 => exact .inr rfl
      | t + 14 => exact .inl rfl
    | 6, ho =>
      cases ho
      have e : tS (grD d) (beyN (grD d) 0) (totN (grD d)) (addD D 6 0) (addD D 6 1) (addD D 6 2) (addD D 6 3) (addD D 6 4) (addD D 6 5) (addD D 6 6) (addD D 6 7) (addD D 6 8) = tS (grD d) (beyN (grD d) 0) (totN (grD d)) (D 0) (D 1) (D 2) (D 3) (D 4) (D 5) true (D 7) (D 8) := by simp [addD]
      have e9 : addD D 6 9 = (D 9) := by simp [addD]
      have e8 : (addD D 6 7 = true → beyN (grD d) 0 < 9223372036854775808) ∧ (addD D 6 8 = true → totN (grD d) < 9223372036854775808) := by simpa [addD] using hq
      show vcRun Try.prog _ (tS (grD d) (beyN (grD d) 0) (totN (grD d)) (D 0) (D 1) (D 2) (D 3) (D 4) (D 5) (D 6) (D 7) (D 8)) (tH d (grD d) (totN (grD d)) (D 9) x.1) _ (fun s H => ((addD D 6 7 = true → beyN (grD d) 0 < 9223372036854775808) ∧ (addD D 6 8 = true → totN (grD d) < 9223372036854775808)) ∧ ∃ y : {kn : List Int // KnOk (grD d) (beyN (grD d)) kn}, Ent ⟨14, 4⟩ s H (tS (grD d) (beyN (grD d) 0) (totN (grD d)) (addD D 6 0) (addD D 6 1) (addD D 6 2) (addD D 6 3) (addD D 6 4) (addD D 6 5) (addD D 6 6) (addD D 6 7) (addD D 6 8)) (tH d (grD d) (totN (grD d)) (addD D 6 9) y.1))
      rw [e, e9]
      refine And.intro e8 ⟨x, Ent.weak fun t => ?_⟩
      match t with
      | 0 => exact .inr rfl
      | 1 => exact .inl rfl
      | 2 => exact .inr rfl
      | 3 => exact .inr rfl
      | 4 => exact .inl rfl
      | 5 => exact .inr rfl
      | 6 => exact .inr rfl
      | 7 => exact .inr rfl
      | 8 => exact .inr rfl
      | 9 => exact .inr rfl
      | 10 => exact .inr rfl
      | 11 => exact .inr rfl
      | 12 => exact .inr rfl
      | 13 => exact .inr rfl
      | t + 14 => exact .inl rfl
    | 7, ho =>
      cases ho
      have h6 : D 6 = true := hrdy ⟨6, .data⟩ (by simp) rfl
      have e : tS (grD d) (beyN (grD d) 0) (totN (grD d)) (addD D 7 0) (addD D 7 1) (addD D 7 2) (addD D 7 3) (addD D 7 4) (addD D 7 5) (addD D 7 6) (addD D 7 7) (addD D 7 8) = tS (grD d) (beyN (grD d) 0) (totN (grD d)) (D 0) (D 1) (D 2) (D 3) (D 4) (D 5) true true (D 8) := by simp [addD, h6]
      have e9 : addD D 7 9 = (D 9) := by simp [addD, h6]
      have e8 : beyN (grD d) 0 < 9223372036854775808 → ((addD D 7 7 = true → beyN (grD d) 0 < 9223372036854775808) ∧ (addD D 7 8 = true → totN (grD d) < 9223372036854775808)) := fun h => ⟨fun _ => h, by simpa [addD] using hq.2⟩
      show vcRun Try.prog _ (tS (grD d) (beyN (grD d) 0) (totN (grD d)) (D 0) (D 1) (D 2) (D 3) (D 4) (D 5) (D 6) (D 7) (D 8)) (tH d (grD d) (totN (grD d)) (D 9) x.1) _ (fun s H => ((addD D 7 7 = true → beyN (grD d) 0 < 9223372036854775808) ∧ (addD D 7 8 = true → totN (grD d) < 9223372036854775808)) ∧ ∃ y : {kn : List Int // KnOk (grD d) (beyN (grD d)) kn}, Ent ⟨14, 4⟩ s H (tS (grD d) (beyN (grD d) 0) (totN (grD d)) (addD D 7 0) (addD D 7 1) (addD D 7 2) (addD D 7 3) (addD D 7 4) (addD D 7 5) (addD D 7 6) (addD D 7 7) (addD D 7 8)) (tH d (grD d) (totN (grD d)) (addD D 7 9) y.1))
      rw [e, e9]
      rw [h6]
      refine callPan (hbey x.1 x.2 _) (fun hc kn' hk' => ?_) (fun hc kn' hk' => ?_)
      · refine And.intro (e8 hc) ⟨⟨kn', hk'⟩, Ent.weak fun t => ?_⟩
        match t with
        | 0 => exact .inr rfl
        | 1 => exact .inl rfl
        | 2 => exact .inr rfl
        | 3 => exact .inr rfl
        | 4 => exact .inl rfl
        | 5 => exact .inr rfl
        | 6 => exact .inr rfl
        | 7 => exact .inr rfl
        | 8 => exact .inr rfl
        | 9 => exact .inr rfl
        | 10 => exact .inr rfl
        | 11 => exact .inr rfl
        | 12 => exact .inr rfl
        | 13 => exact .inr rfl
        | t + 14 => exact .inl rfl
      · exact ⟨_, _, tot_body _ _ _ _ _, rfl, hpan (hB hc)⟩
    | 8, ho =>
      cases ho
      have h5 : D 5 = true := hrdy ⟨5, .data⟩ (by simp) rfl
      have h7 : D 7 = true := hrdy ⟨7, .data⟩ (by simp) rfl
      have e : tS (grD d) (beyN (grD d) 0) (totN (grD d)) (addD D 8 0) (addD D 8 1) (addD D 8 2) (addD D 8 3) (addD D 8 4) (addD D 8 5) (addD D 8 6) (addD D 8 7) (addD D 8 8) = tS (grD d) (beyN (grD d) 0) (totN (grD d)) (D 0) (D 1) (D 2) (D 3) (D 4) true (D 6) true true := by simp [addD, h5, h7]
      have e9 : addD D 8 9 = (D 9) := by simp [addD, h5, h7]
      have e8 : totN (grD d) < 9223372036854775808 → ((addD D 8 7 = true → beyN (grD d) 0 < 9223372036854775808) ∧ (addD D 8 8 = true → totN (grD d) < 9223372036854775808)) := fun h => ⟨by simpa [addD] using hq.1, fun _ => h⟩
      show vcRun Try.prog _ (tS (grD d) (beyN (grD d) 0) (totN (grD d)) (D 0) (D 1) (D 2) (D 3) (D 4) (D 5) (D 6) (D 7) (D 8)) (tH d (grD d) (totN (grD d)) (D 9) x.1) _ (fun s H => ((addD D 8 7 = true → beyN (grD d) 0 < 9223372036854775808) ∧ (addD D 8 8 = true → totN (grD d) < 9223372036854775808)) ∧ ∃ y : {kn : List Int // KnOk (grD d) (beyN (grD d)) kn}, Ent ⟨14, 4⟩ s H (tS (grD d) (beyN (grD d) 0) (totN (grD d)) (addD D 8 0) (addD D 8 1) (addD D 8 2) (addD D 8 3) (addD D 8 4) (addD D 8 5) (addD D 8 6) (addD D 8 7) (addD D 8 8)) (tH d (grD d) (totN (grD d)) (addD D 8 9) y.1))
      rw [e, e9]
      rw [h5, h7]
      by_cases hfit : yesN (grD d) 0 + beyN (grD d) 0 < 9223372036854775808
      · refine callP (count_sum _ _ hfit) ?_
        refine And.intro (e8 hfit) ⟨x, Ent.weak fun t => ?_⟩
        match t with
        | 0 => exact .inr rfl
        | 1 => exact .inl rfl
        | 2 => exact .inr rfl
        | 3 => exact .inr rfl
        | 4 => exact .inl rfl
        | 5 => exact .inr rfl
        | 6 => exact .inr rfl
        | 7 => exact .inr rfl
        | 8 => exact .inr rfl
        | 9 => exact .inr rfl
        | 10 => exact .inr rfl
        | 11 => exact .inr rfl
        | 12 => exact .inr rfl
        | 13 => exact .inr rfl
        | t + 14 => exact .inl rfl
      · refine callX (count_sumPan _ _ hY (hq.1 h7) hfit _) ?_
        exact ⟨_, _, tot_body _ _ _ _ _, rfl, hpan hfit⟩
    | 9, ho =>
      cases ho
      have h8 : D 8 = true := hrdy ⟨8, .data⟩ (by simp) rfl
      have e : tS (grD d) (beyN (grD d) 0) (totN (grD d)) (addD D 9 0) (addD D 9 1) (addD D 9 2) (addD D 9 3) (addD D 9 4) (addD D 9 5) (addD D 9 6) (addD D 9 7) (addD D 9 8) = tS (grD d) (beyN (grD d) 0) (totN (grD d)) (D 0) (D 1) (D 2) (D 3) (D 4) (D 5) (D 6) (D 7) true := by simp [addD, h8]
      have e9 : addD D 9 9 = true := by simp [addD, h8]
      have e8 : (addD D 9 7 = true → beyN (grD d) 0 < 9223372036854775808) ∧ (addD D 9 8 = true → totN (grD d) < 9223372036854775808) := by simpa [addD] using hq
      show vcRun Try.prog _ (tS (grD d) (beyN (grD d) 0) (totN (grD d)) (D 0) (D 1) (D 2) (D 3) (D 4) (D 5) (D 6) (D 7) (D 8)) (tH d (grD d) (totN (grD d)) (D 9) x.1) _ (fun s H => ((addD D 9 7 = true → beyN (grD d) 0 < 9223372036854775808) ∧ (addD D 9 8 = true → totN (grD d) < 9223372036854775808)) ∧ ∃ y : {kn : List Int // KnOk (grD d) (beyN (grD d)) kn}, Ent ⟨14, 4⟩ s H (tS (grD d) (beyN (grD d) 0) (totN (grD d)) (addD D 9 0) (addD D 9 1) (addD D 9 2) (addD D 9 3) (addD D 9 4) (addD D 9 5) (addD D 9 6) (addD D 9 7) (addD D 9 8)) (tH d (grD d) (totN (grD d)) (addD D 9 9) y.1))
      rw [e, e9]
      rw [h8]
      refine And.intro e8 ⟨x, Ent.to (Ent.weak fun t => ?_) rfl⟩
      match t with
      | 0 => exact .inr rfl
      | 1 => exact .inl rfl
      | 2 => exact .inr rfl
      | 3 => exact .inr rfl
      | 4 => exact .inl rfl
      | 5 => exact .inr rfl
      | 6 => exact .inr rfl
      | 7 => exact .inr rfl
      | 8 => exact .inr rfl
      | 9 => exact .inr rfl
      | 10 => exact .inr rfl
      | 11 => exact .inr rfl
      | 12 => exact .inr rfl
      | 13 => exact .inr rfl
      | t + 14 => exact .inl rfl
    | 10, ho =>
      cases ho
      have h9 : D 9 = true := hrdy ⟨9, .chain⟩ (by simp) rfl
      have e : tS (grD d) (beyN (grD d) 0) (totN (grD d)) (addD D 10 0) (addD D 10 1) (addD D 10 2) (addD D 10 3) (addD D 10 4) (addD D 10 5) (addD D 10 6) (addD D 10 7) (addD D 10 8) = tS (grD d) (beyN (grD d) 0) (totN (grD d)) (D 0) (D 1) (D 2) (D 3) (D 4) (D 5) (D 6) (D 7) (D 8) := by simp [addD, h9]
      have e9 : addD D 10 9 = true := by simp [addD, h9]
      have e8 : (addD D 10 7 = true → beyN (grD d) 0 < 9223372036854775808) ∧ (addD D 10 8 = true → totN (grD d) < 9223372036854775808) := by simpa [addD] using hq
      show vcRun Try.prog _ (tS (grD d) (beyN (grD d) 0) (totN (grD d)) (D 0) (D 1) (D 2) (D 3) (D 4) (D 5) (D 6) (D 7) (D 8)) (tH d (grD d) (totN (grD d)) (D 9) x.1) _ (fun s H => ((addD D 10 7 = true → beyN (grD d) 0 < 9223372036854775808) ∧ (addD D 10 8 = true → totN (grD d) < 9223372036854775808)) ∧ ∃ y : {kn : List Int // KnOk (grD d) (beyN (grD d)) kn}, Ent ⟨14, 4⟩ s H (tS (grD d) (beyN (grD d) 0) (totN (grD d)) (addD D 10 0) (addD D 10 1) (addD D 10 2) (addD D 10 3) (addD D 10 4) (addD D 10 5) (addD D 10 6) (addD D 10 7) (addD D 10 8)) (tH d (grD d) (totN (grD d)) (addD D 10 9) y.1))
      rw [e, e9]
      rw [h9]
      refine And.intro e8 ⟨x, Ent.to (Ent.weak fun t => ?_) rfl⟩
      match t with
      | 0 => exact .inr rfl
      | 1 => exact .inl rfl
      | 2 => exact .inr rfl
      | 3 => exact .inr rfl
      | 4 => exact .inl rfl
      | 5 => exact .inr rfl
      | 6 => exact .inr rfl
      | 7 => exact .inr rfl
      | 8 => exact .inr rfl
      | 9 => exact .inr rfl
      | 10 => exact .inr rfl
      | 11 => exact .inr rfl
      | 12 => exact .inr rfl
      | 13 => exact .inr rfl
      | t + 14 => exact .inl rfl
    | i + 11, ho => simp at ho
  · intro D x hq hD
    have hfit := hq.2 (hD 8 (by decide))
    simp only [hD 0 (by decide), hD 1 (by decide), hD 2 (by decide), hD 3 (by decide), hD 4 (by decide), hD 5 (by decide), hD 6 (by decide), hD 7 (by decide), hD 8 (by decide), hD 9 (by decide)]
    refine SW.ret ?_
    exact ⟨_, _, _, Ent.refl _ _ _, rfl, hret hfit⟩

end Tab

/- count.Finite and count.Count, as values. -/
namespace Tab
open Go Go.Proofs
set_option maxRecDepth 10000
set_option linter.unusedVariables false
set_option linter.unusedSimpArgs false
set_option linter.unusedSectionVars false

def cnB (d : Den) (L : List Bool) (b : Nat) : Blk := .cells 0 (d.cells ++ [.sl .any (grD d).n (yL (grD d) (grD d).n), .sl .any (grD d).n (L.map .bool), .hs b (grD d).n 0 (grD d).n 1])
theorem cn_sh (d : Den) (L : List Bool) (k : Nat) : (cnC d (.sl .any (grD d).n (L.map .bool)) (.hs 1 (grD d).n 0 (grD d).n 1)).sh k = cnB d L (1 + k) := by
  have h1 : shs k (yL (grD d) (grD d).n) = yL (grD d) (grD d).n := closeds_sh _ (yL_closed _ _)
  have h2 : shs k d.cells = d.cells := closeds_sh _ (by have := aDen_closed d; simpa [aDen, AV.closed] using this)
  have h3 : shs k (L.map .bool) = L.map .bool := closeds_sh _ (closeds_iff.2 fun a ha => by obtain ⟨x, _, rfl⟩ := List.mem_map.1 ha; simp only [AV.closed])
  rw [cnC, cnB, Blk.sh, shs_map, List.map_append, ← shs_map, h2]
  simp [AV.sh, h1, h3]
theorem cn_rn (d : Den) (L : List Bool) (f : Nat → Nat) : (cnC d (.sl .any (grD d).n (L.map .bool)) (.hs 1 (grD d).n 0 (grD d).n 1)).rn f = cnB d L (f 1) := by
  rw [cnC, cnB, Blk.rn, rns_app, den_rn]
  simp [rns, AV.rn, yL_rn, bools_rn]
theorem mL_sh (k m n : Nat) : (Blk.cells m (mL n)).sh k = .cells m (mL n) := by
  rw [Blk.sh, closeds_sh _ (closeds_iff.2 fun a ha => by rw [List.eq_of_mem_replicate ha]; simp only [AV.closed])]
theorem callMade {d : Den} (hd : rightS d = true) {H : List Blk} {X : Out → List Blk → Prop} (k : X (.ret (.ref (0 + H.length) 0 0)) (H ++ [cnB d (liveL (grD d)) (1 + H.length), .cells (grD d).n (mL (grD d).n)])) :
    ∃ R : Out → List Blk → Prop, ACall Try.prog 35 [aDen d] H R ∧ ∀ o H', R o H' → X o H' := by
  refine callS (by simp [closeds, aDen_closed]) (count_made d hd (grD d) rfl) (fun X h => by simp at h) fun v X h => ?_
  obtain ⟨h1, rfl⟩ := h
  cases h1
  simp only [List.map_cons, List.map_nil]
  rw [cn_sh, mL_sh]
  exact k

noncomputable def finA (a : Aut) : Bool := checkS a && finT (grD (unpD a))
theorem count_Finite (a : Aut) (ha : AutOk a) : Pure Try.prog 12 [aAut a] (.tup [.bool (finA a), .int .i64 (unpE a)]) := by
  have hu := table_Unpack a ha
  rw [finA]
  cases hc : checkS a with
  | false =>
    rw [unpE_bad hc] at hu ⊢
    rw [unpD_bad hc] at hu
    refine Pure.of_sw 17 Try.func12 rfl Try.ntmps12 (by kernel_rfl) (Nat.le_of_ble_eq_true (by kernel_rfl)) (by simp [closeds, AV.closed, aSs_closed, aIs_closed, aBs_closed, aRs_closed, aDen_closed, aCs_closed, aAut_closed]) (by simp [AV.closed, closeds, aSs_closed, aIs_closed, aBs_closed, aRs_closed, aDen_closed, aCs_closed, aAut_closed]) ?_; refine SW.of_vc ?_
    repeat first | refine opsStep ?_ | refine codeStep ?_ | refine drawStep ?_
    refine callP hu ?_
    repeat first | refine opsStep ?_ | refine codeStep ?_ | refine drawStep ?_
    exact finV (v' := .tup [.bool false, .int .i64 3]) (by kernel_rfl) rfl
  | true =>
    rw [unpE_zero.2 hc] at hu ⊢
    have hd := (unpD_right hc).1
    have hfin := count_finite (unpD a) hd (grD (unpD a)) rfl
    rw [Bool.true_and]
    generalize unpD a = d at *
    have hmade := fun H X k => callMade hd (H := H) (X := X) k
    have hn := fun f => cn_rn d (liveL (grD d)) f
    have hml : ∀ f m, (Blk.cells m (mL (grD d).n)).rn f = .cells m (mL (grD d).n) := fun f m => by rw [Blk.rn, mL_rn]
    rw [cnH] at hfin
    generalize finT (grD d) = b at *
    refine Pure.of_sw 17 Try.func12 rfl Try.ntmps12 (by kernel_rfl) (Nat.le_of_ble_eq_true (by kernel_rfl)) (by simp [closeds, AV.closed, aSs_closed, aIs_closed, aBs_closed, aRs_closed, aDen_closed, aCs_closed, aAut_closed]) (by simp [AV.closed, closeds, aSs_closed, aIs_closed, aBs_closed, aRs_closed, aDen_closed, aCs_closed, aAut_closed]) ?_; refine SW.of_vc ?_
    repeat first | refine opsStep ?_ | refine codeStep ?_ | refine drawStep ?_
    refine callP hu ?_
    repeat first | refine opsStep ?_ | refine codeStep ?_ | refine drawStep ?_
    refine hmade _ _ ?_
    repeat first | refine opsStep ?_ | refine codeStep ?_ | refine drawStep ?_
    refine callF [2, 3] hfin (by decide) (by intro b hb; simp at hb; show b < 4; omega) rfl ?_ ?_ ?_ rfl ?_
    · simp only [List.map_cons, List.map_nil, hn, hml]
      rfl
    · simp [bels, AV.bel]
    · rw [cnC]
      simp [blksBel, Blk.bel, bels_append, cells_bel, yL_bel, mL_bel, bels, AV.bel, bels_map]
    · rintro o₀ H₁ ⟨rfl, rfl⟩
      repeat first | refine opsStep ?_ | refine codeStep ?_ | refine drawStep ?_
      exact finV (v' := .tup [.bool b, .int .i64 0]) (by kernel_rfl) rfl

end Tab

/- count.Count, as a value. -/
namespace Tab
open Go Go.Proofs
set_option maxRecDepth 10000
set_option linter.unusedVariables false
set_option linter.unusedSimpArgs false
set_option linter.unusedSectionVars false

noncomputable def cntV (a : Aut) : AV := if checkS a = true then (if finT (grD (unpD a)) = true then .tup [.int .i64 (if totN (grD (unpD a)) < 9223372036854775808 then (totN (grD (unpD a)) : Nat) else 0), .bool false, .int .i64 (if totN (grD (unpD a)) < 9223372036854775808 then 0 else 200)] else .tup [.int .i64 0, .bool true, .int .i64 0]) else .tup [.int .i64 0, .bool false, .int .i64 3]
theorem cntV_closed (a) : (cntV a).closed := by rw [cntV]; split; split; all_goals simp [AV.closed, closeds]
set_option maxHeartbeats 1000000 in
theorem count_Count (a : Aut) (ha : AutOk a) : Pure Try.prog 13 [aAut a] (cntV a) := by
  have hu := table_Unpack a ha
  have hcl := cntV_closed a
  cases hc : checkS a with
  | false =>
    have hv : cntV a = .tup [.int .i64 0, .bool false, .int .i64 3] := by rw [cntV, hc]; rfl
    rw [hv]
    rw [unpE_bad hc, unpD_bad hc] at hu
    refine Pure.of_sw 29 Try.func13 rfl Try.ntmps13 (by kernel_rfl) (Nat.le_of_ble_eq_true (by kernel_rfl)) (by simp [closeds, AV.closed, aSs_closed, aIs_closed, aBs_closed, aRs_closed, aDen_closed, aCs_closed, aAut_closed]) (by simp [AV.closed, closeds, aSs_closed, aIs_closed, aBs_closed, aRs_closed, aDen_closed, aCs_closed, aAut_closed]) ?_; refine SW.of_vc ?_
    repeat first | refine opsStep ?_ | refine codeStep ?_ | refine drawStep ?_
    refine callP hu ?_
    repeat first | refine opsStep ?_ | refine codeStep ?_ | refine drawStep ?_
    exact finV (v' := .tup [.int .i64 0, .bool false, .int .i64 3]) (by kernel_rfl) rfl
  | true =>
    rw [unpE_zero.2 hc] at hu
    have hd := (unpD_right hc).1
    have hfin := count_finite (unpD a) hd (grD (unpD a)) rfl
    have htot := fun h => count_total (unpD a) hd (grD (unpD a)) rfl h
    have hft := finT_iff (grD (unpD a))
    have hv1 : finT (grD (unpD a)) = false → cntV a = .tup [.int .i64 0, .bool true, .int .i64 0] := fun h => by rw [cntV, if_pos hc, h, if_neg (by simp)]
    have hv2 : finT (grD (unpD a)) = true → cntV a = .tup [.int .i64 (if totN (grD (unpD a)) < 9223372036854775808 then (totN (grD (unpD a)) : Nat) else 0), .bool false, .int .i64 (if totN (grD (unpD a)) < 9223372036854775808 then 0 else 200)] := fun h => by rw [cntV, if_pos hc, if_pos h]
    generalize cntV a = V at *
    generalize unpD a = d at *
    have hmade := fun H X k => callMade hd (H := H) (X := X) k
    have hn := fun f => cn_rn d (liveL (grD d)) f
    have hml : ∀ f m, (Blk.cells m (mL (grD d).n)).rn f = .cells m (mL (grD d).n) := fun f m => by rw [Blk.rn, mL_rn]
    rw [cnH] at hfin
    have htot := fun h => by have := htot h; rw [kH_zero, cnH] at this; exact this
    have e0 : ∀ A0 D0, Ent (29 : Fr) (fr [(7, .ref 2 0 0)]) [A0, D0, cnB d (liveL (grD d)) 3, .cells (grD d).n (mL (grD d).n)] (fr [(7, .ref 0 0 0)]) [cnC d (.sl .any (grD d).n ((liveL (grD d)).map .bool)) (.hs 1 (grD d).n 0 (grD d).n 1), .cells (grD d).n (mL (grD d).n)] := fun A0 D0 => by
      refine Ent.pick [2, 3] (by decide) (by intro b hb; simp at hb; show b < 4; omega) (fun b hb => absurd hb (Nat.not_lt_zero _)) _ _ rfl (frOk_rn ⟨rfl, trivial⟩) ?_ (by simp [frBel, AV.bel]) ?_
      · intro i x b h1 h2
        match i, h2 with
        | 0, h2 => cases h1; cases h2; rw [hn]; rfl
        | 1, h2 => cases h1; cases h2; rw [hml]; rfl
        | i + 2, h2 => simp at h2
      · rw [cnC]
        simp [blksBel, Blk.bel, bels_append, cells_bel, yL_bel, mL_bel, bels, AV.bel, bels_map]
    refine Pure.of_sw 29 Try.func13 rfl Try.ntmps13 (by kernel_rfl) (Nat.le_of_ble_eq_true (by kernel_rfl)) (by simp [closeds, aAut_closed]) hcl ?_; refine SW.of_vc ?_
    repeat first | refine opsStep ?_ | refine codeStep ?_ | refine drawStep ?_
    refine callP hu ?_
    iterate 7 refine opsStep ?_
    refine VCode.ent (Ent.fr' (l := [(5, .ref 1 0 0), (6, .int .i64 0)]) (H' := [.cells 0 a.cells, .cells 0 d.cells]) ⟨(by kernel_rfl), (by kernel_rfl), trivial⟩ (by kernel_rfl)) ?_
    repeat first | refine opsStep ?_ | refine codeStep ?_ | refine drawStep ?_
    refine hmade _ _ ?_
    iterate 2 refine opsStep ?_
    refine VCode.ent ((Ent.fr' (l := [(7, .ref 2 0 0)]) (H' := [.cells 0 a.cells, .cells 0 d.cells, cnB d (liveL (grD d)) 3, .cells (grD d).n (mL (grD d).n)]) ⟨(by kernel_rfl), trivial⟩ (by kernel_rfl)).trans (e0 _ _)) ?_
    clear e0
    cases hf : finT (grD d) with
    | false =>
      rw [hf] at hfin
      have hv := hv1 hf
      repeat first | refine opsStep ?_ | refine codeStep ?_ | refine drawStep ?_
      refine callH hfin ?_
      repeat first | refine opsStep ?_ | refine codeStep ?_ | refine drawStep ?_
      exact finV (v' := .tup [.int .i64 0, .bool true, .int .i64 0]) (by kernel_rfl) (by rw [hv])
    | true =>
      have htot := htot (hft.1 hf)
      have hv := hv2 hf
      rw [hf] at hfin
      rw [totV] at htot
      repeat first | refine opsStep ?_ | refine codeStep ?_ | refine drawStep ?_
      refine callH hfin ?_
      repeat first | refine opsStep ?_ | refine codeStep ?_ | refine drawStep ?_
      refine callA htot ?_
      rintro _ H' rfl
      repeat first | refine opsStep ?_ | refine codeStep ?_ | refine drawStep ?_
      exact finV (v' := .tup [.int .i64 (if totN (grD d) < 9223372036854775808 then (totN (grD d) : Nat) else 0), .bool false, .int .i64 (if totN (grD d) < 9223372036854775808 then 0 else 200)]) (by kernel_rfl) (by rw [hv])

end Tab

/- tabardlaw20: two, fixed. -/
namespace Tab
open Go Go.Proofs
set_option maxRecDepth 10000
set_option linter.unusedVariables false
set_option linter.unusedSimpArgs false
set_option linter.unusedSectionVars false

theorem law20_two : Pure Try.prog 45 [] (aAut tbF) := by
  have hp := pk_F
  have e : aAut tbF = .agg [aSs tbF.tk tbF.tracks, aBs tbF.ak tbF.accept, aIs tbF.sk tbF.starts, aCs tbF.ck tbF.arena] := rfl
  have c1 := aSs_closed tbF.tk tbF.tracks
  have c2 := aBs_closed tbF.ak tbF.accept
  have c3 := aIs_closed tbF.sk tbF.starts
  have c4 := aCs_closed tbF.ck tbF.arena
  rw [e] at hp ⊢
  generalize aSs tbF.tk tbF.tracks = x1 at *
  generalize aBs tbF.ak tbF.accept = x2 at *
  generalize aIs tbF.sk tbF.starts = x3 at *
  generalize aCs tbF.ck tbF.arena = x4 at *
  refine Pure.of_sw 17 Try.func45 rfl Try.ntmps45 (by kernel_rfl) (Nat.le_of_ble_eq_true (by kernel_rfl)) (by simp [closeds, AV.closed]) (by simp [closeds, AV.closed, c1, c2, c3, c4]) ?_; refine SW.of_vc ?_
  repeat first | refine opsStep ?_ | refine codeStep ?_ | refine drawStep ?_
  refine optX_of (c := [.bool false, .bool false, .bool false, .bool false, .bool true]) (by kernel_rfl) ?_
  repeat first | refine opsStep ?_ | refine codeStep ?_ | refine drawStep ?_
  refine optX_of (c := [.int .i64 1, .int .i64 2]) (by kernel_rfl) ?_
  repeat first | refine opsStep ?_ | refine codeStep ?_ | refine drawStep ?_
  refine optX_of (c := [.int .i64 2, .int .i64 3]) (by kernel_rfl) ?_
  repeat first | refine opsStep ?_ | refine codeStep ?_ | refine drawStep ?_
  refine optX_of (c := [.int .i64 2, .int .i64 2]) (by kernel_rfl) ?_
  repeat first | refine opsStep ?_ | refine codeStep ?_ | refine drawStep ?_
  refine optX_of (c := [.int .i64 4, .int .i64 2]) (by kernel_rfl) ?_
  repeat first | refine opsStep ?_ | refine codeStep ?_ | refine drawStep ?_
  refine optX_of (c := [.int .i64 4, .int .i64 2]) (by kernel_rfl) ?_
  repeat first | refine opsStep ?_ | refine codeStep ?_ | refine drawStep ?_
  refine optX_of (c := [.hs 3 0 0 2 1, .hs 4 0 0 2 1, .hs 5 0 0 2 1, .hs 6 0 0 2 1, .hs 7 0 0 2 1]) (by kernel_rfl) ?_
  repeat first | refine opsStep ?_ | refine codeStep ?_ | refine drawStep ?_
  refine callF [1, 2, 3, 4, 5, 6, 7, 8] (hp.lend (H := [.cells 0 [.str [120]], .cells 0 [.bool false, .bool false, .bool false, .bool false, .bool true], .cells 0 [.int .i64 1, .int .i64 2], .cells 0 [.int .i64 2, .int .i64 3], .cells 0 [.int .i64 2, .int .i64 2], .cells 0 [.int .i64 4, .int .i64 2], .cells 0 [.int .i64 4, .int .i64 2], .cells 0 [.hs 2 0 0 2 1, .hs 3 0 0 2 1, .hs 4 0 0 2 1, .hs 5 0 0 2 1, .hs 6 0 0 2 1]]) («as» := [.agg [.hs 0 0 0 1 1, .hs 1 0 0 5 1, .hs 7 0 0 5 1]])
    (.cons (.agg (.cons (Rd.whole (g := 0) (by kernel_rfl) (by kernel_rfl)) (.cons (Rd.whole (g := 0) (by kernel_rfl) (by kernel_rfl)) (.cons (.hs (blk := .cells 0 [.hs 2 0 0 2 1, .hs 3 0 0 2 1, .hs 4 0 0 2 1, .hs 5 0 0 2 1, .hs 6 0 0 2 1]) (g := 0) (cs := [.hs 2 0 0 2 1, .hs 3 0 0 2 1, .hs 4 0 0 2 1, .hs 5 0 0 2 1, .hs 6 0 0 2 1]) (by kernel_rfl) (by kernel_rfl) (Nat.le_refl 5) (.cons (Rd.whole (g := 0) (by kernel_rfl) (by kernel_rfl)) (.cons (Rd.whole (g := 0) (by kernel_rfl) (by kernel_rfl)) (.cons (Rd.whole (g := 0) (by kernel_rfl) (by kernel_rfl)) (.cons (Rd.whole (g := 0) (by kernel_rfl) (by kernel_rfl)) (.cons (Rd.whole (g := 0) (by kernel_rfl) (by kernel_rfl)) .nil)))))) .nil)))) .nil)) (by decide) (by intro b hb; simp at hb; show b < 9; omega) rfl ?_ ?_ ?_ ?_ ?_
  · rfl
  · simp [bels, AV.bel]
  · simp [blksBel, Blk.bel, bels, AV.bel]
  · rfl
  · rintro o H' ⟨rfl, rfl⟩
    repeat first | refine opsStep ?_ | refine codeStep ?_ | refine drawStep ?_
    exact finV (v' := .agg [x1.rn (rnB [1, 2, 3, 4, 5, 6, 7, 8] 9), x2.rn (rnB [1, 2, 3, 4, 5, 6, 7, 8] 9), x3.rn (rnB [1, 2, 3, 4, 5, 6, 7, 8] 9), x4.rn (rnB [1, 2, 3, 4, 5, 6, 7, 8] 9)]) (by kernel_rfl) (by rw [AV.closed_rn _ c1, AV.closed_rn _ c2, AV.closed_rn _ c3, AV.closed_rn _ c4])

/-! ### What is counted there -/
theorem two_step : ∀ q a, q < 5 → a < 2 → 2 ≤ q → 2 ≤ (grD dF).st q a ∧ (grD dF).st q a < 5 := by
  have h : (List.range 5).all (fun q => (List.range 2).all fun a => decide (2 ≤ q → 2 ≤ (grD dF).st q a ∧ (grD dF).st q a < 5)) = true := by kernel_rfl
  intro q a hq ha h2
  have := of_decide_eq_true (List.all_eq_true.1 (List.all_eq_true.1 h q (List.mem_range.2 hq)) a (List.mem_range.2 ha))
  exact this h2
theorem two_words : ∀ (k q : Nat), 2 ≤ q → q < 5 → wordsN (grD dF) k q = 0
  | 0, q, h1, h2 => by
    have h : (List.range 5).all (fun q => decide (2 ≤ q → wordsN (grD dF) 0 q = 0)) = true := by kernel_rfl
    exact of_decide_eq_true (List.all_eq_true.1 h q (List.mem_range.2 h2)) h1
  | k + 1, q, h1, h2 => sumTo_zero fun a ha => by
    have ha : a < 2 := ha
    obtain ⟨h3, h4⟩ := two_step q a h2 ha h1
    exact two_words k _ h3 h4
theorem two_dead {q : Nat} (h1 : 2 ≤ q) (h2 : q < 5) : ¬ liveP (grD dF) q := fun ⟨k, hk⟩ => by rw [two_words k q h1 h2] at hk; omega
theorem two_edge : ∀ q a, q < 5 → a < 2 → (q = 0 ∧ (grD dF).st q a = 1) ∨ (2 ≤ (grD dF).st q a ∧ (grD dF).st q a < 5) := by
  have h : (List.range 5).all (fun q => (List.range 2).all fun a => decide ((q = 0 ∧ (grD dF).st q a = 1) ∨ (2 ≤ (grD dF).st q a ∧ (grD dF).st q a < 5))) = true := by kernel_rfl
  intro q a hq ha
  exact of_decide_eq_true (List.all_eq_true.1 (List.all_eq_true.1 h q (List.mem_range.2 hq)) a (List.mem_range.2 ha))
theorem two_fin : finT (grD dF) = true := by
  refine (finT_iff _).2 ⟨fun x => if x = 0 then 1 else 0, fun x hx y ⟨_, a, ha, hy⟩ hl => ?_⟩
  have hx5 : x < 5 := hx.lt (grD_ok dF_right)
  have ha : a < 2 := ha
  rcases two_edge x a hx5 ha with ⟨h1, h2⟩ | ⟨h1, h2⟩
  · rw [hy, h2, h1]; decide
  · rw [hy] at hl
    exact absurd hl (two_dead h1 h2)
theorem two_tot : totN (grD dF) = 1 := by kernel_rfl
theorem two_cnt : cntV tbF = .tup [.int .i64 1, .bool false, .int .i64 0] := by
  rw [cntV, if_pos tbF_check, tbF_den, if_pos two_fin, two_tot]; rfl
theorem two_finA : finA tbF = true := by rw [finA, tbF_check, tbF_den, two_fin]; rfl
theorem law20_fixed : Pure Try.prog 15 [] (.bool true) := by
  have h1 := law20_two
  have h2 := count_Count tbF tbF_ok
  have h3 := count_Finite tbF tbF_ok
  rw [two_cnt] at h2
  rw [two_finA, unpE_zero.2 tbF_check] at h3
  generalize tbF = b at *
  refine Pure.of_sw 36 Try.func15 rfl Try.ntmps15 (by kernel_rfl) (Nat.le_of_ble_eq_true (by kernel_rfl)) (by simp [closeds, AV.closed, aSs_closed, aIs_closed, aBs_closed, aRs_closed, aDen_closed]) (by simp [AV.closed, closeds, aSs_closed, aIs_closed, aBs_closed, aRs_closed, aDen_closed]) ?_; refine SW.of_vc ?_
  repeat first | refine opsStep ?_ | refine codeStep ?_ | refine drawStep ?_
  refine callP h1 ?_
  repeat first | refine opsStep ?_ | refine codeStep ?_ | refine drawStep ?_
  refine callP h2 ?_
  repeat first | refine opsStep ?_ | refine codeStep ?_ | refine drawStep ?_
  refine callP h1 ?_
  repeat first | refine opsStep ?_ | refine codeStep ?_ | refine drawStep ?_
  refine callP h3 ?_
  repeat first | refine opsStep ?_ | refine codeStep ?_ | refine drawStep ?_
  exact finB (b' := true) (by kernel_rfl) rfl

end Tab

/- count.Upto, as a value. -/
namespace Tab
open Go Go.Proofs
set_option maxRecDepth 10000
set_option linter.unusedVariables false
set_option linter.unusedSimpArgs false
set_option linter.unusedSectionVars false

def wk (g : Gr) : Nat → Nat → Nat
  | 0, _ => 0
  | k + 1, q => wordsN g k q
def mo (g : Gr) (k q a : Nat) : Nat := if k = 1 then endsN g (g.st q a) a else wk g (k - 1) (g.st q a)
theorem mo_sum (g : Gr) (k q : Nat) (hk : 1 ≤ k) : sumTo (mo g k q) g.K = wk g k q := by
  match k, hk with
  | 1, _ => rfl
  | k + 2, _ => rfl
theorem upto_step (g : Gr) (k : Nat) (hk : 1 ≤ k) : uptoN g k + wk g k 0 = uptoN g (k + 1) := by
  obtain ⟨k, rfl⟩ : ∃ k', k = k' + 1 := ⟨k - 1, by omega⟩
  show yesN g 0 + sumTo _ k + wordsN g k 0 = yesN g 0 + sumTo _ (k + 1)
  rw [sumTo]; omega
/-- A list of numbers that is being filled. -/
def nxF (n : Nat) (f : Nat → Nat) (q s : Nat) : List AV := (List.range n).map fun j => .int .i64 (capV (if j < q then f j else if j = q then s else 0))
theorem nxF_length (n f q s) : (nxF n f q s).length = n := by simp [nxF]
theorem nxF_get {n f q s} (h : q < n) : (nxF n f q s)[q]? = some (.int .i64 (capV s)) := by simp [nxF, h]
theorem nxF_old {n f j} (h : j < n) : (nxF n f n 0)[j]? = some (.int .i64 (capV (f j))) := by simp [nxF, h]
theorem nxF_set (n f q s s') : (nxF n f q s).set q (.int .i64 (capV s')) = nxF n f q s' := by
  refine List.ext_getElem (by simp [nxF]) fun j h1 h2 => ?_
  simp only [nxF, List.getElem_set, List.getElem_map, List.getElem_range]
  by_cases e : q = j
  · subst e; simp
  · rw [if_neg e]
    by_cases h : j < q
    · rw [if_pos h, if_pos h]
    · rw [if_neg h, if_neg h, if_neg (fun h => e h.symm), if_neg (fun h => e h.symm)]
theorem nxF_next (n f q) : nxF n f q (f q) = nxF n f (q + 1) 0 := by
  refine List.ext_getElem (by simp [nxF]) fun j h1 h2 => ?_
  simp only [nxF, List.getElem_map, List.getElem_range]
  by_cases h : j < q
  · rw [if_pos h, if_pos (by omega)]
  · rw [if_neg h]
    by_cases e : j = q
    · subst e; rw [if_pos rfl, if_pos (by omega)]
    · rw [if_neg e, if_neg (by omega)]; split <;> rfl
theorem nxF_zero (n f) : nxF n f 0 0 = List.replicate n (.int .i64 0) := by
  refine List.ext_getElem (by simp [nxF]) fun j h1 h2 => ?_
  simp [nxF, capV]
theorem nxF_wk0 (g : Gr) (n) : nxF n (wk g 0) n 0 = List.replicate n (.int .i64 0) := by
  refine List.ext_getElem (by simp [nxF]) fun j h1 h2 => ?_
  simp [nxF, wk, capV]
theorem nxF_bel (m n f q s) : bels m (nxF n f q s) := by rw [nxF, bels_map]; intro x _; trivial
theorem nxF_rn (F n f q s) : rns F (nxF n f q s) = nxF n f q s := closeds_rn _ (closeds_iff.2 fun a ha => by obtain ⟨x, _, rfl⟩ := List.mem_map.1 ha; simp only [AV.closed])

noncomputable def upV (a : Aut) (n : Int) : AV := if checkS a = true then (if 1 ≤ n ∧ n ≤ 64 then (if uptoN (grD (unpD a)) n.toNat < 9223372036854775808 then .tup [.int .i64 (uptoN (grD (unpD a)) n.toNat : Nat), .int .i64 0] else .tup [.int .i64 0, .int .i64 200]) else .tup [.int .i64 0, .int .i64 2]) else .tup [.int .i64 0, .int .i64 3]
theorem upV_closed (a n) : (upV a n).closed := by rw [upV]; split; split; split; all_goals simp [AV.closed, closeds]

set_option maxHeartbeats 2000000 in
theorem count_Upto (a : Aut) (ha : AutOk a) (n : Int) : Pure Try.prog 19 [aAut a, .int .i64 n] (upV a n) := by
  have hu := table_Unpack a ha
  have hcl := upV_closed a n
  cases hc : checkS a with
  | false =>
    have hv : upV a n = .tup [.int .i64 0, .int .i64 3] := by rw [upV, hc]; rfl
    rw [hv]
    rw [unpE_bad hc, unpD_bad hc] at hu
    refine Pure.of_sw 97 Try.func19 rfl Try.ntmps19 (by kernel_rfl) (Nat.le_of_ble_eq_true (by kernel_rfl)) (by simp [closeds, AV.closed, aSs_closed, aIs_closed, aBs_closed, aRs_closed, aDen_closed, aCs_closed, aAut_closed]) (by simp [AV.closed, closeds, aSs_closed, aIs_closed, aBs_closed, aRs_closed, aDen_closed, aCs_closed, aAut_closed]) ?_; refine SW.of_vc ?_
    repeat first | refine opsStep ?_ | refine codeStep ?_ | refine drawStep ?_
    refine callP hu ?_
    repeat first | refine opsStep ?_ | refine codeStep ?_ | refine drawStep ?_
    exact finV (v' := .tup [.int .i64 0, .int .i64 3]) (by kernel_rfl) rfl
  | true =>
    rw [unpE_zero.2 hc] at hu
    have hd := (unpD_right hc).1
    by_cases hn : 1 ≤ n ∧ n ≤ 64
    · obtain ⟨m, rfl⟩ : ∃ m : Nat, n = m := ⟨n.toNat, by omega⟩
      have hm1 : 1 ≤ m := by omega
      have hm2 : m ≤ 64 := by omega
      have hv1 : uptoN (grD (unpD a)) m < 9223372036854775808 → upV a m = .tup [.int .i64 (uptoN (grD (unpD a)) m : Nat), .int .i64 0] := fun h => by rw [upV, if_pos hc, if_pos hn, Int.toNat_natCast, if_pos h]
      have hv2 : ¬ uptoN (grD (unpD a)) m < 9223372036854775808 → upV a m = .tup [.int .i64 0, .int .i64 200] := fun h => by rw [upV, if_pos hc, if_pos hn, Int.toNat_natCast, if_neg h]
      generalize upV a m = V at *
      generalize unpD a = d at *
      have hmade := fun H X k => callMade hd (H := H) (X := X) k
      have hcn := fun f => cn_rn d (liveL (grD d)) f
      have hml : ∀ f m, (Blk.cells m (mL (grD d).n)).rn f = .cells m (mL (grD d).n) := fun f m => by rw [Blk.rn, mL_rn]
      have hends := fun q a hq ha X => count_ends d hd q a hq ha (.sl .any (grD d).n ((liveL (grD d)).map .bool)) (.hs 1 (grD d).n 0 (grD d).n 1) X
      have hrow := fun q hq => gr_row hd (q := q) hq
      have hgo := grD_ok hd
      have hnl : d.next.length = (grD d).n := (rightS_parts hd).2.1
      have hbig := hgo.big
      have hpos := hgo.pos
      have hlet := hgo.let'
      have hel : ∀ q a, endsN (grD d) q a < 9223372036854775808 := fun q a => by have := endsN_le (grD d) q a; have := yesTo_le (grD d) q (grD d).K; have e : yesN (grD d) q = yesTo (grD d) q (grD d).K := rfl; omega
      have hy0 : yesN (grD d) 0 < 9223372036854775808 := by have := yesTo_le (grD d) 0 (grD d).K; have e : yesN (grD d) 0 = yesTo (grD d) 0 (grD d).K := rfl; omega
      have e0 : ∀ A0, Ent (97 : Fr) (fr [(1, .int .i64 (m : Nat)), (6, .ref 1 0 0), (8, .ref 2 0 0)]) [A0, .cells 0 d.cells, cnB d (liveL (grD d)) 3, .cells (grD d).n (mL (grD d).n)] (fr [(1, .int .i64 (m : Nat)), (6, .ref 2 0 0), (8, .ref 0 0 0)])
          [cnC d (.sl .any (grD d).n ((liveL (grD d)).map .bool)) (.hs 1 (grD d).n 0 (grD d).n 1), .cells (grD d).n (mL (grD d).n), .cells 0 d.cells] := fun A0 => by
        refine Ent.pick [2, 3, 1] (by decide) (by intro b hb; simp at hb; show b < 4; omega) (fun b hb => absurd hb (Nat.not_lt_zero _)) _ _ rfl (frOk_rn ⟨rfl, rfl, rfl, trivial⟩) ?_ (by simp [frBel, AV.bel]) ?_
        · intro i x b h1 h2
          match i, h2 with
          | 0, h2 => cases h1; cases h2; rw [hcn]; rfl
          | 1, h2 => cases h1; cases h2; rw [hml]; rfl
          | 2, h2 => cases h1; cases h2; rw [Blk.rn, den_rn]; rfl
          | i + 3, h2 => simp at h2
        · rw [cnC]
          simp [blksBel, Blk.bel, bels_append, cells_bel, yL_bel, mL_bel, bels, AV.bel, bels_map]
      refine Pure.of_sw 97 Try.func19 rfl Try.ntmps19 (by kernel_rfl) (Nat.le_of_ble_eq_true (by kernel_rfl)) (by simp [closeds, aAut_closed, AV.closed]) hcl ?_; refine SW.of_vc ?_
      repeat first | refine opsStep ?_ | refine codeStep ?_ | refine drawStep ?_
      refine callP hu ?_
      iterate 7 refine opsStep ?_
      refine VCode.ent (Ent.fr' (l := [(1, .int .i64 (m : Nat)), (6, .ref 1 0 0), (7, .int .i64 0)]) (H' := [.cells 0 a.cells, .cells 0 d.cells]) ⟨(by kernel_rfl), (by kernel_rfl), (by kernel_rfl), trivial⟩ (by kernel_rfl)) ?_
      repeat first | refine opsStep ?_ | refine codeStep ?_ | refine drawStep ?_
      refine decB_false (b := decide ((m : Int) < 1)) (decide_eq_false (by omega)) ?_
      repeat first | refine opsStep ?_ | refine codeStep ?_ | refine drawStep ?_
      refine decB_false (b := decide ((m : Int) > 64)) (decide_eq_false (by omega)) ?_
      repeat first | refine opsStep ?_ | refine codeStep ?_ | refine drawStep ?_
      refine hmade _ _ ?_
      iterate 2 refine opsStep ?_
      refine VCode.ent ((Ent.fr' (l := [(1, .int .i64 (m : Nat)), (6, .ref 1 0 0), (8, .ref 2 0 0)]) (H' := [.cells 0 a.cells, .cells 0 d.cells, cnB d (liveL (grD d)) 3, .cells (grD d).n (mL (grD d).n)]) ⟨(by kernel_rfl), (by kernel_rfl), (by kernel_rfl), trivial⟩ (by kernel_rfl)).trans (e0 _)) ?_
      clear e0
      have hpick : ∀ (x y : AV) (W : Blk) (s : Nat) (f : Nat → Nat), x.closed → y.closed → Ent (97 : Fr) (fr [(1, .int .i64 (m : Nat)), (6, .ref 2 0 0), (8, .ref 0 0 0), (9, .hs 4 0 0 (grD d).n 1), (10, x), (11, y)]) [cnC d (.sl .any (grD d).n ((liveL (grD d)).map .bool)) (.hs 1 (grD d).n 0 (grD d).n 1), .cells (grD d).n (mL (grD d).n), .cells 0 d.cells, W, .cells 0 (nxF (grD d).n f (grD d).n 0)]
          (fr [(1, .int .i64 (m : Nat)), (6, .ref 2 0 0), (8, .ref 0 0 0), (9, .hs 3 0 0 (grD d).n 1), (10, x), (11, y)]) [cnC d (.sl .any (grD d).n ((liveL (grD d)).map .bool)) (.hs 1 (grD d).n 0 (grD d).n 1), .cells (grD d).n (mL (grD d).n), .cells 0 d.cells, .cells 0 (nxF (grD d).n f (grD d).n 0)] := fun x y W s f hx hy => by
        refine Ent.pick [0, 1, 2, 4] (by decide) (by intro b hb; simp at hb; show b < 5; omega) (fun b hb => absurd hb (Nat.not_lt_zero _)) _ _ rfl (frOk_rn ⟨rfl, rfl, rfl, rfl, (AV.closed_rn x hx).symm, (AV.closed_rn y hy).symm, trivial⟩) ?_ (by simp [frBel, AV.bel, AV.closed_bel _ hx, AV.closed_bel _ hy]) ?_
        · intro i z b h1 h2
          match i, h2 with
          | 0, h2 => cases h1; cases h2; rw [hcn]; rfl
          | 1, h2 => cases h1; cases h2; rw [hml]; rfl
          | 2, h2 => cases h1; cases h2; rw [Blk.rn, den_rn]; rfl
          | 3, h2 => cases h1; cases h2; rw [Blk.rn, nxF_rn]; rfl
          | i + 4, h2 => simp at h2
        · rw [cnC]
          simp [blksBel, Blk.bel, bels_append, cells_bel, yL_bel, mL_bel, bels, AV.bel, bels_map, nxF_bel]
      repeat first | refine opsStep ?_ | refine codeStep ?_ | refine drawStep ?_
      refine guardE_of ⟨by show 0 ≤ ((d.next.length : Nat) : Int); omega, Int.le_refl _, by show (8 : Int) * ((d.next.length : Nat) : Int) ≤ _; omega, by show ((d.next.length : Nat) : Int) ≤ _; omega⟩ ?_
      iterate 2 refine opsStep ?_
      refine VCode.ent (Ent.fr' (l := [(1, .int .i64 (m : Nat)), (6, .ref 2 0 0), (8, .ref 0 0 0), (9, .hs 3 0 0 (grD d).n 1)]) (H' := [cnC d (.sl .any (grD d).n ((liveL (grD d)).map .bool)) (.hs 1 (grD d).n 0 (grD d).n 1), .cells (grD d).n (mL (grD d).n), .cells 0 d.cells, .cells 0 (nxF (grD d).n (wk (grD d) (1 - 1)) (grD d).n 0)]) ⟨(by kernel_rfl), (by kernel_rfl), (by kernel_rfl), (Eq.trans (b := .hs 3 0 0 ((d.next.length : Nat) : Int).toNat 1) (by kernel_rfl) (by rw [hnl]; simp)), trivial⟩ (Eq.trans (b := [cnC d (.sl .any (grD d).n ((liveL (grD d)).map .bool)) (.hs 1 (grD d).n 0 (grD d).n 1), .cells (grD d).n (mL (grD d).n), .cells 0 d.cells, .cells 0 (reps [.int .i64 0] ((d.next.length : Nat) : Int).toNat)]) (by kernel_rfl) (by rw [reps_one, Nat.sub_self, nxF_wk0, hnl]; simp))) ?_
      repeat first | refine opsStep ?_ | refine codeStep ?_ | refine drawStep ?_
      refine guardE_of (by show (0 : Int) ≤ 0 ∧ (0 : Int) < (((grD d).n : Nat) : Int); omega) ?_
      repeat first | refine opsStep ?_ | refine codeStep ?_ | refine drawStep ?_
      refine optE_of (c := .int .i64 (yesN (grD d) 0 : Nat)) (yL_get hpos) ?_
      repeat first | refine opsStep ?_ | refine codeStep ?_ | refine drawStep ?_
      refine loopE_of (ι := {k : Nat // 1 ≤ k ∧ k ≤ m}) (fun k => (fr [(1, .int .i64 (m : Nat)), (6, .ref 2 0 0), (8, .ref 0 0 0), (9, .hs 3 0 0 (grD d).n 1), (10, .int .i64 (capV (uptoN (grD d) (k.1)))), (11, .int .i64 (k.1 : Nat))], [cnC d (.sl .any (grD d).n ((liveL (grD d)).map .bool)) (.hs 1 (grD d).n 0 (grD d).n 1), .cells (grD d).n (mL (grD d).n), .cells 0 d.cells, .cells 0 (nxF (grD d).n (wk (grD d) (k.1 - 1)) (grD d).n 0)])) (fun k => m - k.1) ⟨1, Nat.le_refl _, hm1⟩ (Ent.fr' ⟨(by kernel_rfl), (by kernel_rfl), (by kernel_rfl), (by kernel_rfl), (Eq.trans (b := .int .i64 (yesN (grD d) 0 : Nat)) (by kernel_rfl) (by rw [show uptoN (grD d) 1 = yesN (grD d) 0 from rfl, capV_fit hy0])), (by kernel_rfl), trivial⟩ (by kernel_rfl)) ?_
      rintro ⟨k, hk1, hkm⟩
      repeat first | refine opsStep ?_ | refine codeStep ?_ | refine drawStep ?_
      refine decB_dec (fun hkc => ?_) (fun hkc => ?_)
      · have hkl : k < m := by have := hkc; simp at this; omega
        repeat first | refine opsStep ?_ | refine codeStep ?_ | refine drawStep ?_
        refine guardE_of ⟨by show 0 ≤ (((grD d).n : Nat) : Int); omega, Int.le_refl _, by show (8 : Int) * (((grD d).n : Nat) : Int) ≤ _; omega, by show (((grD d).n : Nat) : Int) ≤ _; omega⟩ ?_
        iterate 2 refine opsStep ?_
        refine VCode.ent (Ent.fr' (l := [(1, .int .i64 (m : Nat)), (6, .ref 2 0 0), (8, .ref 0 0 0), (9, .hs 3 0 0 (grD d).n 1), (10, .int .i64 (capV (uptoN (grD d) (k)))), (11, .int .i64 (k : Nat)), (12, .hs 4 0 0 (grD d).n 1)]) (H' := [cnC d (.sl .any (grD d).n ((liveL (grD d)).map .bool)) (.hs 1 (grD d).n 0 (grD d).n 1), .cells (grD d).n (mL (grD d).n), .cells 0 d.cells, .cells 0 (nxF (grD d).n (wk (grD d) (k - 1)) (grD d).n 0), .cells 0 (nxF (grD d).n (wk (grD d) k) (0) (0))]) ⟨(by kernel_rfl), (by kernel_rfl), (by kernel_rfl), (by kernel_rfl), (by kernel_rfl), (by kernel_rfl), (by kernel_rfl), trivial⟩ (Eq.trans (b := [cnC d (.sl .any (grD d).n ((liveL (grD d)).map .bool)) (.hs 1 (grD d).n 0 (grD d).n 1), .cells (grD d).n (mL (grD d).n), .cells 0 d.cells, .cells 0 (nxF (grD d).n (wk (grD d) (k - 1)) (grD d).n 0), .cells 0 (reps [.int .i64 0] (((grD d).n : Nat) : Int).toNat)]) (by kernel_rfl) (by rw [reps_one, nxF_zero]; simp))) ?_
        repeat first | refine opsStep ?_ | refine codeStep ?_ | refine drawStep ?_
        refine loopE_of (ι := {q : Nat // q ≤ (grD d).n}) (fun q => (fr [(1, .int .i64 (m : Nat)), (6, .ref 2 0 0), (8, .ref 0 0 0), (9, .hs 3 0 0 (grD d).n 1), (10, .int .i64 (capV (uptoN (grD d) (k)))), (11, .int .i64 (k : Nat)), (12, .hs 4 0 0 (grD d).n 1), (53, aRs d.nk d.next), (54, .int .i64 ((grD d).n : Nat)), (55, .int .i64 (q.1 : Nat))], [cnC d (.sl .any (grD d).n ((liveL (grD d)).map .bool)) (.hs 1 (grD d).n 0 (grD d).n 1), .cells (grD d).n (mL (grD d).n), .cells 0 d.cells, .cells 0 (nxF (grD d).n (wk (grD d) (k - 1)) (grD d).n 0), .cells 0 (nxF (grD d).n (wk (grD d) k) (q.1) (0))])) (fun q => (grD d).n - q.1) ⟨0, Nat.zero_le _⟩ (Ent.fr' ⟨(by kernel_rfl), (by kernel_rfl), (by kernel_rfl), (by kernel_rfl), (by kernel_rfl), (by kernel_rfl), (by kernel_rfl), (by kernel_rfl), (Eq.trans (b := .int .i64 (d.next.length : Nat)) (by kernel_rfl) (by rw [hnl])), (by kernel_rfl), trivial⟩ (by kernel_rfl)) ?_
        rintro ⟨q, hq⟩
        repeat first | refine opsStep ?_ | refine codeStep ?_ | refine drawStep ?_
        refine decB_dec (fun hqc => ?_) (fun hqc => ?_)
        · have hql : q < (grD d).n := by have := hqc; simp at this; omega
          obtain ⟨r, g1, g2, g3, g4⟩ := hrow q hql
          have hmos := mo_sum (grD d) k q hk1
          have hnx := nxF_next (grD d).n (wk (grD d) k) q
          repeat first | refine opsStep ?_ | refine codeStep ?_ | refine drawStep ?_
          refine guardE_of (by simp; omega) ?_
          repeat first | refine opsStep ?_ | refine codeStep ?_ | refine drawStep ?_
          refine optE_of (c := aIs r.1 r.2) (by simp [Value.cells, g1]) ?_
          repeat first | refine opsStep ?_ | refine codeStep ?_ | refine drawStep ?_
          refine loopE_of (ι := {a : Nat // a ≤ (grD d).K}) (fun a => (fr [(1, .int .i64 (m : Nat)), (6, .ref 2 0 0), (8, .ref 0 0 0), (9, .hs 3 0 0 (grD d).n 1), (10, .int .i64 (capV (uptoN (grD d) (k)))), (11, .int .i64 (k : Nat)), (12, .hs 4 0 0 (grD d).n 1), (53, aRs d.nk d.next), (54, .int .i64 ((grD d).n : Nat)), (55, .int .i64 (q : Nat)), (13, .int .i64 (q : Nat)), (60, aIs r.1 r.2), (61, .int .i64 (r.2.length : Nat)), (62, .int .i64 (a.1 : Nat))], [cnC d (.sl .any (grD d).n ((liveL (grD d)).map .bool)) (.hs 1 (grD d).n 0 (grD d).n 1), .cells (grD d).n (mL (grD d).n), .cells 0 d.cells, .cells 0 (nxF (grD d).n (wk (grD d) (k - 1)) (grD d).n 0), .cells 0 (nxF (grD d).n (wk (grD d) k) (q) (sumTo (mo (grD d) k q) a.1))])) (fun a => (grD d).K - a.1) ⟨0, Nat.zero_le _⟩ (Ent.fr' ⟨(by kernel_rfl), (by kernel_rfl), (by kernel_rfl), (by kernel_rfl), (by kernel_rfl), (by kernel_rfl), (by kernel_rfl), (by kernel_rfl), (by kernel_rfl), (by kernel_rfl), (by kernel_rfl), (by kernel_rfl), (by kernel_rfl), (by kernel_rfl), trivial⟩ (by kernel_rfl)) ?_
          rintro ⟨a, ha⟩
          repeat first | refine opsStep ?_ | refine codeStep ?_ | refine drawStep ?_
          refine decB_dec (fun hac => ?_) (fun hac => ?_)
          · have hal : a < (grD d).K := by have := hac; simp at this; omega
            obtain ⟨g5, g6⟩ := g4 a hal
            have har : a < r.2.length := by omega
            have hen := hends _ a g6 hal [.cells (grD d).n (mL (grD d).n), .cells 0 d.cells, .cells 0 (nxF (grD d).n (wk (grD d) (k - 1)) (grD d).n 0), .cells 0 (nxF (grD d).n (wk (grD d) k) (q) (sumTo (mo (grD d) k q) a))]
            have hel := hel ((grD d).st q a) a
            have hold := nxF_old (f := wk (grD d) (k - 1)) g6
            have hmo1 : k = 1 → mo (grD d) k q a = endsN (grD d) ((grD d).st q a) a := fun h => if_pos h
            have hmo2 : k ≠ 1 → mo (grD d) k q a = wk (grD d) (k - 1) ((grD d).st q a) := fun h => if_neg h
            have hs1 : sumTo (mo (grD d) k q) (a + 1) = sumTo (mo (grD d) k q) a + mo (grD d) k q a := rfl
            obtain ⟨s, hs⟩ : ∃ s, sumTo (mo (grD d) k q) a = s := ⟨_, rfl⟩
            rw [hs] at hs1 hen
            obtain ⟨en, hene⟩ : ∃ en, endsN (grD d) ((grD d).st q a) a = en := ⟨_, rfl⟩
            rw [hene] at hen hel hmo1
            obtain ⟨wo, hwo⟩ : ∃ wo, wk (grD d) (k - 1) ((grD d).st q a) = wo := ⟨_, rfl⟩
            rw [hwo] at hold hmo2
            obtain ⟨to, hto⟩ : ∃ to, (grD d).st q a = to := ⟨_, rfl⟩
            rw [hto] at hen hold g5 g6
            refine VCode.ent (Ent.fr' (l := [(1, .int .i64 (m : Nat)), (6, .ref 2 0 0), (8, .ref 0 0 0), (9, .hs 3 0 0 (grD d).n 1), (10, .int .i64 (capV (uptoN (grD d) (k)))), (11, .int .i64 (k : Nat)), (12, .hs 4 0 0 (grD d).n 1), (53, aRs d.nk d.next), (54, .int .i64 ((grD d).n : Nat)), (55, .int .i64 (q : Nat)), (13, .int .i64 (q : Nat)), (60, aIs r.1 r.2), (61, .int .i64 (r.2.length : Nat)), (62, .int .i64 (a : Nat))]) (H' := [cnC d (.sl .any (grD d).n ((liveL (grD d)).map .bool)) (.hs 1 (grD d).n 0 (grD d).n 1), .cells (grD d).n (mL (grD d).n), .cells 0 d.cells, .cells 0 (nxF (grD d).n (wk (grD d) (k - 1)) (grD d).n 0), .cells 0 (nxF (grD d).n (wk (grD d) k) (q) (s))]) ⟨(by kernel_rfl), (by kernel_rfl), (by kernel_rfl), (by kernel_rfl), (by kernel_rfl), (by kernel_rfl), (by kernel_rfl), (by kernel_rfl), (by kernel_rfl), (by kernel_rfl), (by kernel_rfl), (by kernel_rfl), (by kernel_rfl), (by kernel_rfl), trivial⟩ (by rw [← hs]; rfl)) ?_
            repeat first | refine opsStep ?_ | refine codeStep ?_ | refine drawStep ?_
            refine guardE_of (by simp; omega) ?_
            repeat first | refine opsStep ?_ | refine codeStep ?_ | refine drawStep ?_
            refine optE_of (c := .int .i64 (to : Nat)) (by simp [Value.cells, g5]) ?_
            repeat first | refine opsStep ?_ | refine codeStep ?_ | refine drawStep ?_
            refine guardE_of (by simp; omega) ?_
            repeat first | refine opsStep ?_ | refine codeStep ?_ | refine drawStep ?_
            refine optE_of (c := .int .i64 (capV wo)) (by simpa [Value.cells] using hold) ?_
            repeat first | refine opsStep ?_ | refine codeStep ?_ | refine drawStep ?_
            refine decB_dec (fun hke => ?_) (fun hke => ?_)
            · have hke : k = 1 := by have h : ((k : Nat) : Int) = 1 := hke; omega
              have hmoa := hmo1 hke
              have hcap := count_capped s en
              rw [capV_fit hel] at hcap
              repeat first | refine opsStep ?_ | refine codeStep ?_ | refine drawStep ?_
              refine callH hen ?_
              repeat first | refine opsStep ?_ | refine codeStep ?_ | refine drawStep ?_
              refine guardE_of (by simp; omega) ?_
              repeat first | refine opsStep ?_ | refine codeStep ?_ | refine drawStep ?_
              refine optE_of (c := .int .i64 (capV s)) (by simpa [Value.cells] using nxF_get hql) ?_
              repeat first | refine opsStep ?_ | refine codeStep ?_ | refine drawStep ?_
              refine callP hcap ?_
              repeat first | refine opsStep ?_ | refine codeStep ?_ | refine drawStep ?_
              refine guardE_of (by simp; omega) ?_
              repeat first | refine opsStep ?_ | refine codeStep ?_ | refine drawStep ?_
              refine guardE_of ⟨rfl, by decide, by show 0 + q * 1 + 1 ≤ (nxF (grD d).n (wk (grD d) k) q s).length; rw [nxF_length]; omega⟩ ?_
              repeat first | refine opsStep ?_ | refine codeStep ?_ | refine drawStep ?_
              refine ⟨⟨a + 1, hal⟩, (by show (grD d).K - (a + 1) < (grD d).K - a; omega), Ent.fr' ⟨(by kernel_rfl), (by kernel_rfl), (by kernel_rfl), (by kernel_rfl), (by kernel_rfl), (by kernel_rfl), (by kernel_rfl), (by kernel_rfl), (by kernel_rfl), (by kernel_rfl), (by kernel_rfl), (by kernel_rfl), (by kernel_rfl), inc_slot (i := a) (by omega), trivial⟩ ?_⟩
              refine Eq.trans (b := [cnC d (.sl .any (grD d).n ((liveL (grD d)).map .bool)) (.hs 1 (grD d).n 0 (grD d).n 1), .cells (grD d).n (mL (grD d).n), .cells 0 d.cells, .cells 0 (nxF (grD d).n (wk (grD d) (k - 1)) (grD d).n 0), .cells 0 (over (nxF (grD d).n (wk (grD d) k) q s) (0 + q * 1) [.int .i64 (capV (s + en))])]) (by kernel_rfl) ?_
              rw [Nat.zero_add, Nat.mul_one, over_one (by rw [nxF_length]; omega), nxF_set, ← hmoa, ← hs1]
            · have hke : k ≠ 1 := fun h => hke (show ((k : Nat) : Int) = 1 by omega)
              have hmoa := hmo2 hke
              have hcap := count_capped s wo
              repeat first | refine opsStep ?_ | refine codeStep ?_ | refine drawStep ?_
              refine guardE_of (by simp; omega) ?_
              repeat first | refine opsStep ?_ | refine codeStep ?_ | refine drawStep ?_
              refine optE_of (c := .int .i64 (capV s)) (by simpa [Value.cells] using nxF_get hql) ?_
              repeat first | refine opsStep ?_ | refine codeStep ?_ | refine drawStep ?_
              refine callP hcap ?_
              repeat first | refine opsStep ?_ | refine codeStep ?_ | refine drawStep ?_
              refine guardE_of (by simp; omega) ?_
              repeat first | refine opsStep ?_ | refine codeStep ?_ | refine drawStep ?_
              refine guardE_of ⟨rfl, by decide, by show 0 + q * 1 + 1 ≤ (nxF (grD d).n (wk (grD d) k) q s).length; rw [nxF_length]; omega⟩ ?_
              repeat first | refine opsStep ?_ | refine codeStep ?_ | refine drawStep ?_
              refine ⟨⟨a + 1, hal⟩, (by show (grD d).K - (a + 1) < (grD d).K - a; omega), Ent.fr' ⟨(by kernel_rfl), (by kernel_rfl), (by kernel_rfl), (by kernel_rfl), (by kernel_rfl), (by kernel_rfl), (by kernel_rfl), (by kernel_rfl), (by kernel_rfl), (by kernel_rfl), (by kernel_rfl), (by kernel_rfl), (by kernel_rfl), inc_slot (i := a) (by omega), trivial⟩ ?_⟩
              refine Eq.trans (b := [cnC d (.sl .any (grD d).n ((liveL (grD d)).map .bool)) (.hs 1 (grD d).n 0 (grD d).n 1), .cells (grD d).n (mL (grD d).n), .cells 0 d.cells, .cells 0 (nxF (grD d).n (wk (grD d) (k - 1)) (grD d).n 0), .cells 0 (over (nxF (grD d).n (wk (grD d) k) q s) (0 + q * 1) [.int .i64 (capV (s + wo))])]) (by kernel_rfl) ?_
              rw [Nat.zero_add, Nat.mul_one, over_one (by rw [nxF_length]; omega), nxF_set, ← hmoa, ← hs1]
          · have hae : a = (grD d).K := by have := hac; simp at this; omega
            subst hae
            repeat first | refine opsStep ?_ | refine codeStep ?_ | refine drawStep ?_
            refine ⟨⟨q + 1, hql⟩, (by show (grD d).n - (q + 1) < (grD d).n - q; omega), Ent.fr' ⟨(by kernel_rfl), (by kernel_rfl), (by kernel_rfl), (by kernel_rfl), (by kernel_rfl), (by kernel_rfl), (by kernel_rfl), (by kernel_rfl), (by kernel_rfl), inc_slot (i := q) (by omega), trivial⟩ ?_⟩
            refine Eq.trans (b := [cnC d (.sl .any (grD d).n ((liveL (grD d)).map .bool)) (.hs 1 (grD d).n 0 (grD d).n 1), .cells (grD d).n (mL (grD d).n), .cells 0 d.cells, .cells 0 (nxF (grD d).n (wk (grD d) (k - 1)) (grD d).n 0), .cells 0 (nxF (grD d).n (wk (grD d) k) (q) (sumTo (mo (grD d) k q) (grD d).K))]) (by kernel_rfl) ?_
            rw [hmos, hnx]
        · have hqe : q = (grD d).n := by have := hqc; simp at this; omega
          subst hqe
          have hcap := count_capped (uptoN (grD d) k) (wk (grD d) k 0)
          rw [upto_step (grD d) k hk1] at hcap
          have hg0 := nxF_old (n := (grD d).n) (f := wk (grD d) k) hpos
          repeat first | refine opsStep ?_ | refine codeStep ?_ | refine drawStep ?_
          refine guardE_of (by show (0 : Int) ≤ 0 ∧ (0 : Int) < (((grD d).n : Nat) : Int); omega) ?_
          repeat first | refine opsStep ?_ | refine codeStep ?_ | refine drawStep ?_
          refine optE_of (c := .int .i64 (capV (wk (grD d) k 0))) (by simpa [Value.cells] using hg0) ?_
          repeat first | refine opsStep ?_ | refine codeStep ?_ | refine drawStep ?_
          refine callP hcap ?_
          repeat first | refine opsStep ?_ | refine codeStep ?_ | refine drawStep ?_
          refine ⟨⟨k + 1, by omega, hkl⟩, (by show m - (k + 1) < m - k; omega), ?_⟩
          exact (Ent.fr' (l := [(1, .int .i64 (m : Nat)), (6, .ref 2 0 0), (8, .ref 0 0 0), (9, .hs 4 0 0 (grD d).n 1), (10, .int .i64 (capV (uptoN (grD d) (k + 1)))), (11, .int .i64 (k + 1 : Nat))]) (H' := [cnC d (.sl .any (grD d).n ((liveL (grD d)).map .bool)) (.hs 1 (grD d).n 0 (grD d).n 1), .cells (grD d).n (mL (grD d).n), .cells 0 d.cells, .cells 0 (nxF (grD d).n (wk (grD d) (k - 1)) (grD d).n 0), .cells 0 (nxF (grD d).n (wk (grD d) k) ((grD d).n) (0))]) ⟨(by kernel_rfl), (by kernel_rfl), (by kernel_rfl), (by kernel_rfl), (by kernel_rfl), inc_slot (i := k) (by omega), trivial⟩ (by kernel_rfl)).trans (hpick _ _ _ 0 _ trivial trivial)
      · have hke : k = m := by have := hkc; simp at this; omega
        subst hke
        repeat first | refine opsStep ?_ | refine codeStep ?_ | refine drawStep ?_
        by_cases hfit : uptoN (grD d) k < 9223372036854775808
        · refine decB_false (b := decide (capV (uptoN (grD d) k) < 0)) (by rw [capV_fit hfit]; exact decide_eq_false (by omega)) ?_
          repeat first | refine opsStep ?_ | refine codeStep ?_ | refine drawStep ?_
          exact finV (v' := .tup [.int .i64 (capV (uptoN (grD d) k)), .int .i64 0]) (by kernel_rfl) (by rw [hv1 hfit, capV_fit hfit])
        · refine decB_true (b := decide (capV (uptoN (grD d) k) < 0)) (by rw [capV_wide hfit]; rfl) ?_
          repeat first | refine opsStep ?_ | refine codeStep ?_ | refine drawStep ?_
          exact finV (v' := .tup [.int .i64 0, .int .i64 200]) (by kernel_rfl) (by rw [hv2 hfit])
    · have hv : upV a n = .tup [.int .i64 0, .int .i64 2] := by rw [upV, if_pos hc, if_neg hn]
      rw [hv]
      generalize unpD a = d at *
      refine Pure.of_sw 97 Try.func19 rfl Try.ntmps19 (by kernel_rfl) (Nat.le_of_ble_eq_true (by kernel_rfl)) (by simp [closeds, AV.closed, aSs_closed, aIs_closed, aBs_closed, aRs_closed, aDen_closed, aCs_closed, aAut_closed]) (by simp [AV.closed, closeds, aSs_closed, aIs_closed, aBs_closed, aRs_closed, aDen_closed, aCs_closed, aAut_closed]) ?_; refine SW.of_vc ?_
      repeat first | refine opsStep ?_ | refine codeStep ?_ | refine drawStep ?_
      refine callP hu ?_
      repeat first | refine opsStep ?_ | refine codeStep ?_ | refine drawStep ?_
      by_cases h1 : n < 1
      · refine decB_true (b := decide (n < 1)) (decide_eq_true h1) ?_
        repeat first | refine opsStep ?_ | refine codeStep ?_ | refine drawStep ?_
        exact finV (v' := .tup [.int .i64 0, .int .i64 2]) (by kernel_rfl) rfl
      · refine decB_false (b := decide (n < 1)) (decide_eq_false h1) ?_
        repeat first | refine opsStep ?_ | refine codeStep ?_ | refine drawStep ?_
        refine decB_true (b := decide (n > 64)) (decide_eq_true (by omega)) ?_
        repeat first | refine opsStep ?_ | refine codeStep ?_ | refine drawStep ?_
        exact finV (v' := .tup [.int .i64 0, .int .i64 2]) (by kernel_rfl) rfl

end Tab

/- Layer 20: the law CountRises. -/
namespace Tab
open Go Go.Proofs
set_option maxRecDepth 10000
set_option linter.unusedVariables false
set_option linter.unusedSimpArgs false
set_option linter.unusedSectionVars false

theorem copyA_cnt (a : Aut) : cntV (copyA a) = cntV a := by rw [cntV, cntV, copyA_check, (copyA_unp a).1]
theorem copyA_upV (a : Aut) (n : Int) : upV (copyA a) n = upV a n := by rw [upV, upV, copyA_check, (copyA_unp a).1]
theorem copyA_fin (a : Aut) : finA (copyA a) = finA a := by rw [finA, finA, copyA_check, (copyA_unp a).1]
theorem upV_fit {a : Aut} (hc : checkS a = true) {n : Nat} (h1 : 1 ≤ n) (h2 : n ≤ 64) (h : uptoN (grD (unpD a)) n < 9223372036854775808) : upV a n = .tup [.int .i64 (uptoN (grD (unpD a)) n : Nat), .int .i64 0] := by
  rw [upV, if_pos hc, if_pos (by omega), Int.toNat_natCast, if_pos h]
theorem upV_wide {a : Aut} (hc : checkS a = true) {n : Nat} (h1 : 1 ≤ n) (h2 : n ≤ 64) (h : ¬ uptoN (grD (unpD a)) n < 9223372036854775808) : upV a n = .tup [.int .i64 0, .int .i64 200] := by
  rw [upV, if_pos hc, if_pos (by omega), Int.toNat_natCast, if_neg h]
theorem upV_bad {a : Aut} (hc : checkS a = false) (n : Int) : upV a n = .tup [.int .i64 0, .int .i64 3] := by rw [upV, hc]; rfl
theorem cntV_inf {a : Aut} (hc : checkS a = true) (h : finT (grD (unpD a)) = false) : cntV a = .tup [.int .i64 0, .bool true, .int .i64 0] := by rw [cntV, if_pos hc, h, if_neg (by simp)]
theorem cntV_fit {a : Aut} (hc : checkS a = true) (h : finT (grD (unpD a)) = true) (h2 : totN (grD (unpD a)) < 9223372036854775808) : cntV a = .tup [.int .i64 (totN (grD (unpD a)) : Nat), .bool false, .int .i64 0] := by rw [cntV, if_pos hc, if_pos h, if_pos h2, if_pos h2]
theorem cntV_wide {a : Aut} (hc : checkS a = true) (h : finT (grD (unpD a)) = true) (h2 : ¬ totN (grD (unpD a)) < 9223372036854775808) : cntV a = .tup [.int .i64 0, .bool false, .int .i64 200] := by rw [cntV, if_pos hc, if_pos h, if_neg h2, if_neg h2]
theorem cntV_bad {a : Aut} (hc : checkS a = false) : cntV a = .tup [.int .i64 0, .bool false, .int .i64 3] := by rw [cntV, hc]; rfl

set_option maxHeartbeats 1000000 in
theorem law_CountRises (a : Aut) (ha : AutOk a) : Pure Try.prog 5 [aAut a] (.bool true) := by
  have hcp := r12_Copy a ha
  have hup := fun n : Int => count_Upto (copyA a) (copyA_ok ha) n
  have hct := count_Count (copyA a) (copyA_ok ha)
  simp only [copyA_upV] at hup
  rw [copyA_cnt] at hct
  cases hc : checkS a with
  | false =>
    simp only [upV_bad hc] at hup
    have hup := hup 1
    clear hct
    generalize copyA a = b at *
    refine Pure.of_sw 91 Try.func5 rfl Try.ntmps5 (by kernel_rfl) (Nat.le_of_ble_eq_true (by kernel_rfl)) (by simp [closeds, AV.closed, aSs_closed, aIs_closed, aBs_closed, aRs_closed, aDen_closed, aCs_closed, aAut_closed]) (by simp [AV.closed, closeds, aSs_closed, aIs_closed, aBs_closed, aRs_closed, aDen_closed, aCs_closed, aAut_closed]) ?_; refine SW.of_vc ?_
    repeat first | refine opsStep ?_ | refine codeStep ?_ | refine drawStep ?_
    refine callP law20_fixed ?_
    repeat first | refine opsStep ?_ | refine codeStep ?_ | refine drawStep ?_
    refine loopE_of (ι := Unit) (fun _ => (fr [(1, .ref 0 0 0), (4, .int .i64 1)], [.cells 0 a.cells])) (fun _ => 0) () (Ent.fr' ⟨(by kernel_rfl), (by kernel_rfl), trivial⟩ (by kernel_rfl)) ?_
    rintro ⟨⟩
    repeat first | refine opsStep ?_ | refine codeStep ?_ | refine drawStep ?_
    refine callP hcp ?_
    repeat first | refine opsStep ?_ | refine codeStep ?_ | refine drawStep ?_
    refine callP hup ?_
    repeat first | refine opsStep ?_ | refine codeStep ?_ | refine drawStep ?_
    exact finB (b' := true) (by kernel_rfl) rfl
  | true =>
    have hd := (unpD_right hc).1
    have hacc := (unpD_right hc).2.2
    have hgo := grD_ok hd
    have hn : (grD (unpD a)).n = a.accept.length := by show (unpD a).accept.length = _; rw [hacc]
    have h1 := fun n h1 h2 h => upV_fit hc (n := n) h1 h2 h
    have h2 := fun n h1 h2 h => upV_wide hc (n := n) h1 h2 h
    have h3 := cntV_inf hc
    have h4 := cntV_fit hc
    have h5 := cntV_wide hc
    have hmono := fun m n h => upto_mono (g := grD (unpD a)) (m := m) (n := n) h
    have htu := fun hf n => tot_upto hgo ((finT_iff _).1 hf) n
    have hte := fun hf n h => tot_eq hgo ((finT_iff _).1 hf) (n := n) h
    generalize copyA a = b at *
    generalize uptoN (grD (unpD a)) = U at *
    generalize totN (grD (unpD a)) = T at *
    generalize finT (grD (unpD a)) = F at *
    rw [hn] at hte
    generalize hV : cntV a = V at *
    clear hgo hn hd hacc hV
    refine Pure.of_sw 91 Try.func5 rfl Try.ntmps5 (by kernel_rfl) (Nat.le_of_ble_eq_true (by kernel_rfl)) (by simp [closeds, AV.closed, aSs_closed, aIs_closed, aBs_closed, aRs_closed, aDen_closed, aCs_closed, aAut_closed]) (by simp [AV.closed, closeds, aSs_closed, aIs_closed, aBs_closed, aRs_closed, aDen_closed, aCs_closed, aAut_closed]) ?_; refine SW.of_vc ?_
    repeat first | refine opsStep ?_ | refine codeStep ?_ | refine drawStep ?_
    refine callP law20_fixed ?_
    repeat first | refine opsStep ?_ | refine codeStep ?_ | refine drawStep ?_
    refine loopE_of (ι := {x : Nat × Nat // 1 ≤ x.1 ∧ x.1 ≤ 65 ∧ x.2 ≤ U x.1 ∧ (x.1 = 65 → x.2 = U 64 ∧ U 64 < 9223372036854775808)}) (fun x => (fr [(1, .ref 0 0 0), (3, .int .i64 (x.1.2 : Nat)), (4, .int .i64 (x.1.1 : Nat))], [.cells 0 a.cells])) (fun x => 65 - x.1.1)
      ⟨(1, 0), Nat.le_refl _, by decide, Nat.zero_le _, fun h => by simp at h⟩ (Ent.fr' ⟨(by kernel_rfl), (by kernel_rfl), (by kernel_rfl), trivial⟩ (by kernel_rfl)) ?_
    rintro ⟨⟨n, last⟩, hn1, hn2, hl1, hl2⟩
    simp only at hn1 hn2 hl1 hl2
    repeat first | refine opsStep ?_ | refine codeStep ?_ | refine drawStep ?_
    refine decB_dec (fun hnc => ?_) (fun hnc => ?_)
    · have hn64 : n ≤ 64 := by have h : ((n : Nat) : Int) ≤ 64 := hnc; omega
      by_cases hfit : U n < 9223372036854775808
      · have hup := hup n
        rw [h1 n hn1 hn64 hfit] at hup
        obtain ⟨u, hu⟩ : ∃ u, U n = u := ⟨_, rfl⟩
        have hm := hmono n (n + 1) (by omega)
        rw [hu] at hup hl1 hfit hm
        repeat first | refine opsStep ?_ | refine codeStep ?_ | refine drawStep ?_
        refine callP hcp ?_
        repeat first | refine opsStep ?_ | refine codeStep ?_ | refine drawStep ?_
        refine callP hup ?_
        repeat first | refine opsStep ?_ | refine codeStep ?_ | refine drawStep ?_
        refine decB_false (b := decide (((u : Nat) : Int) < ((last : Nat) : Int))) (decide_eq_false (by omega)) ?_
        repeat first | refine opsStep ?_ | refine codeStep ?_ | refine drawStep ?_
        exact ⟨⟨(n + 1, u), by simp only; omega, by simp only; omega, hm, fun h => by
          have : n = 64 := by simp only at h; omega
          subst this
          exact ⟨hu.symm, by rw [hu]; exact hfit⟩⟩, (by show 65 - (n + 1) < 65 - n; omega), Ent.fr' ⟨(by kernel_rfl), (by kernel_rfl), inc_slot (i := n) (by omega), trivial⟩ (by kernel_rfl)⟩
      · have hup := hup n
        rw [h2 n hn1 hn64 hfit] at hup
        cases F with
        | false =>
          rw [h3 rfl] at hct
          repeat first | refine opsStep ?_ | refine codeStep ?_ | refine drawStep ?_
          refine callP hcp ?_
          repeat first | refine opsStep ?_ | refine codeStep ?_ | refine drawStep ?_
          refine callP hup ?_
          repeat first | refine opsStep ?_ | refine codeStep ?_ | refine drawStep ?_
          refine callP hcp ?_
          repeat first | refine opsStep ?_ | refine codeStep ?_ | refine drawStep ?_
          refine callP hct ?_
          repeat first | refine opsStep ?_ | refine codeStep ?_ | refine drawStep ?_
          exact finB (b' := true) (by kernel_rfl) rfl
        | true =>
          rw [h5 rfl (by have := htu rfl n; omega)] at hct
          repeat first | refine opsStep ?_ | refine codeStep ?_ | refine drawStep ?_
          refine callP hcp ?_
          repeat first | refine opsStep ?_ | refine codeStep ?_ | refine drawStep ?_
          refine callP hup ?_
          repeat first | refine opsStep ?_ | refine codeStep ?_ | refine drawStep ?_
          refine callP hcp ?_
          repeat first | refine opsStep ?_ | refine codeStep ?_ | refine drawStep ?_
          refine callP hct ?_
          repeat first | refine opsStep ?_ | refine codeStep ?_ | refine drawStep ?_
          exact finB (b' := true) (by kernel_rfl) rfl
    · have hn65 : n = 65 := by have h : ¬ ((n : Nat) : Int) ≤ 64 := hnc; omega
      obtain ⟨rfl, hfit⟩ := hl2 hn65
      have hte := fun hf => hte hf 64
      obtain ⟨u, hu⟩ : ∃ u, U 64 = u := ⟨_, rfl⟩
      rw [hu] at hfit hte
      cases F with
      | false =>
        rw [h3 rfl] at hct
        repeat first | refine opsStep ?_ | refine codeStep ?_ | refine drawStep ?_
        refine callP hcp ?_
        repeat first | refine opsStep ?_ | refine codeStep ?_ | refine drawStep ?_
        refine callP hct ?_
        repeat first | refine opsStep ?_ | refine codeStep ?_ | refine drawStep ?_
        refine decB_dec (fun hlen => ?_) (fun hlen => ?_)
        · repeat first | refine opsStep ?_ | refine codeStep ?_ | refine drawStep ?_
          exact finB (b' := true) (by kernel_rfl) rfl
        · repeat first | refine opsStep ?_ | refine codeStep ?_ | refine drawStep ?_
          exact finB (b' := true) (by kernel_rfl) rfl
      | true =>
        by_cases hlen : a.accept.length ≤ 62
        · have hT := hte rfl (by omega)
          rw [h4 rfl (by rw [← hT]; exact hfit), ← hT] at hct
          repeat first | refine opsStep ?_ | refine codeStep ?_ | refine drawStep ?_
          refine callP hcp ?_
          repeat first | refine opsStep ?_ | refine codeStep ?_ | refine drawStep ?_
          refine callP hct ?_
          repeat first | refine opsStep ?_ | refine codeStep ?_ | refine drawStep ?_
          refine decB_false (b := decide (((a.accept.length : Nat) : Int) > 62)) (decide_eq_false (by omega)) ?_
          repeat first | refine opsStep ?_ | refine codeStep ?_ | refine drawStep ?_
          exact finB (b' := decide (((u : Nat) : Int) = ((U 64 : Nat) : Int))) (by kernel_rfl) (by rw [hu]; simp)
        · by_cases hT : T < 9223372036854775808
          · rw [h4 rfl hT] at hct
            repeat first | refine opsStep ?_ | refine codeStep ?_ | refine drawStep ?_
            refine callP hcp ?_
            repeat first | refine opsStep ?_ | refine codeStep ?_ | refine drawStep ?_
            refine callP hct ?_
            repeat first | refine opsStep ?_ | refine codeStep ?_ | refine drawStep ?_
            refine decB_true (b := decide (((a.accept.length : Nat) : Int) > 62)) (decide_eq_true (by omega)) ?_
            repeat first | refine opsStep ?_ | refine codeStep ?_ | refine drawStep ?_
            exact finB (b' := true) (by kernel_rfl) rfl
          · rw [h5 rfl hT] at hct
            repeat first | refine opsStep ?_ | refine codeStep ?_ | refine drawStep ?_
            refine callP hcp ?_
            repeat first | refine opsStep ?_ | refine codeStep ?_ | refine drawStep ?_
            refine callP hct ?_
            repeat first | refine opsStep ?_ | refine codeStep ?_ | refine drawStep ?_
            refine decB_true (b := decide (((a.accept.length : Nat) : Int) > 62)) (decide_eq_true (by omega)) ?_
            repeat first | refine opsStep ?_ | refine codeStep ?_ | refine drawStep ?_
            exact finB (b' := true) (by kernel_rfl) rfl

end Tab

/- The law CountLists. -/
namespace Tab
open Go Go.Proofs
set_option maxRecDepth 10000
set_option linter.unusedVariables false
set_option linter.unusedSimpArgs false
set_option linter.unusedSectionVars false

theorem wfW_upto (g : Gr) {n : Nat} (h : 1 ≤ n) : (wfW g n).length = uptoN g n := by
  obtain ⟨k, rfl⟩ : ∃ k, n = k + 1 := ⟨n - 1, by omega⟩
  exact wfW_len g k
theorem fw_len (g : Gr) : (fwL g).length = min 64 (uptoN g 64) := by rw [fwL, List.length_take, wfW_upto g (by decide)]
theorem fw_short (g : Gr) {n : Nat} (h1 : 1 ≤ n) (h2 : n ≤ 64) : ((fwL g).filter fun w => decide (w.length ≤ n)).length = min 64 (uptoN g n) := by
  obtain ⟨t, ht, hl⟩ := wfW_pre g h2
  rw [fwL, ht, List.take_append, List.filter_append, List.length_append]
  have e1 : ((wfW g n).take 64).filter (fun w => decide (w.length ≤ n)) = (wfW g n).take 64 := List.filter_eq_self.2 fun w hw => decide_eq_true (wfW_word g w (List.mem_of_mem_take hw))
  have e2 : (t.take (64 - (wfW g n).length)).filter (fun w => decide (w.length ≤ n)) = [] := by
    rw [List.filter_eq_nil_iff]
    intro w hw h
    have := hl w (List.mem_of_mem_take hw)
    have := of_decide_eq_true h
    omega
  rw [e1, e2, List.length_take, wfW_upto g h1, List.length_nil, Nat.add_zero]
theorem fw_all (g : Gr) {n : Nat} (h1 : 1 ≤ n) (h2 : n ≤ 64) (h : 64 ≤ uptoN g n) : ∀ w ∈ fwL g, w.length ≤ n := by
  obtain ⟨t, ht, hl⟩ := wfW_pre g h2
  intro w hw
  rw [fwL, ht, List.take_append_of_le_length (by rw [wfW_upto g h1]; exact h)] at hw
  exact wfW_word g w (List.mem_of_mem_take hw)
/-- The number of letters that is asked. -/
def clN (n : Int) : Nat := 1 + (Int.tmod (IntKind.wrap .u64 n) 64).toNat
theorem clN_ok (n : Int) : 1 ≤ clN n ∧ clN n ≤ 64 ∧ IntKind.wrap .i64 (1 + IntKind.wrap .i64 (Int.tmod (IntKind.wrap .u64 n) 64)) = (clN n : Int) := by
  have h0 : 0 ≤ IntKind.wrap .u64 n := by
    show 0 ≤ n % 2 ^ 64
    exact Int.emod_nonneg _ (by decide)
  have h1 : 0 ≤ Int.tmod (IntKind.wrap .u64 n) 64 := Int.tmod_nonneg 64 h0
  have h2 : Int.tmod (IntKind.wrap .u64 n) 64 < 64 := Int.tmod_lt_of_pos _ (by decide)
  rw [clN]
  generalize Int.tmod (IntKind.wrap .u64 n) 64 = r at *
  have e1 : IntKind.wrap .i64 r = r := IntWalk.i64_in _ (by omega)
  rw [e1, IntWalk.i64_in _ (by omega)]
  omega
/-- How many of the first words are short. -/
def shN (W : List (List Int)) (N i : Nat) : Nat := ((W.take i).filter fun w => decide (w.length ≤ N)).length
theorem shN_succ {W : List (List Int)} {N i : Nat} (h : i < W.length) : shN W N (i + 1) = shN W N i + (if W[i].length ≤ N then 1 else 0) := by
  rw [shN, List.take_succ_eq_append_getElem h, List.filter_append, List.length_append, shN]
  by_cases e : W[i].length ≤ N
  · rw [if_pos e]; simp [e]
  · rw [if_neg e]; simp [e]
theorem shN_le (W N i) : shN W N i ≤ W.length := Nat.le_trans (List.length_filter_le _ _) (by rw [List.length_take]; omega)

theorem cl_bad (a b : Aut) (n : Int) (w z : AV) (hcp : Pure Try.prog 11 [aAut a] (aAut b)) (hf : Pure Try.prog 21 [aAut b, .int .i64 64] (.tup [.sl .nil 0 [], .int .i64 3]))
    (hu : Pure Try.prog 19 [aAut b, .int .i64 5] (.tup [.int .i64 0, .int .i64 3])) (hc : Pure Try.prog 13 [aAut b] (.tup [.int .i64 0, .bool false, .int .i64 3])) : Pure Try.prog 6 [aAut a, .int .i64 n] (.bool true) := by
  refine Pure.of_sw 187 Try.func6 rfl Try.ntmps6 (by kernel_rfl) (Nat.le_of_ble_eq_true (by kernel_rfl)) (by simp [closeds, AV.closed, aSs_closed, aIs_closed, aBs_closed, aRs_closed, aDen_closed, aCs_closed, aAut_closed]) (by simp [AV.closed, closeds, aSs_closed, aIs_closed, aBs_closed, aRs_closed, aDen_closed, aCs_closed, aAut_closed]) ?_; refine SW.of_vc ?_
  repeat first | refine opsStep ?_ | refine codeStep ?_ | refine drawStep ?_
  refine callP law20_fixed ?_
  repeat first | refine opsStep ?_ | refine codeStep ?_ | refine drawStep ?_
  refine callP hcp ?_
  repeat first | refine opsStep ?_ | refine codeStep ?_ | refine drawStep ?_
  refine callP hf ?_
  repeat first | refine opsStep ?_ | refine codeStep ?_ | refine drawStep ?_
  refine callP hcp ?_
  repeat first | refine opsStep ?_ | refine codeStep ?_ | refine drawStep ?_
  refine callP hu ?_
  repeat first | refine opsStep ?_ | refine codeStep ?_ | refine drawStep ?_
  refine callP hcp ?_
  repeat first | refine opsStep ?_ | refine codeStep ?_ | refine drawStep ?_
  refine callP hc ?_
  repeat first | refine opsStep ?_ | refine codeStep ?_ | refine drawStep ?_
  exact finB (b' := true) (by kernel_rfl) rfl
theorem cl_wide (a b : Aut) (n : Int) (W : List (List Int)) (hW : W.length = 64) (hcp : Pure Try.prog 11 [aAut a] (aAut b)) (hf : Pure Try.prog 21 [aAut b, .int .i64 64] (.tup [wsV W, .int .i64 0]))
    (hu : Pure Try.prog 19 [aAut b, .int .i64 (clN n : Nat)] (.tup [.int .i64 0, .int .i64 200])) : Pure Try.prog 6 [aAut a, .int .i64 n] (.bool true) := by
  obtain ⟨n1, n2, hN⟩ := clN_ok n
  generalize clN n = N at *
  rw [← hN] at hu
  refine Pure.of_sw 187 Try.func6 rfl Try.ntmps6 (by kernel_rfl) (Nat.le_of_ble_eq_true (by kernel_rfl)) (by simp [closeds, AV.closed, aSs_closed, aIs_closed, aBs_closed, aRs_closed, aDen_closed, aCs_closed, aAut_closed]) (by simp [AV.closed, closeds, aSs_closed, aIs_closed, aBs_closed, aRs_closed, aDen_closed, aCs_closed, aAut_closed]) ?_; refine SW.of_vc ?_
  repeat first | refine opsStep ?_ | refine codeStep ?_ | refine drawStep ?_
  refine callP law20_fixed ?_
  repeat first | refine opsStep ?_ | refine codeStep ?_ | refine drawStep ?_
  refine callP hcp ?_
  repeat first | refine opsStep ?_ | refine codeStep ?_ | refine drawStep ?_
  refine callP hf ?_
  repeat first | refine opsStep ?_ | refine codeStep ?_ | refine drawStep ?_
  refine callP hcp ?_
  repeat first | refine opsStep ?_ | refine codeStep ?_ | refine drawStep ?_
  refine callP hu ?_
  repeat first | refine opsStep ?_ | refine codeStep ?_ | refine drawStep ?_
  refine loopE_of (ι := {i : Nat // i ≤ W.length}) (fun i => (fr [(1, .int .i64 (N : Nat)), (2, .ref 0 0 0), (5, wsV W), (6, .int .i64 (200)), (12, .int .i64 (0)), (13, .int .i64 (shN W N i.1 : Nat)), (71, wsV W), (72, .int .i64 (W.length : Nat)), (73, .int .i64 (i.1 : Nat))], [.cells 0 a.cells])) (fun i => W.length - i.1) ⟨0, Nat.zero_le _⟩ ?_ ?_
  · exact Ent.fr' ⟨Eq.trans (b := AV.int .i64 (IntKind.wrap .i64 (1 + IntKind.wrap .i64 (Int.tmod (IntKind.wrap .u64 n) 64)))) (by kernel_rfl) (by rw [hN]), (by kernel_rfl), (by kernel_rfl), (by kernel_rfl), (by kernel_rfl), (by kernel_rfl), (by kernel_rfl), (by kernel_rfl), (by kernel_rfl), trivial⟩ (by kernel_rfl)
  rintro ⟨i, hi⟩
  repeat first | refine opsStep ?_ | refine codeStep ?_ | refine drawStep ?_
  refine decB_dec (fun hic => ?_) (fun hic => ?_)
  · have hil : i < W.length := by have := hic; simp at this; omega
    have hgi : (wM W)[i]? = some (aIs .any W[i]) := by simp [wM, hil]
    have hsu := shN_succ (N := N) hil
    have hsle := shN_le W N i
    have hwl : (wM W).length = W.length := wM_len W
    generalize W[i] = v at *
    have hs1 : IntKind.wrap .i64 ((shN W N i : Int) + 1) = ((shN W N i + 1 : Nat) : Int) := by rw [IntWalk.i64_in _ (by omega)]; omega
    by_cases hv : v.length ≤ N
    · rw [if_pos hv] at hsu
      repeat first | refine opsStep ?_ | refine codeStep ?_ | refine drawStep ?_
      refine guardE_of (by simp; omega) ?_
      repeat first | refine opsStep ?_ | refine codeStep ?_ | refine drawStep ?_
      refine optE_of (c := aIs .any v) (by simp [Value.cells, hgi]) ?_
      repeat first | refine opsStep ?_ | refine codeStep ?_ | refine drawStep ?_
      refine decB_true (b := decide ((v.length : Int) ≤ (N : Int))) (decide_eq_true (by omega)) ?_
      repeat first | refine opsStep ?_ | refine codeStep ?_ | refine drawStep ?_
      exact ⟨⟨i + 1, hil⟩, (by show W.length - (i + 1) < W.length - i; omega), Ent.fr' ⟨(by kernel_rfl), (by kernel_rfl), (by kernel_rfl), (by kernel_rfl), (by kernel_rfl), Eq.trans (b := AV.int .i64 (IntKind.wrap .i64 ((shN W N i : Int) + 1))) (by kernel_rfl) (by rw [hs1, hsu]), (by kernel_rfl), (by kernel_rfl), inc_slot (i := i) (by omega), trivial⟩ (by kernel_rfl)⟩
    · rw [if_neg hv] at hsu
      repeat first | refine opsStep ?_ | refine codeStep ?_ | refine drawStep ?_
      refine guardE_of (by simp; omega) ?_
      repeat first | refine opsStep ?_ | refine codeStep ?_ | refine drawStep ?_
      refine optE_of (c := aIs .any v) (by simp [Value.cells, hgi]) ?_
      repeat first | refine opsStep ?_ | refine codeStep ?_ | refine drawStep ?_
      refine decB_false (b := decide ((v.length : Int) ≤ (N : Int))) (decide_eq_false (by omega)) ?_
      repeat first | refine opsStep ?_ | refine codeStep ?_ | refine drawStep ?_
      exact ⟨⟨i + 1, hil⟩, (by show W.length - (i + 1) < W.length - i; omega), Ent.fr' ⟨(by kernel_rfl), (by kernel_rfl), (by kernel_rfl), (by kernel_rfl), (by kernel_rfl), Eq.trans (b := AV.int .i64 (shN W N i : Nat)) (by kernel_rfl) (by rw [hsu]; rfl), (by kernel_rfl), (by kernel_rfl), inc_slot (i := i) (by omega), trivial⟩ (by kernel_rfl)⟩
  · repeat first | refine opsStep ?_ | refine codeStep ?_ | refine drawStep ?_
    exact finB (b' := decide ((W.length : Int) = 64)) (by kernel_rfl) (decide_eq_true (by omega))
theorem cl_inf (a b : Aut) (n : Int) (W : List (List Int)) (u T : Nat) (hW : W.length ≤ 64) (hcp : Pure Try.prog 11 [aAut a] (aAut b)) (hf : Pure Try.prog 21 [aAut b, .int .i64 64] (.tup [wsV W, .int .i64 0]))
    (hu : Pure Try.prog 19 [aAut b, .int .i64 (clN n : Nat)] (.tup [.int .i64 (u : Nat), .int .i64 0])) (hs1 : shN W (clN n) W.length ≤ u) (hs2 : shN W (clN n) W.length < u → W.length = 64 ∧ ∀ w ∈ W, w.length ≤ clN n)
    (hct : Pure Try.prog 13 [aAut b] (.tup [.int .i64 0, .bool true, .int .i64 0])) (hfi : Pure Try.prog 12 [aAut b] (.tup [.bool false, .int .i64 0])) : Pure Try.prog 6 [aAut a, .int .i64 n] (.bool true) := by
  obtain ⟨n1, n2, hN⟩ := clN_ok n
  generalize clN n = N at *
  rw [← hN] at hu
  refine Pure.of_sw 187 Try.func6 rfl Try.ntmps6 (by kernel_rfl) (Nat.le_of_ble_eq_true (by kernel_rfl)) (by simp [closeds, AV.closed, aSs_closed, aIs_closed, aBs_closed, aRs_closed, aDen_closed, aCs_closed, aAut_closed]) (by simp [AV.closed, closeds, aSs_closed, aIs_closed, aBs_closed, aRs_closed, aDen_closed, aCs_closed, aAut_closed]) ?_; refine SW.of_vc ?_
  repeat first | refine opsStep ?_ | refine codeStep ?_ | refine drawStep ?_
  refine callP law20_fixed ?_
  repeat first | refine opsStep ?_ | refine codeStep ?_ | refine drawStep ?_
  refine callP hcp ?_
  repeat first | refine opsStep ?_ | refine codeStep ?_ | refine drawStep ?_
  refine callP hf ?_
  repeat first | refine opsStep ?_ | refine codeStep ?_ | refine drawStep ?_
  refine callP hcp ?_
  repeat first | refine opsStep ?_ | refine codeStep ?_ | refine drawStep ?_
  refine callP hu ?_
  repeat first | refine opsStep ?_ | refine codeStep ?_ | refine drawStep ?_
  refine loopE_of (ι := {i : Nat // i ≤ W.length}) (fun i => (fr [(1, .int .i64 (N : Nat)), (2, .ref 0 0 0), (5, wsV W), (6, .int .i64 (0)), (12, .int .i64 (u)), (13, .int .i64 (shN W N i.1 : Nat)), (71, wsV W), (72, .int .i64 (W.length : Nat)), (73, .int .i64 (i.1 : Nat))], [.cells 0 a.cells])) (fun i => W.length - i.1) ⟨0, Nat.zero_le _⟩ ?_ ?_
  · exact Ent.fr' ⟨Eq.trans (b := AV.int .i64 (IntKind.wrap .i64 (1 + IntKind.wrap .i64 (Int.tmod (IntKind.wrap .u64 n) 64)))) (by kernel_rfl) (by rw [hN]), (by kernel_rfl), (by kernel_rfl), (by kernel_rfl), (by kernel_rfl), (by kernel_rfl), (by kernel_rfl), (by kernel_rfl), (by kernel_rfl), trivial⟩ (by kernel_rfl)
  rintro ⟨i, hi⟩
  repeat first | refine opsStep ?_ | refine codeStep ?_ | refine drawStep ?_
  refine decB_dec (fun hic => ?_) (fun hic => ?_)
  · have hil : i < W.length := by have := hic; simp at this; omega
    have hgi : (wM W)[i]? = some (aIs .any W[i]) := by simp [wM, hil]
    have hsu := shN_succ (N := N) hil
    have hsle := shN_le W N i
    have hwl : (wM W).length = W.length := wM_len W
    generalize W[i] = v at *
    have hs1 : IntKind.wrap .i64 ((shN W N i : Int) + 1) = ((shN W N i + 1 : Nat) : Int) := by rw [IntWalk.i64_in _ (by omega)]; omega
    by_cases hv : v.length ≤ N
    · rw [if_pos hv] at hsu
      repeat first | refine opsStep ?_ | refine codeStep ?_ | refine drawStep ?_
      refine guardE_of (by simp; omega) ?_
      repeat first | refine opsStep ?_ | refine codeStep ?_ | refine drawStep ?_
      refine optE_of (c := aIs .any v) (by simp [Value.cells, hgi]) ?_
      repeat first | refine opsStep ?_ | refine codeStep ?_ | refine drawStep ?_
      refine decB_true (b := decide ((v.length : Int) ≤ (N : Int))) (decide_eq_true (by omega)) ?_
      repeat first | refine opsStep ?_ | refine codeStep ?_ | refine drawStep ?_
      exact ⟨⟨i + 1, hil⟩, (by show W.length - (i + 1) < W.length - i; omega), Ent.fr' ⟨(by kernel_rfl), (by kernel_rfl), (by kernel_rfl), (by kernel_rfl), (by kernel_rfl), Eq.trans (b := AV.int .i64 (IntKind.wrap .i64 ((shN W N i : Int) + 1))) (by kernel_rfl) (by rw [hs1, hsu]), (by kernel_rfl), (by kernel_rfl), inc_slot (i := i) (by omega), trivial⟩ (by kernel_rfl)⟩
    · rw [if_neg hv] at hsu
      repeat first | refine opsStep ?_ | refine codeStep ?_ | refine drawStep ?_
      refine guardE_of (by simp; omega) ?_
      repeat first | refine opsStep ?_ | refine codeStep ?_ | refine drawStep ?_
      refine optE_of (c := aIs .any v) (by simp [Value.cells, hgi]) ?_
      repeat first | refine opsStep ?_ | refine codeStep ?_ | refine drawStep ?_
      refine decB_false (b := decide ((v.length : Int) ≤ (N : Int))) (decide_eq_false (by omega)) ?_
      repeat first | refine opsStep ?_ | refine codeStep ?_ | refine drawStep ?_
      exact ⟨⟨i + 1, hil⟩, (by show W.length - (i + 1) < W.length - i; omega), Ent.fr' ⟨(by kernel_rfl), (by kernel_rfl), (by kernel_rfl), (by kernel_rfl), (by kernel_rfl), Eq.trans (b := AV.int .i64 (shN W N i : Nat)) (by kernel_rfl) (by rw [hsu]; rfl), (by kernel_rfl), (by kernel_rfl), inc_slot (i := i) (by omega), trivial⟩ (by kernel_rfl)⟩
  · have htr := trivial
    have hie : i = W.length := by have := hic; simp at this; omega
    subst hie
    iterate 9 (first | refine opsStep ?_ | refine codeStep ?_)
    refine VCode.upto (fr [(2, .ref 0 0 0), (5, wsV W), (12, .int .i64 (u : Nat))]) [.cells 0 a.cells] ?_ ?_
    · by_cases hlt : shN W N W.length < u
      · have hWl := (hs2 hlt).1
        have hWa := (hs2 hlt).2
        have hwm : (wM W).length = W.length := wM_len W
        have hgl : (wM W)[W.length - 1]? = some (aIs .any W[W.length - 1]) := by simp [wM, hWl]
        have hle := hWa W[W.length - 1] (List.getElem_mem _)
        have hw1 : IntKind.wrap .i64 ((W.length : Int) - 1) = ((W.length - 1 : Nat) : Int) := by rw [IntWalk.i64_in _ (by omega)]; omega
        generalize W[W.length - 1] = v at *
        generalize shN W N W.length = sh at *
        repeat first | refine opsStep ?_ | refine codeStep ?_ | refine drawStep ?_
        refine decB_false (b := decide (((u : Nat) : Int) < ((sh : Nat) : Int))) (decide_eq_false (by omega)) ?_
        repeat first | refine opsStep ?_ | refine codeStep ?_ | refine drawStep ?_
        refine decB_true (b := decide (((u : Nat) : Int) > ((sh : Nat) : Int))) (decide_eq_true (by omega)) ?_
        repeat first | refine opsStep ?_ | refine codeStep ?_ | refine drawStep ?_
        refine decB_false (b := decide ((W.length : Int) < 64)) (decide_eq_false (by omega)) ?_
        repeat first | refine opsStep ?_ | refine codeStep ?_ | refine drawStep ?_
        refine guardE_of (by rw [hw1]; simp; omega) ?_
        repeat first | refine opsStep ?_ | refine codeStep ?_ | refine drawStep ?_
        refine optE_of (c := aIs .any v) (by rw [hw1]; simp [Value.cells, hgl]) ?_
        repeat first | refine opsStep ?_ | refine codeStep ?_ | refine drawStep ?_
        refine decB_false (b := decide ((v.length : Int) > (N : Int))) (decide_eq_false (by omega)) ?_
        repeat first | refine opsStep ?_ | refine codeStep ?_ | refine drawStep ?_
        show Ent _ _ _ _ _
        exact Ent.fr' ⟨(by kernel_rfl), (by kernel_rfl), (by kernel_rfl), trivial⟩ (by kernel_rfl)
      · generalize shN W N W.length = sh at *
        repeat first | refine opsStep ?_ | refine codeStep ?_ | refine drawStep ?_
        refine decB_false (b := decide (((u : Nat) : Int) < ((sh : Nat) : Int))) (decide_eq_false (by omega)) ?_
        repeat first | refine opsStep ?_ | refine codeStep ?_ | refine drawStep ?_
        refine decB_false (b := decide (((u : Nat) : Int) > ((sh : Nat) : Int))) (decide_eq_false (by omega)) ?_
        repeat first | refine opsStep ?_ | refine codeStep ?_ | refine drawStep ?_
        show Ent _ _ _ _ _
        exact Ent.fr' ⟨(by kernel_rfl), (by kernel_rfl), (by kernel_rfl), trivial⟩ (by kernel_rfl)
    repeat first | refine opsStep ?_ | refine codeStep ?_ | refine drawStep ?_
    refine callP hcp ?_
    repeat first | refine opsStep ?_ | refine codeStep ?_ | refine drawStep ?_
    refine callP hct ?_
    repeat first | refine opsStep ?_ | refine codeStep ?_ | refine drawStep ?_
    refine callP hcp ?_
    repeat first | refine opsStep ?_ | refine codeStep ?_ | refine drawStep ?_
    refine callP hfi ?_
    repeat first | refine opsStep ?_ | refine codeStep ?_ | refine drawStep ?_
    exact finB (b' := true) (by kernel_rfl) rfl
theorem cl_big (a b : Aut) (n : Int) (W : List (List Int)) (u T : Nat) (hW : W.length ≤ 64) (hcp : Pure Try.prog 11 [aAut a] (aAut b)) (hf : Pure Try.prog 21 [aAut b, .int .i64 64] (.tup [wsV W, .int .i64 0]))
    (hu : Pure Try.prog 19 [aAut b, .int .i64 (clN n : Nat)] (.tup [.int .i64 (u : Nat), .int .i64 0])) (hs1 : shN W (clN n) W.length ≤ u) (hs2 : shN W (clN n) W.length < u → W.length = 64 ∧ ∀ w ∈ W, w.length ≤ clN n)
    (hct : Pure Try.prog 13 [aAut b] (.tup [.int .i64 0, .bool false, .int .i64 200])) (hfi : Pure Try.prog 12 [aAut b] (.tup [.bool true, .int .i64 0])) : Pure Try.prog 6 [aAut a, .int .i64 n] (.bool true) := by
  obtain ⟨n1, n2, hN⟩ := clN_ok n
  generalize clN n = N at *
  rw [← hN] at hu
  refine Pure.of_sw 187 Try.func6 rfl Try.ntmps6 (by kernel_rfl) (Nat.le_of_ble_eq_true (by kernel_rfl)) (by simp [closeds, AV.closed, aSs_closed, aIs_closed, aBs_closed, aRs_closed, aDen_closed, aCs_closed, aAut_closed]) (by simp [AV.closed, closeds, aSs_closed, aIs_closed, aBs_closed, aRs_closed, aDen_closed, aCs_closed, aAut_closed]) ?_; refine SW.of_vc ?_
  repeat first | refine opsStep ?_ | refine codeStep ?_ | refine drawStep ?_
  refine callP law20_fixed ?_
  repeat first | refine opsStep ?_ | refine codeStep ?_ | refine drawStep ?_
  refine callP hcp ?_
  repeat first | refine opsStep ?_ | refine codeStep ?_ | refine drawStep ?_
  refine callP hf ?_
  repeat first | refine opsStep ?_ | refine codeStep ?_ | refine drawStep ?_
  refine callP hcp ?_
  repeat first | refine opsStep ?_ | refine codeStep ?_ | refine drawStep ?_
  refine callP hu ?_
  repeat first | refine opsStep ?_ | refine codeStep ?_ | refine drawStep ?_
  refine loopE_of (ι := {i : Nat // i ≤ W.length}) (fun i => (fr [(1, .int .i64 (N : Nat)), (2, .ref 0 0 0), (5, wsV W), (6, .int .i64 (0)), (12, .int .i64 (u)), (13, .int .i64 (shN W N i.1 : Nat)), (71, wsV W), (72, .int .i64 (W.length : Nat)), (73, .int .i64 (i.1 : Nat))], [.cells 0 a.cells])) (fun i => W.length - i.1) ⟨0, Nat.zero_le _⟩ ?_ ?_
  · exact Ent.fr' ⟨Eq.trans (b := AV.int .i64 (IntKind.wrap .i64 (1 + IntKind.wrap .i64 (Int.tmod (IntKind.wrap .u64 n) 64)))) (by kernel_rfl) (by rw [hN]), (by kernel_rfl), (by kernel_rfl), (by kernel_rfl), (by kernel_rfl), (by kernel_rfl), (by kernel_rfl), (by kernel_rfl), (by kernel_rfl), trivial⟩ (by kernel_rfl)
  rintro ⟨i, hi⟩
  repeat first | refine opsStep ?_ | refine codeStep ?_ | refine drawStep ?_
  refine decB_dec (fun hic => ?_) (fun hic => ?_)
  · have hil : i < W.length := by have := hic; simp at this; omega
    have hgi : (wM W)[i]? = some (aIs .any W[i]) := by simp [wM, hil]
    have hsu := shN_succ (N := N) hil
    have hsle := shN_le W N i
    have hwl : (wM W).length = W.length := wM_len W
    generalize W[i] = v at *
    have hs1 : IntKind.wrap .i64 ((shN W N i : Int) + 1) = ((shN W N i + 1 : Nat) : Int) := by rw [IntWalk.i64_in _ (by omega)]; omega
    by_cases hv : v.length ≤ N
    · rw [if_pos hv] at hsu
      repeat first | refine opsStep ?_ | refine codeStep ?_ | refine drawStep ?_
      refine guardE_of (by simp; omega) ?_
      repeat first | refine opsStep ?_ | refine codeStep ?_ | refine drawStep ?_
      refine optE_of (c := aIs .any v) (by simp [Value.cells, hgi]) ?_
      repeat first | refine opsStep ?_ | refine codeStep ?_ | refine drawStep ?_
      refine decB_true (b := decide ((v.length : Int) ≤ (N : Int))) (decide_eq_true (by omega)) ?_
      repeat first | refine opsStep ?_ | refine codeStep ?_ | refine drawStep ?_
      exact ⟨⟨i + 1, hil⟩, (by show W.length - (i + 1) < W.length - i; omega), Ent.fr' ⟨(by kernel_rfl), (by kernel_rfl), (by kernel_rfl), (by kernel_rfl), (by kernel_rfl), Eq.trans (b := AV.int .i64 (IntKind.wrap .i64 ((shN W N i : Int) + 1))) (by kernel_rfl) (by rw [hs1, hsu]), (by kernel_rfl), (by kernel_rfl), inc_slot (i := i) (by omega), trivial⟩ (by kernel_rfl)⟩
    · rw [if_neg hv] at hsu
      repeat first | refine opsStep ?_ | refine codeStep ?_ | refine drawStep ?_
      refine guardE_of (by simp; omega) ?_
      repeat first | refine opsStep ?_ | refine codeStep ?_ | refine drawStep ?_
      refine optE_of (c := aIs .any v) (by simp [Value.cells, hgi]) ?_
      repeat first | refine opsStep ?_ | refine codeStep ?_ | refine drawStep ?_
      refine decB_false (b := decide ((v.length : Int) ≤ (N : Int))) (decide_eq_false (by omega)) ?_
      repeat first | refine opsStep ?_ | refine codeStep ?_ | refine drawStep ?_
      exact ⟨⟨i + 1, hil⟩, (by show W.length - (i + 1) < W.length - i; omega), Ent.fr' ⟨(by kernel_rfl), (by kernel_rfl), (by kernel_rfl), (by kernel_rfl), (by kernel_rfl), Eq.trans (b := AV.int .i64 (shN W N i : Nat)) (by kernel_rfl) (by rw [hsu]; rfl), (by kernel_rfl), (by kernel_rfl), inc_slot (i := i) (by omega), trivial⟩ (by kernel_rfl)⟩
  · have htr := trivial
    have hie : i = W.length := by have := hic; simp at this; omega
    subst hie
    iterate 9 (first | refine opsStep ?_ | refine codeStep ?_)
    refine VCode.upto (fr [(2, .ref 0 0 0), (5, wsV W), (12, .int .i64 (u : Nat))]) [.cells 0 a.cells] ?_ ?_
    · by_cases hlt : shN W N W.length < u
      · have hWl := (hs2 hlt).1
        have hWa := (hs2 hlt).2
        have hwm : (wM W).length = W.length := wM_len W
        have hgl : (wM W)[W.length - 1]? = some (aIs .any W[W.length - 1]) := by simp [wM, hWl]
        have hle := hWa W[W.length - 1] (List.getElem_mem _)
        have hw1 : IntKind.wrap .i64 ((W.length : Int) - 1) = ((W.length - 1 : Nat) : Int) := by rw [IntWalk.i64_in _ (by omega)]; omega
        generalize W[W.length - 1] = v at *
        generalize shN W N W.length = sh at *
        repeat first | refine opsStep ?_ | refine codeStep ?_ | refine drawStep ?_
        refine decB_false (b := decide (((u : Nat) : Int) < ((sh : Nat) : Int))) (decide_eq_false (by omega)) ?_
        repeat first | refine opsStep ?_ | refine codeStep ?_ | refine drawStep ?_
        refine decB_true (b := decide (((u : Nat) : Int) > ((sh : Nat) : Int))) (decide_eq_true (by omega)) ?_
        repeat first | refine opsStep ?_ | refine codeStep ?_ | refine drawStep ?_
        refine decB_false (b := decide ((W.length : Int) < 64)) (decide_eq_false (by omega)) ?_
        repeat first | refine opsStep ?_ | refine codeStep ?_ | refine drawStep ?_
        refine guardE_of (by rw [hw1]; simp; omega) ?_
        repeat first | refine opsStep ?_ | refine codeStep ?_ | refine drawStep ?_
        refine optE_of (c := aIs .any v) (by rw [hw1]; simp [Value.cells, hgl]) ?_
        repeat first | refine opsStep ?_ | refine codeStep ?_ | refine drawStep ?_
        refine decB_false (b := decide ((v.length : Int) > (N : Int))) (decide_eq_false (by omega)) ?_
        repeat first | refine opsStep ?_ | refine codeStep ?_ | refine drawStep ?_
        show Ent _ _ _ _ _
        exact Ent.fr' ⟨(by kernel_rfl), (by kernel_rfl), (by kernel_rfl), trivial⟩ (by kernel_rfl)
      · generalize shN W N W.length = sh at *
        repeat first | refine opsStep ?_ | refine codeStep ?_ | refine drawStep ?_
        refine decB_false (b := decide (((u : Nat) : Int) < ((sh : Nat) : Int))) (decide_eq_false (by omega)) ?_
        repeat first | refine opsStep ?_ | refine codeStep ?_ | refine drawStep ?_
        refine decB_false (b := decide (((u : Nat) : Int) > ((sh : Nat) : Int))) (decide_eq_false (by omega)) ?_
        repeat first | refine opsStep ?_ | refine codeStep ?_ | refine drawStep ?_
        show Ent _ _ _ _ _
        exact Ent.fr' ⟨(by kernel_rfl), (by kernel_rfl), (by kernel_rfl), trivial⟩ (by kernel_rfl)
    repeat first | refine opsStep ?_ | refine codeStep ?_ | refine drawStep ?_
    refine callP hcp ?_
    repeat first | refine opsStep ?_ | refine codeStep ?_ | refine drawStep ?_
    refine callP hct ?_
    repeat first | refine opsStep ?_ | refine codeStep ?_ | refine drawStep ?_
    refine callP hcp ?_
    repeat first | refine opsStep ?_ | refine codeStep ?_ | refine drawStep ?_
    refine callP hfi ?_
    repeat first | refine opsStep ?_ | refine codeStep ?_ | refine drawStep ?_
    exact finB (b' := true) (by kernel_rfl) rfl
theorem cl_fin (a b : Aut) (n : Int) (W : List (List Int)) (u T : Nat) (hW : W.length ≤ 64) (hcp : Pure Try.prog 11 [aAut a] (aAut b)) (hf : Pure Try.prog 21 [aAut b, .int .i64 64] (.tup [wsV W, .int .i64 0]))
    (hu : Pure Try.prog 19 [aAut b, .int .i64 (clN n : Nat)] (.tup [.int .i64 (u : Nat), .int .i64 0])) (hs1 : shN W (clN n) W.length ≤ u) (hs2 : shN W (clN n) W.length < u → W.length = 64 ∧ ∀ w ∈ W, w.length ≤ clN n)
    (hct : Pure Try.prog 13 [aAut b] (.tup [.int .i64 (T : Nat), .bool false, .int .i64 0])) (hfi : Pure Try.prog 12 [aAut b] (.tup [.bool true, .int .i64 0])) (hT : u ≤ T) (hx : a.accept.length < 64 → W.length < 64 → T = W.length) : Pure Try.prog 6 [aAut a, .int .i64 n] (.bool true) := by
  obtain ⟨n1, n2, hN⟩ := clN_ok n
  generalize clN n = N at *
  rw [← hN] at hu
  refine Pure.of_sw 187 Try.func6 rfl Try.ntmps6 (by kernel_rfl) (Nat.le_of_ble_eq_true (by kernel_rfl)) (by simp [closeds, AV.closed, aSs_closed, aIs_closed, aBs_closed, aRs_closed, aDen_closed, aCs_closed, aAut_closed]) (by simp [AV.closed, closeds, aSs_closed, aIs_closed, aBs_closed, aRs_closed, aDen_closed, aCs_closed, aAut_closed]) ?_; refine SW.of_vc ?_
  repeat first | refine opsStep ?_ | refine codeStep ?_ | refine drawStep ?_
  refine callP law20_fixed ?_
  repeat first | refine opsStep ?_ | refine codeStep ?_ | refine drawStep ?_
  refine callP hcp ?_
  repeat first | refine opsStep ?_ | refine codeStep ?_ | refine drawStep ?_
  refine callP hf ?_
  repeat first | refine opsStep ?_ | refine codeStep ?_ | refine drawStep ?_
  refine callP hcp ?_
  repeat first | refine opsStep ?_ | refine codeStep ?_ | refine drawStep ?_
  refine callP hu ?_
  repeat first | refine opsStep ?_ | refine codeStep ?_ | refine drawStep ?_
  refine loopE_of (ι := {i : Nat // i ≤ W.length}) (fun i => (fr [(1, .int .i64 (N : Nat)), (2, .ref 0 0 0), (5, wsV W), (6, .int .i64 (0)), (12, .int .i64 (u)), (13, .int .i64 (shN W N i.1 : Nat)), (71, wsV W), (72, .int .i64 (W.length : Nat)), (73, .int .i64 (i.1 : Nat))], [.cells 0 a.cells])) (fun i => W.length - i.1) ⟨0, Nat.zero_le _⟩ ?_ ?_
  · exact Ent.fr' ⟨Eq.trans (b := AV.int .i64 (IntKind.wrap .i64 (1 + IntKind.wrap .i64 (Int.tmod (IntKind.wrap .u64 n) 64)))) (by kernel_rfl) (by rw [hN]), (by kernel_rfl), (by kernel_rfl), (by kernel_rfl), (by kernel_rfl), (by kernel_rfl), (by kernel_rfl), (by kernel_rfl), (by kernel_rfl), trivial⟩ (by kernel_rfl)
  rintro ⟨i, hi⟩
  repeat first | refine opsStep ?_ | refine codeStep ?_ | refine drawStep ?_
  refine decB_dec (fun hic => ?_) (fun hic => ?_)
  · have hil : i < W.length := by have := hic; simp at this; omega
    have hgi : (wM W)[i]? = some (aIs .any W[i]) := by simp [wM, hil]
    have hsu := shN_succ (N := N) hil
    have hsle := shN_le W N i
    have hwl : (wM W).length = W.length := wM_len W
    generalize W[i] = v at *
    have hs1 : IntKind.wrap .i64 ((shN W N i : Int) + 1) = ((shN W N i + 1 : Nat) : Int) := by rw [IntWalk.i64_in _ (by omega)]; omega
    by_cases hv : v.length ≤ N
    · rw [if_pos hv] at hsu
      repeat first | refine opsStep ?_ | refine codeStep ?_ | refine drawStep ?_
      refine guardE_of (by simp; omega) ?_
      repeat first | refine opsStep ?_ | refine codeStep ?_ | refine drawStep ?_
      refine optE_of (c := aIs .any v) (by simp [Value.cells, hgi]) ?_
      repeat first | refine opsStep ?_ | refine codeStep ?_ | refine drawStep ?_
      refine decB_true (b := decide ((v.length : Int) ≤ (N : Int))) (decide_eq_true (by omega)) ?_
      repeat first | refine opsStep ?_ | refine codeStep ?_ | refine drawStep ?_
      exact ⟨⟨i + 1, hil⟩, (by show W.length - (i + 1) < W.length - i; omega), Ent.fr' ⟨(by kernel_rfl), (by kernel_rfl), (by kernel_rfl), (by kernel_rfl), (by kernel_rfl), Eq.trans (b := AV.int .i64 (IntKind.wrap .i64 ((shN W N i : Int) + 1))) (by kernel_rfl) (by rw [hs1, hsu]), (by kernel_rfl), (by kernel_rfl), inc_slot (i := i) (by omega), trivial⟩ (by kernel_rfl)⟩
    · rw [if_neg hv] at hsu
      repeat first | refine opsStep ?_ | refine codeStep ?_ | refine drawStep ?_
      refine guardE_of (by simp; omega) ?_
      repeat first | refine opsStep ?_ | refine codeStep ?_ | refine drawStep ?_
      refine optE_of (c := aIs .any v) (by simp [Value.cells, hgi]) ?_
      repeat first | refine opsStep ?_ | refine codeStep ?_ | refine drawStep ?_
      refine decB_false (b := decide ((v.length : Int) ≤ (N : Int))) (decide_eq_false (by omega)) ?_
      repeat first | refine opsStep ?_ | refine codeStep ?_ | refine drawStep ?_
      exact ⟨⟨i + 1, hil⟩, (by show W.length - (i + 1) < W.length - i; omega), Ent.fr' ⟨(by kernel_rfl), (by kernel_rfl), (by kernel_rfl), (by kernel_rfl), (by kernel_rfl), Eq.trans (b := AV.int .i64 (shN W N i : Nat)) (by kernel_rfl) (by rw [hsu]; rfl), (by kernel_rfl), (by kernel_rfl), inc_slot (i := i) (by omega), trivial⟩ (by kernel_rfl)⟩
  · have htr := trivial
    have hie : i = W.length := by have := hic; simp at this; omega
    subst hie
    iterate 9 (first | refine opsStep ?_ | refine codeStep ?_)
    refine VCode.upto (fr [(2, .ref 0 0 0), (5, wsV W), (12, .int .i64 (u : Nat))]) [.cells 0 a.cells] ?_ ?_
    · by_cases hlt : shN W N W.length < u
      · have hWl := (hs2 hlt).1
        have hWa := (hs2 hlt).2
        have hwm : (wM W).length = W.length := wM_len W
        have hgl : (wM W)[W.length - 1]? = some (aIs .any W[W.length - 1]) := by simp [wM, hWl]
        have hle := hWa W[W.length - 1] (List.getElem_mem _)
        have hw1 : IntKind.wrap .i64 ((W.length : Int) - 1) = ((W.length - 1 : Nat) : Int) := by rw [IntWalk.i64_in _ (by omega)]; omega
        generalize W[W.length - 1] = v at *
        generalize shN W N W.length = sh at *
        repeat first | refine opsStep ?_ | refine codeStep ?_ | refine drawStep ?_
        refine decB_false (b := decide (((u : Nat) : Int) < ((sh : Nat) : Int))) (decide_eq_false (by omega)) ?_
        repeat first | refine opsStep ?_ | refine codeStep ?_ | refine drawStep ?_
        refine decB_true (b := decide (((u : Nat) : Int) > ((sh : Nat) : Int))) (decide_eq_true (by omega)) ?_
        repeat first | refine opsStep ?_ | refine codeStep ?_ | refine drawStep ?_
        refine decB_false (b := decide ((W.length : Int) < 64)) (decide_eq_false (by omega)) ?_
        repeat first | refine opsStep ?_ | refine codeStep ?_ | refine drawStep ?_
        refine guardE_of (by rw [hw1]; simp; omega) ?_
        repeat first | refine opsStep ?_ | refine codeStep ?_ | refine drawStep ?_
        refine optE_of (c := aIs .any v) (by rw [hw1]; simp [Value.cells, hgl]) ?_
        repeat first | refine opsStep ?_ | refine codeStep ?_ | refine drawStep ?_
        refine decB_false (b := decide ((v.length : Int) > (N : Int))) (decide_eq_false (by omega)) ?_
        repeat first | refine opsStep ?_ | refine codeStep ?_ | refine drawStep ?_
        show Ent _ _ _ _ _
        exact Ent.fr' ⟨(by kernel_rfl), (by kernel_rfl), (by kernel_rfl), trivial⟩ (by kernel_rfl)
      · generalize shN W N W.length = sh at *
        repeat first | refine opsStep ?_ | refine codeStep ?_ | refine drawStep ?_
        refine decB_false (b := decide (((u : Nat) : Int) < ((sh : Nat) : Int))) (decide_eq_false (by omega)) ?_
        repeat first | refine opsStep ?_ | refine codeStep ?_ | refine drawStep ?_
        refine decB_false (b := decide (((u : Nat) : Int) > ((sh : Nat) : Int))) (decide_eq_false (by omega)) ?_
        repeat first | refine opsStep ?_ | refine codeStep ?_ | refine drawStep ?_
        show Ent _ _ _ _ _
        exact Ent.fr' ⟨(by kernel_rfl), (by kernel_rfl), (by kernel_rfl), trivial⟩ (by kernel_rfl)
    repeat first | refine opsStep ?_ | refine codeStep ?_ | refine drawStep ?_
    refine callP hcp ?_
    repeat first | refine opsStep ?_ | refine codeStep ?_ | refine drawStep ?_
    refine callP hct ?_
    repeat first | refine opsStep ?_ | refine codeStep ?_ | refine drawStep ?_
    refine callP hcp ?_
    repeat first | refine opsStep ?_ | refine codeStep ?_ | refine drawStep ?_
    refine callP hfi ?_
    repeat first | refine opsStep ?_ | refine codeStep ?_ | refine drawStep ?_
    refine decB_false (b := decide (((T : Nat) : Int) < ((u : Nat) : Int))) (decide_eq_false (by omega)) ?_
    repeat first | refine opsStep ?_ | refine codeStep ?_ | refine drawStep ?_
    by_cases h1 : a.accept.length < 64
    · refine decB_true (b := decide ((a.accept.length : Int) < 64)) (decide_eq_true (by omega)) ?_
      repeat first | refine opsStep ?_ | refine codeStep ?_ | refine drawStep ?_
      by_cases h2 : W.length < 64
      · have h3 := hx h1 h2
        refine decB_true (b := decide ((W.length : Int) < 64)) (decide_eq_true (by omega)) ?_
        repeat first | refine opsStep ?_ | refine codeStep ?_ | refine drawStep ?_
        refine decB_false (b := decide (((T : Nat) : Int) ≠ ((W.length : Nat) : Int))) (decide_eq_false (by omega)) ?_
        repeat first | refine opsStep ?_ | refine codeStep ?_ | refine drawStep ?_
        exact finB (b' := true) (by kernel_rfl) rfl
      · refine decB_false (b := decide ((W.length : Int) < 64)) (decide_eq_false (by omega)) ?_
        repeat first | refine opsStep ?_ | refine codeStep ?_ | refine drawStep ?_
        exact finB (b' := true) (by kernel_rfl) rfl
    · refine decB_false (b := decide ((a.accept.length : Int) < 64)) (decide_eq_false (by omega)) ?_
      repeat first | refine opsStep ?_ | refine codeStep ?_ | refine drawStep ?_
      exact finB (b' := true) (by kernel_rfl) rfl

end Tab

/- The law CountLists: joined. -/
namespace Tab
open Go Go.Proofs
set_option maxRecDepth 10000
set_option linter.unusedVariables false
set_option linter.unusedSimpArgs false
set_option linter.unusedSectionVars false

theorem copyA_firV (a : Aut) : firV (copyA a) = firV a := by rw [firV, firV, copyA_check, (copyA_unp a).1]
theorem shN_all (W : List (List Int)) (N : Nat) : shN W N W.length = (W.filter fun w => decide (w.length ≤ N)).length := by rw [shN, List.take_length]
theorem law_CountLists (a : Aut) (n : Int) (ha : AutOk a) : Pure Try.prog 6 [aAut a, .int .i64 n] (.bool true) := by
  have hcp := r12_Copy a ha
  have hf := pick_First (copyA a) (copyA_ok ha)
  have hup := fun n : Int => count_Upto (copyA a) (copyA_ok ha) n
  have hct := count_Count (copyA a) (copyA_ok ha)
  have hfi := count_Finite (copyA a) (copyA_ok ha)
  simp only [copyA_upV] at hup
  rw [copyA_cnt] at hct
  rw [copyA_fin, (copyA_unp a).2] at hfi
  rw [copyA_firV] at hf
  cases hc : checkS a with
  | false =>
    have hu := hup 5
    rw [upV_bad hc] at hu
    rw [cntV_bad hc] at hct
    rw [firV_bad hc] at hf
    exact cl_bad a _ n .junk .junk hcp hf hu hct
  | true =>
    have hd := (unpD_right hc).1
    have hgo := grD_ok hd
    have hn : (grD (unpD a)).n = a.accept.length := by show (unpD a).accept.length = _; rw [(unpD_right hc).2.2]
    obtain ⟨n1, n2, _⟩ := clN_ok n
    have hu := hup (clN n : Nat)
    rw [firV_ok hc] at hf
    rw [unpE_zero.2 hc] at hfi
    have hfa : finA a = finT (grD (unpD a)) := by rw [finA, hc, Bool.true_and]
    rw [hfa] at hfi
    have hsh := fw_short (grD (unpD a)) n1 n2
    rw [← shN_all] at hsh
    have hln := fw_len (grD (unpD a))
    have hall := fw_all (grD (unpD a)) n1 n2
    have hmo := upto_mono (g := grD (unpD a)) n2
    by_cases hfit : uptoN (grD (unpD a)) (clN n) < 9223372036854775808
    · rw [upV_fit hc n1 n2 hfit] at hu
      have hs1 : shN (fwL (grD (unpD a))) (clN n) (fwL (grD (unpD a))).length ≤ uptoN (grD (unpD a)) (clN n) := by rw [hsh]; omega
      have hs2 : shN (fwL (grD (unpD a))) (clN n) (fwL (grD (unpD a))).length < uptoN (grD (unpD a)) (clN n) → (fwL (grD (unpD a))).length = 64 ∧ ∀ w ∈ fwL (grD (unpD a)), w.length ≤ clN n := fun h => by
        rw [hsh] at h
        exact ⟨by rw [hln]; omega, hall (by omega)⟩
      have hl64 : (fwL (grD (unpD a))).length ≤ 64 := by rw [hln]; omega
      cases hF : finT (grD (unpD a)) with
      | false =>
        rw [cntV_inf hc hF] at hct
        rw [hF] at hfi
        exact cl_inf a _ n _ _ 0 hl64 hcp hf hu hs1 hs2 hct hfi
      | true =>
        have hfp := (finT_iff _).1 hF
        rw [hF] at hfi
        by_cases hT : totN (grD (unpD a)) < 9223372036854775808
        · rw [cntV_fit hc hF hT] at hct
          refine cl_fin a _ n _ _ _ hl64 hcp hf hu hs1 hs2 hct hfi (tot_upto hgo hfp _) fun h1 h2 => ?_
          have h3 := tot_eq hgo hfp (n := 64) (by omega)
          rw [← h3, hln]
          rw [hln] at h2
          omega
        · rw [cntV_wide hc hF hT] at hct
          exact cl_big a _ n _ _ 0 hl64 hcp hf hu hs1 hs2 hct hfi
    · rw [upV_wide hc n1 n2 hfit] at hu
      exact cl_wide a _ n _ (by rw [hln]; omega) hcp hf hu

end Tab
