/- Lemmas for this claim: part 13. No condition. -/
import Derived.Test.YtgadapklmphliaaZ12
/- Layer 21: the law CompareTells. -/
namespace Tab
open Go Go.Proofs
set_option maxRecDepth 10000
set_option linter.unusedVariables false
set_option linter.unusedSimpArgs false
set_option linter.unusedSectionVars false

theorem opE_sym (a b : Aut) : opE b a = opE a b := by
  have hu : unN (unpD b) (unpD a) = unN (unpD a) (unpD b) := strict_eq (tog_strict _) (tog_strict _) fun x => by rw [unN, unN, tog_mem, tog_mem, List.mem_append, List.mem_append]; exact or_comm
  cases h1 : checkS a with
  | false => rw [opE_bad (by rw [h1]; simp), opE_bad (by rw [h1]; rfl)]
  | true =>
    cases h2 : checkS b with
    | false => rw [opE_bad (by rw [h2]; rfl), opE_bad (by rw [h2]; simp)]
    | true =>
      by_cases h6 : (unN (unpD a) (unpD b)).length ≤ 6
      · rw [opE_ok (by rw [h1, h2]; rfl) (by rw [hu]; exact h6), opE_ok (by rw [h1, h2]; rfl) h6]
      · rw [opE_wide (by rw [h1, h2]; rfl) (by rw [hu]; exact h6), opE_wide (by rw [h1, h2]; rfl) h6]
theorem opE_cases (a b : Aut) : opE a b = 0 ∨ opE a b = 3 ∨ opE a b = 150 := by
  cases h : checkS a && checkS b with
  | false => exact .inr (.inl (opE_bad h))
  | true =>
    by_cases h6 : (unN (unpD a) (unpD b)).length ≤ 6
    · exact .inl (opE_ok h h6)
    · exact .inr (.inr (opE_wide h h6))
theorem same_iff {a b : Aut} (h : opE a b = 0) : noneB qS a b = (noneB qW a b && noneB qW b a) := by
  have h' : opE b a = 0 := by rw [opE_sym]; exact h
  have hu : unN (unpD b) (unpD a) = unN (unpD a) (unpD b) := strict_eq (tog_strict _) (tog_strict _) fun x => by rw [unN, unN, tog_mem, tog_mem, List.mem_append, List.mem_append]; exact or_comm
  rw [Bool.eq_iff_iff, Bool.and_eq_true, none_iff h, none_iff h, none_iff h', hu]
  constructor
  · intro hh
    refine ⟨fun v h1 h2 => ?_, fun v h1 h2 => ?_⟩
    all_goals
      have := hh v h1 h2
      revert this
      cases extT a (unN (unpD a) (unpD b)) v <;> cases extT b (unN (unpD a) (unpD b)) v <;> simp [qS, qW]
  · rintro ⟨h1, h2⟩ v h3 h4
    have k1 := h1 v h3 h4
    have k2 := h2 v h3 h4
    revert k1 k2
    cases extT a (unN (unpD a) (unpD b)) v <;> cases extT b (unN (unpD a) (unpD b)) v <;> simp [qS, qW]

theorem tells_bad (a b : Aut) (kw : SK) (words : List (SK × List Int)) (ha : AutOk a) (hb : AutOk b) (h : opE a b ≠ 0) : Pure Try.prog 8 [aAut a, aAut b, aRs kw words] (.bool true) := by
  have h1 := cmp_Within a b ha hb
  have h2 := cmp_Within b a hb ha
  have h3 := cmp_Same a b ha hb
  have h4 := cmp_Apart a b ha hb
  have hap : apV a b = .tup [.sl .nil 0 [], .sl .nil 0 [], .int .i64 (opE a b)] := by rw [apV, if_neg h]
  rw [hap] at h4
  rw [noneB_bad h] at h1 h3
  rw [noneB_bad (by rw [opE_sym]; exact h), opE_sym] at h2
  have hc := (opE_cases a b).resolve_left h
  rcases hc with hc | hc <;> rw [hc] at h1 h2 h3 h4
  all_goals
    refine Pure.of_sw 226 Try.func8 rfl Try.ntmps8 (by kernel_rfl) (Nat.le_of_ble_eq_true (by kernel_rfl)) (by simp [closeds, AV.closed, aSs_closed, aIs_closed, aBs_closed, aRs_closed, aDen_closed, aCs_closed, aAut_closed]) (by simp [AV.closed, closeds, aSs_closed, aIs_closed, aBs_closed, aRs_closed, aDen_closed, aCs_closed, aAut_closed]) ?_; refine SW.of_vc ?_
    repeat first | refine opsStep ?_ | refine codeStep ?_ | refine drawStep ?_
    refine callP law21_fixed ?_
    repeat first | refine opsStep ?_ | refine codeStep ?_ | refine drawStep ?_
    refine callP h1 ?_
    repeat first | refine opsStep ?_ | refine codeStep ?_ | refine drawStep ?_
    refine callP h2 ?_
    repeat first | refine opsStep ?_ | refine codeStep ?_ | refine drawStep ?_
    refine callP h3 ?_
    repeat first | refine opsStep ?_ | refine codeStep ?_ | refine drawStep ?_
    refine callP h4 ?_
    repeat first | refine opsStep ?_ | refine codeStep ?_ | refine drawStep ?_
    exact finB (b' := true) (by kernel_rfl) rfl

theorem first_len {d e : Den} (hd : rightS d = true) (he : rightS e = true) (hk : d.tracks.length = e.tracks.length) {q : Bool → Bool → Bool} {w : List Nat} (h : FirstW (2 ^ d.tracks.length) (askT d e q) (some w)) : w.length ≤ d.accept.length * e.accept.length := by
  obtain ⟨w1, w2, w3, w4⟩ := h
  refine Nat.le_of_not_lt fun hlt => ?_
  have hok : ∀ u : List Nat, (∀ x ∈ u, x < 2 ^ d.tracks.length) → okP d e (runG (stp d e) (0, 0) u) := by
    intro u hu
    rw [runG, runG_run]
    exact ⟨runN_ok hd u (right_pos hd) hu, runN_ok he u (right_pos he) (fun x hx => by rw [← hk]; exact hu x hx)⟩
  have hnn : ¬ ((List.range w.length).map fun i => runG (stp d e) (0, 0) (w.take (i + 1))).Nodup := fun hn => by
    have := pairs_len hn fun p hp => by
      obtain ⟨i, _, rfl⟩ := List.mem_map.1 hp
      exact hok _ fun x hx => w2 x (List.mem_of_mem_take hx)
    simp at this
    omega
  refine hnn (List.pairwise_iff_getElem.2 fun i j hi hj hij e' => ?_)
  have hj' : j < w.length := by simpa using hj
  simp only [List.getElem_map, List.getElem_range] at e'
  have hrun : runG (stp d e) (0, 0) (w.take (i + 1) ++ w.drop (j + 1)) = runG (stp d e) (0, 0) w := by
    have e2 : runG (stp d e) (0, 0) w = runG (stp d e) (0, 0) (w.take (j + 1) ++ w.drop (j + 1)) := by rw [List.take_append_drop]
    rw [e2, runG, runG, List.foldl_append, List.foldl_append]
    rw [runG, runG] at e'
    rw [e']
  have hs := w4 (w.take (i + 1) ++ w.drop (j + 1)) (by
      intro h0
      have h1 := congrArg List.length (List.append_eq_nil_iff.1 h0).1
      rw [List.length_take, List.length_nil] at h1
      omega) (fun x hx => by
      rcases List.mem_append.1 hx with hx | hx
      · exact w2 x (List.mem_of_mem_take hx)
      · exact w2 x (List.mem_of_mem_drop hx)) (by
      rw [askT, hrun]; exact w3)
  have hl : (w.take (i + 1) ++ w.drop (j + 1)).length < w.length := by simp; omega
  rcases hs with (hs | ⟨hs, _⟩) | hs
  · omega
  · omega
  · rw [← hs] at hl; omega

theorem tells_some (a b : Aut) (kw : SK) (words : List (SK × List Int)) (ha : AutOk a) (hb : AutOk b) (hwl : words.length * 24 ≤ 140737488351232) (hws : ∀ v ∈ words, v.2.length * 8 ≤ 140737488351232) (h : opE a b = 0) (w : List Nat) (hw : cmpO (opA a b) (opB a b) qS = some w) : Pure Try.prog 8 [aAut a, aAut b, aRs kw words] (.bool true) := by
  have h1 := cmp_Within a b ha hb
  have h2 := cmp_Within b a hb ha
  have h3 := cmp_Same a b ha hb
  have h4 := cmp_Apart a b ha hb
  have hap : apV a b = .tup [aSs .any (unN (unpD a) (unpD b)), .sl .any w.length (iW w), .int .i64 0] := by rw [apV, if_pos h, tellO_ok h, hw]
  have hS : noneB qS a b = false := by rw [noneB_ok h, hw]; rfl
  have hb12 := same_iff h
  rw [hS] at hb12 h3
  rw [hap] at h4
  rw [opE_sym, h] at h2
  rw [h] at h1 h3
  have hmade := op_made h
  obtain ⟨hca, hcb, h6⟩ := opE_zero h
  obtain ⟨o1, o2⟩ := opA_ok h
  have hon := fun v hv => op_lang h (v := v) hv
  have htr1 := (unpD_right hca).2.1
  have htr2 := (unpD_right hcb).2.1
  have oka := unpD_den ha
  have okb := unpD_den hb
  have hus := unN_sizes oka okb
  obtain ⟨q1, q2, w0, v0, ra, rb, t1, t2⟩ := hmade
  obtain ⟨jd1, jd2, jd3, jd4⟩ := tracksS_parts (rightS_parts q1).1
  obtain ⟨je1, je2, je3, je4⟩ := tracksS_parts (rightS_parts q2).1
  rw [htr1] at jd1 jd2
  rw [htr2] at je1 je2
  have hun := glyph_Union .any .any a.tracks b.tracks (by omega) (fun s hs => by have := ha.names s hs; omega) (fun s hs => by have := hb.names s hs; omega) jd2 je2
  have hU : unN (unpD a) (unpD b) = togS (a.tracks ++ b.tracks) := by rw [unN, htr1, htr2]
  rw [← hU, sl0, sl0] at hun
  have hwa := law21_wide a (unN (unpD a) (unpD b)) ha hca hus h6 w0
  have hwb := law21_wide b (unN (unpD a) (unpD b)) hb hcb hus h6 v0
  rw [← o1] at hwa
  rw [← o2] at hwb
  have hokx := widenD_den oka (by omega) hus w0
  have hoky := widenD_den okb (by omega) hus v0
  rw [← o1] at hokx
  rw [← o2] at hoky
  have hin := (none_iff (q := qW) h).1
  have d1 := ha.tracks
  have d2 := hb.tracks
  have hs := cmpO_spec (opA a b) (opB a b) qS ra rb (by rw [t1, t2])
  rw [hw] at hs
  have hwlen := first_len ra rb (by rw [t1, t2]) hs
  have k256a := (tracksS_parts (rightS_parts ra).1).2.2.2
  have k256b := (tracksS_parts (rightS_parts rb).1).2.2.2
  have hNN : (opA a b).accept.length * (opB a b).accept.length ≤ 256 * 256 := Nat.mul_le_mul (by omega) (by omega)
  obtain ⟨w1, w2, w3, w4⟩ := hs
  have hin : noneB qW a b = true → ∀ v, v ≠ [] → Lets (unN (unpD a) (unpD b)).length v → qW (lang (opA a b) v) (lang (opB a b) v) = false := fun h v h1 h2 => by
    rw [(hon v h2).1, (hon v h2).2]; exact hin h v h1 h2
  have hask : ∀ v, Lets (unN (unpD a) (unpD b)).length v → askT (opA a b) (opB a b) qS v = qS (lang (opA a b) v) (lang (opB a b) v) := fun v hv => by
    rw [askT_eq, lang, lang, langR_let (by rw [t1]; exact hv), langR_let (by rw [t2]; exact hv)]
  rw [t1] at w2 w4
  have w3' := (hask w w2).symm.trans w3
  have w4' : ∀ v, v ≠ [] → Lets (unN (unpD a) (unpD b)).length v → lang (opA a b) v ≠ lang (opB a b) v → sle w v := fun v h1 h2 h3 => w4 v h1 h2 (by rw [hask v h2, qS]; simpa using h3)
  have eW : aIs .any (w.map fun n : Nat => (n : Int)) = .sl .any w.length (iW w) := by rw [aIs, List.length_map]; rfl
  have hWw := r12_Word .any (w.map fun n : Nat => (n : Int)) (unN (unpD a) (unpD b)).length (by simp; omega) (by omega)
  have hwB : wordB (unN (unpD a) (unpD b)).length (w.map fun n : Nat => (n : Int)) = true := wordB_iff.2 fun z hz => by
    obtain ⟨n, hn, rfl⟩ := List.mem_map.1 hz
    exact ⟨by omega, by have := w2 n hn; exact Int.ofNat_lt.2 this⟩
  rw [eW, hwB] at hWw
  have hTx := r12_Takes .any (opA a b) hokx ra w (by omega) (by rw [t1]; exact w2)
  rw [takesB_lang (by rw [t1]; exact w2), eW] at hTx
  have hTy := r12_Takes .any (opB a b) hoky rb w (by omega) (by rw [t2]; exact w2)
  rw [takesB_lang (by rw [t2]; exact w2), eW] at hTy
  have hCm := fun vk v hv => word_Compare .any vk (w.map fun n : Nat => (n : Int)) v (by simp; omega) hv
  rw [eW] at hCm
  generalize lang (opA a b) w = p0 at *
  generalize lang (opB a b) w = q0 at *
  generalize noneB qW a b = b1 at *
  generalize noneB qW b a = b2 at *
  generalize unN (unpD a) (unpD b) = names at *
  generalize opA a b = x at *
  generalize opB a b = y at *
  refine Pure.of_sw 226 Try.func8 rfl Try.ntmps8 (by kernel_rfl) (Nat.le_of_ble_eq_true (by kernel_rfl)) (by simp [closeds, AV.closed, aSs_closed, aIs_closed, aBs_closed, aRs_closed, aDen_closed, aCs_closed, aAut_closed]) (by simp [AV.closed, closeds, aSs_closed, aIs_closed, aBs_closed, aRs_closed, aDen_closed, aCs_closed, aAut_closed]) ?_; refine SW.of_vc ?_
  repeat first | refine opsStep ?_ | refine codeStep ?_ | refine drawStep ?_
  refine callP law21_fixed ?_
  repeat first | refine opsStep ?_ | refine codeStep ?_ | refine drawStep ?_
  refine callP h1 ?_
  repeat first | refine opsStep ?_ | refine codeStep ?_ | refine drawStep ?_
  refine callP h2 ?_
  repeat first | refine opsStep ?_ | refine codeStep ?_ | refine drawStep ?_
  refine callP h3 ?_
  repeat first | refine opsStep ?_ | refine codeStep ?_ | refine drawStep ?_
  refine callP h4 ?_
  iterate 8 refine opsStep ?_
  refine VCode.ent (Ent.fr' (l := [(2, aRs kw words), (3, .ref 0 0 0), (4, .ref 1 0 0), (7, .bool b1), (8, .int .i64 0), (9, .bool b2), (10, .int .i64 0), (11, .bool false), (12, .int .i64 0), (13, aSs .any names), (14, .sl .any w.length (iW w)), (15, .int .i64 0)]) (H' := [.cells 0 a.cells, .cells 0 b.cells]) ⟨(by kernel_rfl), (by kernel_rfl), (by kernel_rfl), (by kernel_rfl), (by kernel_rfl), (by kernel_rfl), (by kernel_rfl), (by kernel_rfl), (by kernel_rfl), (by kernel_rfl), (by kernel_rfl), (by kernel_rfl), trivial⟩ (by kernel_rfl)) ?_
  refine VCode.upto (fr [(2, aRs kw words), (3, .ref 0 0 0), (4, .ref 1 0 0), (7, .bool b1), (9, .bool b2), (10, .int .i64 0), (11, .bool false), (12, .int .i64 0), (13, aSs .any names), (14, .sl .any w.length (iW w)), (15, .int .i64 0)]) [.cells 0 a.cells, .cells 0 b.cells] ?_ ?_
  · repeat first | refine opsStep ?_ | refine codeStep ?_ | refine drawStep ?_
    show Ent _ _ _ _ _
    exact Ent.fr' ⟨(by kernel_rfl), (by kernel_rfl), (by kernel_rfl), (by kernel_rfl), (by kernel_rfl), (by kernel_rfl), (by kernel_rfl), (by kernel_rfl), (by kernel_rfl), (by kernel_rfl), (by kernel_rfl), trivial⟩ (by kernel_rfl)
  refine VCode.upto (fr [(2, aRs kw words), (3, .ref 0 0 0), (4, .ref 1 0 0), (7, .bool b1), (11, .bool false), (13, aSs .any names), (14, .sl .any w.length (iW w)), (15, .int .i64 0)]) [.cells 0 a.cells, .cells 0 b.cells] ?_ ?_
  · cases b1 <;> cases b2
    all_goals
      first
      | exact absurd hb12 (by decide)
      | skip
    all_goals
      repeat first | refine opsStep ?_ | refine codeStep ?_ | refine drawStep ?_
      show Ent _ _ _ _ _
      exact Ent.fr' ⟨(by kernel_rfl), (by kernel_rfl), (by kernel_rfl), (by kernel_rfl), (by kernel_rfl), (by kernel_rfl), (by kernel_rfl), (by kernel_rfl), trivial⟩ (by kernel_rfl)
  repeat first | refine opsStep ?_ | refine codeStep ?_ | refine drawStep ?_
  refine SW.drawn rfl (by kernel_rfl) ?_
  iterate 3 refine drawStep ?_
  refine drawFrz ?_
  refine guardE_of (by simp [Value.cells]) ?_
  refine guardE_of ⟨by omega, by show (0 + a.tracks.length) * 16 ≤ 140737488355328; omega⟩ ?_
  refine ⟨rfl, rfl, (by show (0 + a.tracks.length) * 1 = (a.tracks.map AV.str).length; simp), ?_⟩
  iterate 3 refine drawStep ?_
  refine drawFrz ?_
  refine guardE_of (by simp [Value.cells]) ?_
  refine guardE_of ⟨by omega, by show (0 + b.tracks.length) * 16 ≤ 140737488355328; omega⟩ ?_
  refine ⟨rfl, rfl, (by show (0 + b.tracks.length) * 1 = (b.tracks.map AV.str).length; simp), ?_⟩
  repeat first | refine opsStep ?_ | refine codeStep ?_ | refine drawStep ?_
  refine .inl ⟨_, _, [], hun, RdsN_refl _, .inr rfl, none_need, ?_⟩
  repeat first | refine opsStep ?_ | refine codeStep ?_ | refine drawStep ?_
  refine ⟨by kernel_rfl, ?_⟩
  refine VCode.ent (Ent.frD (l := [(2, aRs kw words), (3, .ref 0 0 0), (4, .ref 1 0 0), (7, .bool b1), (11, .bool false), (13, aSs .any names), (14, .sl .any w.length (iW w)), (15, .int .i64 0), (16, aSs .any names), (17, .int .i64 0)]) (H' := [.cells 0 a.cells, .cells 0 b.cells]) (X := [.fro 1 (a.tracks.map .str), .fro 1 (b.tracks.map .str)]) ⟨(by kernel_rfl), (by kernel_rfl), (by kernel_rfl), (by kernel_rfl), (by kernel_rfl), (by kernel_rfl), (by kernel_rfl), (by kernel_rfl), (by kernel_rfl), (by kernel_rfl), trivial⟩ (by kernel_rfl) (Nat.le_of_ble_eq_true (by kernel_rfl)) (by simp [frBel, AV.bel, bels, aSs_bel, aRs_bel, iW_bel]) (by simp [blksBel, Blk.bel, bels, Aut.cells, aSs_bel, aBs_bel, aIs_bel])) ?_
  repeat first | refine opsStep ?_ | refine codeStep ?_ | refine drawStep ?_
  refine callP hwa ?_
  repeat first | refine opsStep ?_ | refine codeStep ?_ | refine drawStep ?_
  refine callP hwb ?_
  repeat first | refine opsStep ?_ | refine codeStep ?_ | refine drawStep ?_
  refine loopE_of (ι := {i : Nat // i ≤ words.length})
    (fun i => (fr [(7, .bool b1), (11, .bool false), (13, aSs .any names), (14, .sl .any w.length (iW w)), (15, .int .i64 0), (16, aSs .any names), (18, .ref 2 0 0), (20, .ref 3 0 0), (134, aRs kw words), (135, .int .i64 words.length), (136, .int .i64 i.1)], [.cells 0 a.cells, .cells 0 b.cells, .cells 0 x.cells, .cells 0 y.cells]))
    (fun i => words.length - i.1) ⟨0, by omega⟩ (Ent.fr' ⟨(by kernel_rfl), (by kernel_rfl), (by kernel_rfl), (by kernel_rfl), (by kernel_rfl), (by kernel_rfl), (by kernel_rfl), (by kernel_rfl), (by kernel_rfl), (by kernel_rfl), (by kernel_rfl), trivial⟩ (by kernel_rfl)) ?_
  rintro ⟨i, hi⟩
  repeat first | refine opsStep ?_ | refine codeStep ?_ | refine drawStep ?_
  refine decB_dec (fun hlt => ?_) (fun hlt => ?_)
  · have hia : i < words.length := by have := hlt; simp at this; omega
    have hvl := hws _ (List.getElem_mem hia)
    have hgi : words[i]? = some words[i] := List.getElem?_eq_getElem hia
    generalize words[i] = v at *
    obtain ⟨vk, v⟩ := v
    simp only at hvl
    have hW := r12_Word vk v names.length (by omega) (by omega)
    repeat first | refine opsStep ?_ | refine codeStep ?_ | refine drawStep ?_
    refine guardE_of (by simp; omega) ?_
    repeat first | refine opsStep ?_ | refine codeStep ?_ | refine drawStep ?_
    refine optE_of (c := aIs vk v) (by simp [Value.cells, hgi]) ?_
    repeat first | refine opsStep ?_ | refine codeStep ?_ | refine drawStep ?_
    refine decB_dec (fun hv0 => ?_) (fun hv0 => ?_)
    · repeat first | refine opsStep ?_ | refine codeStep ?_ | refine drawStep ?_
      refine ⟨⟨i + 1, by omega⟩, (by show words.length - (i + 1) < words.length - i; omega), Ent.fr' ⟨(by kernel_rfl), (by kernel_rfl), (by kernel_rfl), (by kernel_rfl), (by kernel_rfl), (by kernel_rfl), (by kernel_rfl), (by kernel_rfl), (by kernel_rfl), (by kernel_rfl), inc_slot (i := i) (by omega), trivial⟩ (by kernel_rfl)⟩
    have hv0 : v ≠ [] := by intro e; rw [e] at hv0; simp at hv0
    repeat first | refine opsStep ?_ | refine codeStep ?_ | refine drawStep ?_
    refine callP hW ?_
    cases hwb : wordB names.length v with
    | false =>
      repeat first | refine opsStep ?_ | refine codeStep ?_ | refine drawStep ?_
      refine ⟨⟨i + 1, by omega⟩, (by show words.length - (i + 1) < words.length - i; omega), Ent.fr' ⟨(by kernel_rfl), (by kernel_rfl), (by kernel_rfl), (by kernel_rfl), (by kernel_rfl), (by kernel_rfl), (by kernel_rfl), (by kernel_rfl), (by kernel_rfl), (by kernel_rfl), inc_slot (i := i) (by omega), trivial⟩ (by kernel_rfl)⟩
    | true =>
      obtain ⟨u, rfl, hu⟩ := wordB_nat hwb
      have hul : u.length * 8 ≤ 140737488351232 := by simpa using hvl
      have hune : u ≠ [] := by simpa using hv0
      have hT1 := r12_Takes vk x hokx ra u (by omega) (by rw [t1]; exact hu)
      rw [takesB_lang (by rw [t1]; exact hu)] at hT1
      have hT2 := r12_Takes vk y hoky rb u (by omega) (by rw [t2]; exact hu)
      rw [takesB_lang (by rw [t2]; exact hu)] at hT2
      have hqw := fun e => hin e u hune hu
      have hle := w4' u hune hu
      have hcm := hCm vk (u.map fun n : Nat => (n : Int)) (by simp; omega)
      have hc0 := fun h => cmpW_sle (hle h)
      generalize lang x u = p at *
      generalize lang y u = q at *
      generalize cmpW (w.map fun n : Nat => (n : Int)) (u.map fun n : Nat => (n : Int)) = cv at *
      repeat first | refine opsStep ?_ | refine codeStep ?_ | refine drawStep ?_
      refine SW.drawn rfl (by kernel_rfl) ?_
      repeat first | refine opsStep ?_ | refine codeStep ?_ | refine drawStep ?_
      refine .inl ⟨_, _, [], hT1, RdsN_refl _, .inr rfl, none_need, ?_⟩
      repeat first | refine opsStep ?_ | refine codeStep ?_ | refine drawStep ?_
      refine .inl ⟨_, _, [], hT2, RdsN_refl _, .inr rfl, none_need, ?_⟩
      repeat first | refine opsStep ?_ | refine codeStep ?_ | refine drawStep ?_
      refine ⟨by kernel_rfl, ?_⟩
      refine VCode.ent (Ent.fr' (l := [(7, .bool b1), (11, .bool false), (13, aSs .any names), (14, .sl .any w.length (iW w)), (15, .int .i64 0), (16, aSs .any names), (18, .ref 2 0 0), (20, .ref 3 0 0), (134, aRs kw words), (135, .int .i64 words.length), (136, .int .i64 i), (23, aIs vk (u.map fun n : Nat => (n : Int))), (24, .bool p), (25, .bool q)]) (H' := [.cells 0 a.cells, .cells 0 b.cells, .cells 0 x.cells, .cells 0 y.cells]) ⟨(by kernel_rfl), (by kernel_rfl), (by kernel_rfl), (by kernel_rfl), (by kernel_rfl), (by kernel_rfl), (by kernel_rfl), (by kernel_rfl), (by kernel_rfl), (by kernel_rfl), (by kernel_rfl), (by kernel_rfl), (by kernel_rfl), (by kernel_rfl), trivial⟩ (by kernel_rfl)) ?_
      by_cases hpq : p = q
      · subst hpq
        cases b1 <;> cases p
        all_goals
          repeat first | refine opsStep ?_ | refine codeStep ?_ | refine drawStep ?_
          refine ⟨⟨i + 1, by omega⟩, (by show words.length - (i + 1) < words.length - i; omega), Ent.fr' ⟨(by kernel_rfl), (by kernel_rfl), (by kernel_rfl), (by kernel_rfl), (by kernel_rfl), (by kernel_rfl), (by kernel_rfl), (by kernel_rfl), (by kernel_rfl), (by kernel_rfl), inc_slot (i := i) (by omega), trivial⟩ (by kernel_rfl)⟩
      · have hc0 := hc0 hpq
        have hbb : b1 = true → p = false := fun e => by
          have := hqw e
          revert this hpq
          cases p <;> cases q <;> simp [qW]
        cases p with
        | false =>
          cases q with
          | false => exact absurd rfl hpq
          | true =>
            cases b1
            all_goals
              repeat first | refine opsStep ?_ | refine codeStep ?_ | refine drawStep ?_
              refine callP hcm ?_
              repeat first | refine opsStep ?_ | refine codeStep ?_ | refine drawStep ?_
              refine decB_dec (fun hgt => ?_) (fun hgt => ?_)
              · exact absurd hgt (by omega)
              repeat first | refine opsStep ?_ | refine codeStep ?_ | refine drawStep ?_
              refine ⟨⟨i + 1, by omega⟩, (by show words.length - (i + 1) < words.length - i; omega), Ent.fr' ⟨(by kernel_rfl), (by kernel_rfl), (by kernel_rfl), (by kernel_rfl), (by kernel_rfl), (by kernel_rfl), (by kernel_rfl), (by kernel_rfl), (by kernel_rfl), (by kernel_rfl), inc_slot (i := i) (by omega), trivial⟩ (by kernel_rfl)⟩
        | true =>
          cases q with
          | true => exact absurd rfl hpq
          | false =>
            cases b1 with
            | true => exact absurd (hbb rfl) (by simp)
            | false =>
              repeat first | refine opsStep ?_ | refine codeStep ?_ | refine drawStep ?_
              refine callP hcm ?_
              repeat first | refine opsStep ?_ | refine codeStep ?_ | refine drawStep ?_
              refine decB_dec (fun hgt => ?_) (fun hgt => ?_)
              · exact absurd hgt (by omega)
              repeat first | refine opsStep ?_ | refine codeStep ?_ | refine drawStep ?_
              refine ⟨⟨i + 1, by omega⟩, (by show words.length - (i + 1) < words.length - i; omega), Ent.fr' ⟨(by kernel_rfl), (by kernel_rfl), (by kernel_rfl), (by kernel_rfl), (by kernel_rfl), (by kernel_rfl), (by kernel_rfl), (by kernel_rfl), (by kernel_rfl), (by kernel_rfl), inc_slot (i := i) (by omega), trivial⟩ (by kernel_rfl)⟩
  · have hwp : ¬ w.length = 0 := fun e => w1 (List.length_eq_zero_iff.1 e)
    repeat first | refine opsStep ?_ | refine codeStep ?_ | refine drawStep ?_
    refine SW.drawn rfl (by kernel_rfl) ?_
    repeat first | refine opsStep ?_ | refine codeStep ?_ | refine drawStep ?_
    refine decB_true (by simp) ?_
    repeat first | refine opsStep ?_ | refine codeStep ?_ | refine drawStep ?_
    refine decB_true (by simp; omega) ?_
    repeat first | refine opsStep ?_ | refine codeStep ?_ | refine drawStep ?_
    refine .inl ⟨_, _, [], hWw, RdsN_refl _, .inr rfl, none_need, ?_⟩
    repeat first | refine opsStep ?_ | refine codeStep ?_ | refine drawStep ?_
    refine .inl ⟨_, _, [], hTx, RdsN_refl _, .inr rfl, none_need, ?_⟩
    repeat first | refine opsStep ?_ | refine codeStep ?_ | refine drawStep ?_
    refine .inl ⟨_, _, [], hTy, RdsN_refl _, .inr rfl, none_need, ?_⟩
    repeat first | refine opsStep ?_ | refine codeStep ?_ | refine drawStep ?_
    refine ⟨by kernel_rfl, ?_⟩
    repeat first | refine opsStep ?_ | refine codeStep ?_ | refine drawStep ?_
    exact finB (b' := p0 != q0) (by kernel_rfl) (by have w3' : (p0 != q0) = true := w3'; rw [w3'])

theorem tells_none (a b : Aut) (kw : SK) (words : List (SK × List Int)) (ha : AutOk a) (hb : AutOk b) (hwl : words.length * 24 ≤ 140737488351232) (hws : ∀ v ∈ words, v.2.length * 8 ≤ 140737488351232) (h : opE a b = 0) (hw : cmpO (opA a b) (opB a b) qS = none) : Pure Try.prog 8 [aAut a, aAut b, aRs kw words] (.bool true) := by
  have h1 := cmp_Within a b ha hb
  have h2 := cmp_Within b a hb ha
  have h3 := cmp_Same a b ha hb
  have h4 := cmp_Apart a b ha hb
  have hap : apV a b = .tup [.sl .nil 0 [], .sl .nil 0 [], .int .i64 4] := by rw [apV, if_pos h, tellO_ok h, hw]
  have hS : noneB qS a b = true := by rw [noneB_ok h, hw]; rfl
  have hall := (none_iff (q := qS) h).1 hS
  have hb12 := same_iff h
  rw [hS] at hb12 h3
  rw [hap] at h4
  rw [opE_sym, h] at h2
  rw [h] at h1 h3
  have hmade := op_made h
  obtain ⟨hca, hcb, h6⟩ := opE_zero h
  obtain ⟨o1, o2⟩ := opA_ok h
  have hon := fun v hv => op_lang h (v := v) hv
  have htr1 := (unpD_right hca).2.1
  have htr2 := (unpD_right hcb).2.1
  have oka := unpD_den ha
  have okb := unpD_den hb
  have hus := unN_sizes oka okb
  obtain ⟨q1, q2, w0, v0, ra, rb, t1, t2⟩ := hmade
  obtain ⟨jd1, jd2, jd3, jd4⟩ := tracksS_parts (rightS_parts q1).1
  obtain ⟨je1, je2, je3, je4⟩ := tracksS_parts (rightS_parts q2).1
  rw [htr1] at jd1 jd2
  rw [htr2] at je1 je2
  have hun := glyph_Union .any .any a.tracks b.tracks (by omega) (fun s hs => by have := ha.names s hs; omega) (fun s hs => by have := hb.names s hs; omega) jd2 je2
  have hU : unN (unpD a) (unpD b) = togS (a.tracks ++ b.tracks) := by rw [unN, htr1, htr2]
  rw [← hU, sl0, sl0] at hun
  have hwa := law21_wide a (unN (unpD a) (unpD b)) ha hca hus h6 w0
  have hwb := law21_wide b (unN (unpD a) (unpD b)) hb hcb hus h6 v0
  rw [← o1] at hwa
  rw [← o2] at hwb
  have hokx := widenD_den oka (by omega) hus w0
  have hoky := widenD_den okb (by omega) hus v0
  rw [← o1] at hokx
  rw [← o2] at hoky
  have hin := (none_iff (q := qW) h).1
  have d1 := ha.tracks
  have d2 := hb.tracks
  have hall' : ∀ v, v ≠ [] → Lets (unN (unpD a) (unpD b)).length v → lang (opA a b) v = lang (opB a b) v := fun v h1 h2 => by
    have := hall v h1 h2
    rw [← (hon v h2).1, ← (hon v h2).2] at this
    revert this
    cases lang (opA a b) v <;> cases lang (opB a b) v <;> simp [qS]
  generalize noneB qW a b = b1 at *
  generalize noneB qW b a = b2 at *
  generalize unN (unpD a) (unpD b) = names at *
  generalize opA a b = x at *
  generalize opB a b = y at *
  refine Pure.of_sw 226 Try.func8 rfl Try.ntmps8 (by kernel_rfl) (Nat.le_of_ble_eq_true (by kernel_rfl)) (by simp [closeds, AV.closed, aSs_closed, aIs_closed, aBs_closed, aRs_closed, aDen_closed, aCs_closed, aAut_closed]) (by simp [AV.closed, closeds, aSs_closed, aIs_closed, aBs_closed, aRs_closed, aDen_closed, aCs_closed, aAut_closed]) ?_; refine SW.of_vc ?_
  repeat first | refine opsStep ?_ | refine codeStep ?_ | refine drawStep ?_
  refine callP law21_fixed ?_
  repeat first | refine opsStep ?_ | refine codeStep ?_ | refine drawStep ?_
  refine callP h1 ?_
  repeat first | refine opsStep ?_ | refine codeStep ?_ | refine drawStep ?_
  refine callP h2 ?_
  repeat first | refine opsStep ?_ | refine codeStep ?_ | refine drawStep ?_
  refine callP h3 ?_
  repeat first | refine opsStep ?_ | refine codeStep ?_ | refine drawStep ?_
  refine callP h4 ?_
  iterate 8 refine opsStep ?_
  refine VCode.ent (Ent.fr' (l := [(2, aRs kw words), (3, .ref 0 0 0), (4, .ref 1 0 0), (7, .bool b1), (8, .int .i64 0), (9, .bool b2), (10, .int .i64 0), (11, .bool true), (12, .int .i64 0), (13, .sl .nil 0 []), (14, .sl .nil 0 []), (15, .int .i64 4)]) (H' := [.cells 0 a.cells, .cells 0 b.cells]) ⟨(by kernel_rfl), (by kernel_rfl), (by kernel_rfl), (by kernel_rfl), (by kernel_rfl), (by kernel_rfl), (by kernel_rfl), (by kernel_rfl), (by kernel_rfl), (by kernel_rfl), (by kernel_rfl), (by kernel_rfl), trivial⟩ (by kernel_rfl)) ?_
  refine VCode.upto (fr [(2, aRs kw words), (3, .ref 0 0 0), (4, .ref 1 0 0), (7, .bool b1), (9, .bool b2), (10, .int .i64 0), (11, .bool true), (12, .int .i64 0), (13, .sl .nil 0 []), (14, .sl .nil 0 []), (15, .int .i64 4)]) [.cells 0 a.cells, .cells 0 b.cells] ?_ ?_
  · repeat first | refine opsStep ?_ | refine codeStep ?_ | refine drawStep ?_
    show Ent _ _ _ _ _
    exact Ent.fr' ⟨(by kernel_rfl), (by kernel_rfl), (by kernel_rfl), (by kernel_rfl), (by kernel_rfl), (by kernel_rfl), (by kernel_rfl), (by kernel_rfl), (by kernel_rfl), (by kernel_rfl), (by kernel_rfl), trivial⟩ (by kernel_rfl)
  refine VCode.upto (fr [(2, aRs kw words), (3, .ref 0 0 0), (4, .ref 1 0 0), (7, .bool b1), (11, .bool true), (13, .sl .nil 0 []), (14, .sl .nil 0 []), (15, .int .i64 4)]) [.cells 0 a.cells, .cells 0 b.cells] ?_ ?_
  · cases b1 <;> cases b2
    all_goals
      first
      | exact absurd hb12 (by decide)
      | skip
    all_goals
      repeat first | refine opsStep ?_ | refine codeStep ?_ | refine drawStep ?_
      show Ent _ _ _ _ _
      exact Ent.fr' ⟨(by kernel_rfl), (by kernel_rfl), (by kernel_rfl), (by kernel_rfl), (by kernel_rfl), (by kernel_rfl), (by kernel_rfl), (by kernel_rfl), trivial⟩ (by kernel_rfl)
  repeat first | refine opsStep ?_ | refine codeStep ?_ | refine drawStep ?_
  refine SW.drawn rfl (by kernel_rfl) ?_
  iterate 3 refine drawStep ?_
  refine drawFrz ?_
  refine guardE_of (by simp [Value.cells]) ?_
  refine guardE_of ⟨by omega, by show (0 + a.tracks.length) * 16 ≤ 140737488355328; omega⟩ ?_
  refine ⟨rfl, rfl, (by show (0 + a.tracks.length) * 1 = (a.tracks.map AV.str).length; simp), ?_⟩
  iterate 3 refine drawStep ?_
  refine drawFrz ?_
  refine guardE_of (by simp [Value.cells]) ?_
  refine guardE_of ⟨by omega, by show (0 + b.tracks.length) * 16 ≤ 140737488355328; omega⟩ ?_
  refine ⟨rfl, rfl, (by show (0 + b.tracks.length) * 1 = (b.tracks.map AV.str).length; simp), ?_⟩
  repeat first | refine opsStep ?_ | refine codeStep ?_ | refine drawStep ?_
  refine .inl ⟨_, _, [], hun, RdsN_refl _, .inr rfl, none_need, ?_⟩
  repeat first | refine opsStep ?_ | refine codeStep ?_ | refine drawStep ?_
  refine ⟨by kernel_rfl, ?_⟩
  refine VCode.ent (Ent.frD (l := [(2, aRs kw words), (3, .ref 0 0 0), (4, .ref 1 0 0), (7, .bool b1), (11, .bool true), (13, .sl .nil 0 []), (14, .sl .nil 0 []), (15, .int .i64 4), (16, aSs .any names), (17, .int .i64 0)]) (H' := [.cells 0 a.cells, .cells 0 b.cells]) (X := [.fro 1 (a.tracks.map .str), .fro 1 (b.tracks.map .str)]) ⟨(by kernel_rfl), (by kernel_rfl), (by kernel_rfl), (by kernel_rfl), (by kernel_rfl), (by kernel_rfl), (by kernel_rfl), (by kernel_rfl), (by kernel_rfl), (by kernel_rfl), trivial⟩ (by kernel_rfl) (Nat.le_of_ble_eq_true (by kernel_rfl)) (by simp [frBel, AV.bel, bels, aSs_bel, aRs_bel, iW_bel]) (by simp [blksBel, Blk.bel, bels, Aut.cells, aSs_bel, aBs_bel, aIs_bel])) ?_
  repeat first | refine opsStep ?_ | refine codeStep ?_ | refine drawStep ?_
  refine callP hwa ?_
  repeat first | refine opsStep ?_ | refine codeStep ?_ | refine drawStep ?_
  refine callP hwb ?_
  repeat first | refine opsStep ?_ | refine codeStep ?_ | refine drawStep ?_
  refine loopE_of (ι := {i : Nat // i ≤ words.length})
    (fun i => (fr [(7, .bool b1), (11, .bool true), (13, .sl .nil 0 []), (14, .sl .nil 0 []), (15, .int .i64 4), (16, aSs .any names), (18, .ref 2 0 0), (20, .ref 3 0 0), (134, aRs kw words), (135, .int .i64 words.length), (136, .int .i64 i.1)], [.cells 0 a.cells, .cells 0 b.cells, .cells 0 x.cells, .cells 0 y.cells]))
    (fun i => words.length - i.1) ⟨0, by omega⟩ (Ent.fr' ⟨(by kernel_rfl), (by kernel_rfl), (by kernel_rfl), (by kernel_rfl), (by kernel_rfl), (by kernel_rfl), (by kernel_rfl), (by kernel_rfl), (by kernel_rfl), (by kernel_rfl), (by kernel_rfl), trivial⟩ (by kernel_rfl)) ?_
  rintro ⟨i, hi⟩
  repeat first | refine opsStep ?_ | refine codeStep ?_ | refine drawStep ?_
  refine decB_dec (fun hlt => ?_) (fun hlt => ?_)
  · have hia : i < words.length := by have := hlt; simp at this; omega
    have hvl := hws _ (List.getElem_mem hia)
    have hgi : words[i]? = some words[i] := List.getElem?_eq_getElem hia
    generalize words[i] = v at *
    obtain ⟨vk, v⟩ := v
    simp only at hvl
    have hW := r12_Word vk v names.length (by omega) (by omega)
    repeat first | refine opsStep ?_ | refine codeStep ?_ | refine drawStep ?_
    refine guardE_of (by simp; omega) ?_
    repeat first | refine opsStep ?_ | refine codeStep ?_ | refine drawStep ?_
    refine optE_of (c := aIs vk v) (by simp [Value.cells, hgi]) ?_
    repeat first | refine opsStep ?_ | refine codeStep ?_ | refine drawStep ?_
    refine decB_dec (fun hv0 => ?_) (fun hv0 => ?_)
    · repeat first | refine opsStep ?_ | refine codeStep ?_ | refine drawStep ?_
      refine ⟨⟨i + 1, by omega⟩, (by show words.length - (i + 1) < words.length - i; omega), Ent.fr' ⟨(by kernel_rfl), (by kernel_rfl), (by kernel_rfl), (by kernel_rfl), (by kernel_rfl), (by kernel_rfl), (by kernel_rfl), (by kernel_rfl), (by kernel_rfl), (by kernel_rfl), inc_slot (i := i) (by omega), trivial⟩ (by kernel_rfl)⟩
    have hv0 : v ≠ [] := by intro e; rw [e] at hv0; simp at hv0
    repeat first | refine opsStep ?_ | refine codeStep ?_ | refine drawStep ?_
    refine callP hW ?_
    cases hwb : wordB names.length v with
    | false =>
      repeat first | refine opsStep ?_ | refine codeStep ?_ | refine drawStep ?_
      refine ⟨⟨i + 1, by omega⟩, (by show words.length - (i + 1) < words.length - i; omega), Ent.fr' ⟨(by kernel_rfl), (by kernel_rfl), (by kernel_rfl), (by kernel_rfl), (by kernel_rfl), (by kernel_rfl), (by kernel_rfl), (by kernel_rfl), (by kernel_rfl), (by kernel_rfl), inc_slot (i := i) (by omega), trivial⟩ (by kernel_rfl)⟩
    | true =>
      obtain ⟨u, rfl, hu⟩ := wordB_nat hwb
      have hul : u.length * 8 ≤ 140737488351232 := by simpa using hvl
      have hune : u ≠ [] := by simpa using hv0
      have hT1 := r12_Takes vk x hokx ra u (by omega) (by rw [t1]; exact hu)
      rw [takesB_lang (by rw [t1]; exact hu)] at hT1
      have hT2 := r12_Takes vk y hoky rb u (by omega) (by rw [t2]; exact hu)
      rw [takesB_lang (by rw [t2]; exact hu), ← hall' u hune hu] at hT2
      generalize lang x u = p at *
      repeat first | refine opsStep ?_ | refine codeStep ?_ | refine drawStep ?_
      refine SW.drawn rfl (by kernel_rfl) ?_
      repeat first | refine opsStep ?_ | refine codeStep ?_ | refine drawStep ?_
      refine .inl ⟨_, _, [], hT1, RdsN_refl _, .inr rfl, none_need, ?_⟩
      repeat first | refine opsStep ?_ | refine codeStep ?_ | refine drawStep ?_
      refine .inl ⟨_, _, [], hT2, RdsN_refl _, .inr rfl, none_need, ?_⟩
      repeat first | refine opsStep ?_ | refine codeStep ?_ | refine drawStep ?_
      refine ⟨by kernel_rfl, ?_⟩
      refine VCode.ent (Ent.fr' (l := [(7, .bool b1), (11, .bool true), (13, .sl .nil 0 []), (14, .sl .nil 0 []), (15, .int .i64 4), (16, aSs .any names), (18, .ref 2 0 0), (20, .ref 3 0 0), (134, aRs kw words), (135, .int .i64 words.length), (136, .int .i64 i), (23, aIs vk (u.map fun n : Nat => (n : Int))), (24, .bool p), (25, .bool p)]) (H' := [.cells 0 a.cells, .cells 0 b.cells, .cells 0 x.cells, .cells 0 y.cells]) ⟨(by kernel_rfl), (by kernel_rfl), (by kernel_rfl), (by kernel_rfl), (by kernel_rfl), (by kernel_rfl), (by kernel_rfl), (by kernel_rfl), (by kernel_rfl), (by kernel_rfl), (by kernel_rfl), (by kernel_rfl), (by kernel_rfl), (by kernel_rfl), trivial⟩ (by kernel_rfl)) ?_
      cases b1 <;> cases p
      all_goals
        repeat first | refine opsStep ?_ | refine codeStep ?_ | refine drawStep ?_
        refine ⟨⟨i + 1, by omega⟩, (by show words.length - (i + 1) < words.length - i; omega), Ent.fr' ⟨(by kernel_rfl), (by kernel_rfl), (by kernel_rfl), (by kernel_rfl), (by kernel_rfl), (by kernel_rfl), (by kernel_rfl), (by kernel_rfl), (by kernel_rfl), (by kernel_rfl), inc_slot (i := i) (by omega), trivial⟩ (by kernel_rfl)⟩
  · repeat first | refine opsStep ?_ | refine codeStep ?_ | refine drawStep ?_
    exact finB (b' := true) (by kernel_rfl) rfl

theorem law_CompareTells (a b : Aut) (kw : SK) (words : List (SK × List Int)) (ha : AutOk a) (hb : AutOk b) (hwl : words.length * 24 ≤ 140737488351232) (hws : ∀ v ∈ words, v.2.length * 8 ≤ 140737488351232) : Pure Try.prog 8 [aAut a, aAut b, aRs kw words] (.bool true) := by
  by_cases h : opE a b = 0
  · cases hw : cmpO (opA a b) (opB a b) qS with
    | none => exact tells_none a b kw words ha hb hwl hws h hw
    | some w => exact tells_some a b kw words ha hb hwl hws h w hw
  · exact tells_bad a b kw words ha hb h

end Tab
