/- Lemmas for this claim: part 13. No condition. -/
import Derived.Test.YtbglkpnchafdpaaZ10
import Derived.Test.YtbglkpnchafdpaaZ12
/- The language of what Join answers. -/
namespace Tab
open Go Go.Proofs
set_option maxRecDepth 10000
set_option linter.unusedVariables false
set_option linter.unusedSimpArgs false
set_option linter.unusedSectionVars false

theorem join_made {op : Int} {d e : Den} (h : joinE op d e = 0) : rightS d = true ∧ rightS e = true ∧ (3 ≤ op ∧ op ≤ 6) ∧ (unN d e).length ≤ 6 ∧ widenE d (unN d e) = 0 ∧ widenE e (unN d e) = 0 ∧ risesS (unN d e) = true ∧
    rightS (widenD d (unN d e)) = true ∧ rightS (widenD e (unN d e)) = true ∧ ∃ L, prdR (widenD d (unN d e)) (widenD e (unN d e)) = some L ∧ joinV op d e = prdM (holdsS op) (unN d e) (widenD d (unN d e)) (widenD e (unN d e)) L := by
  obtain ⟨h1, h2, h6⟩ := joinE_ok h
  have h' := h
  rw [joinE_made h1 h2 h6] at h'
  obtain ⟨hd, he⟩ := Bool.and_eq_true_iff.1 h1
  obtain ⟨L, hL⟩ := prd_zero h'
  have hu := unN_rises hd he
  obtain ⟨i1, i2⟩ := unN_in (d := d) (e := e)
  exact ⟨hd, he, h2, h6, widenE_ok hd hu h6 i1, widenE_ok he hu h6 i2, hu, widenD_right hd h6 hu, widenD_right he h6 hu, L, hL, joinV_ok h hL⟩
theorem join_right {op : Int} {d e : Den} (h : joinE op d e = 0) : rightS (joinV op d e) = true ∧ (joinV op d e).tracks = unN d e ∧
    lang (joinV op d e) = prodL (holdsS op) (unN d e).length (lang (widenD d (unN d e))) (lang (widenD e (unN d e))) := by
  obtain ⟨hd, he, h2, h6, w0, v0, hu, wr, vr, L, hL, hv⟩ := join_made h
  rw [hv]
  exact ⟨prd_right wr vr rfl hu rfl hL, rfl, prd_lang (hk := rfl) (hnk := rfl) (hL := hL)⟩
theorem join_sound {op : Int} {d e : Den} (h : joinE op d e = 0) (h1 : soundD d = true) (h2 : soundD e = true) : soundD (joinV op d e) = true := by
  obtain ⟨hd, he, _, h6, w0, v0, hu, wr, vr, L, hL, _⟩ := join_made h
  obtain ⟨g1, g2, g3⟩ := join_right h
  have s1 := wid_sound w0
  have s2 := wid_sound v0
  rw [widenR_ok w0, h1] at s1
  rw [widenR_ok v0, h2] at s2
  rw [soundD_iff wr] at s1
  rw [soundD_iff vr] at s2
  rw [soundD_iff g1, g2, g3]
  exact prodL_sound s1 s2
theorem join_nil {op : Int} {d e : Den} (h : joinE op d e = 0) : ∃ l, (joinV op d e).accept = false :: l := by
  obtain ⟨hd, he, _, h6, w0, v0, hu, wr, vr, L, hL, hv⟩ := join_made h
  obtain ⟨r, hr⟩ := expl_prefix (f := pf (widenD d (unN d e)) (widenD e (unN d e))) 300 0 [stP]
  rw [(explO_some hL).1] at hr
  rw [hv, prdM, hr]
  exact ⟨_, rfl⟩
theorem join_takes {op : Int} {d e : Den} (h : joinE op d e = 0) {w : List Nat} (hw : Lets (unN d e).length w) (hne : w ≠ []) : lang (joinV op d e) w = holdsS op (lang (widenD d (unN d e)) w) (lang (widenD e (unN d e)) w) := by
  obtain ⟨_, _, h3⟩ := join_right h
  rw [h3, prodL, letB_iff.2 hw]
  cases w with
  | nil => exact absurd rfl hne
  | cons a w => simp

end Tab

/- Layer 16: the law ProdConnects. -/
namespace Tab
open Go Go.Proofs
set_option maxRecDepth 10000
set_option linter.unusedVariables false
set_option linter.unusedSimpArgs false
set_option linter.unusedSectionVars false

abbrev opK (op : Int) : Int := IntKind.wrap .i64 (Int.tmod (IntKind.wrap .u64 op) 4)
theorem opK_ok (op : Int) : opK op = 0 ∨ opK op = 1 ∨ opK op = 2 ∨ opK op = 3 := by
  have h0 : 0 ≤ IntKind.wrap .u64 op := by
    rw [IntKind.wrap]
    simp only [IntKind.signed, Bool.false_and, Bool.false_eq_true, if_false]
    exact Int.emod_nonneg _ (by decide)
  have h1 : 0 ≤ Int.tmod (IntKind.wrap .u64 op) 4 := Int.tmod_nonneg 4 h0
  have h2 : Int.tmod (IntKind.wrap .u64 op) 4 < 4 := Int.tmod_lt_of_pos _ (by decide)
  rw [opK, IntWalk.i64_in _ (by omega)]
  omega
theorem opK_add (op : Int) : IntKind.wrap .i64 (3 + opK op) = 3 + opK op := by
  rcases opK_ok op with h | h | h | h <;> rw [h] <;> decide
theorem law16_holds (op : Int) (a b : Bool) : Pure Try.prog 29 [.int .i64 (opK op), .bool a, .bool b] (.bool (holdsS (IntKind.wrap .i64 (3 + opK op)) a b)) := by
  rcases opK_ok op with h | h | h | h <;> rw [h]
  · have e : holdsS (IntKind.wrap .i64 (3 + 0)) a b = (a && b) := rfl
    rw [e]
    cases a <;> cases b
    all_goals
      refine Pure.of_sw 27 Try.func29 rfl Try.ntmps29 (by kernel_rfl) (Nat.le_of_ble_eq_true (by kernel_rfl)) (by simp [closeds, AV.closed, aSs_closed, aIs_closed, aBs_closed, aRs_closed, aDen_closed]) (by simp [AV.closed, closeds, aSs_closed, aIs_closed, aBs_closed, aRs_closed, aDen_closed]) ?_; refine SW.of_vc ?_
      repeat first | refine opsStep ?_ | refine codeStep ?_ | refine drawStep ?_
    · refine optX_of (c := [.bool false, .bool false, .bool true, .bool true]) (by kernel_rfl) ?_
      repeat first | refine opsStep ?_ | refine codeStep ?_ | refine drawStep ?_
      exact finB (b' := false) (by kernel_rfl) rfl
    · refine optX_of (c := [.bool false, .bool true, .bool true, .bool false]) (by kernel_rfl) ?_
      repeat first | refine opsStep ?_ | refine codeStep ?_ | refine drawStep ?_
      exact finB (b' := false) (by kernel_rfl) rfl
    · refine optX_of (c := [.bool false, .bool true, .bool false, .bool false]) (by kernel_rfl) ?_
      repeat first | refine opsStep ?_ | refine codeStep ?_ | refine drawStep ?_
      exact finB (b' := false) (by kernel_rfl) rfl
    · refine optX_of (c := [.bool true, .bool true, .bool true, .bool true]) (by kernel_rfl) ?_
      repeat first | refine opsStep ?_ | refine codeStep ?_ | refine drawStep ?_
      exact finB (b' := true) (by kernel_rfl) rfl
  · have e : holdsS (IntKind.wrap .i64 (3 + 1)) a b = (a || b) := rfl
    rw [e]
    cases a <;> cases b
    all_goals
      refine Pure.of_sw 27 Try.func29 rfl Try.ntmps29 (by kernel_rfl) (Nat.le_of_ble_eq_true (by kernel_rfl)) (by simp [closeds, AV.closed, aSs_closed, aIs_closed, aBs_closed, aRs_closed, aDen_closed]) (by simp [AV.closed, closeds, aSs_closed, aIs_closed, aBs_closed, aRs_closed, aDen_closed]) ?_; refine SW.of_vc ?_
      repeat first | refine opsStep ?_ | refine codeStep ?_ | refine drawStep ?_
    · refine optX_of (c := [.bool false, .bool false, .bool true, .bool true]) (by kernel_rfl) ?_
      repeat first | refine opsStep ?_ | refine codeStep ?_ | refine drawStep ?_
      exact finB (b' := false) (by kernel_rfl) rfl
    · refine optX_of (c := [.bool false, .bool true, .bool true, .bool false]) (by kernel_rfl) ?_
      repeat first | refine opsStep ?_ | refine codeStep ?_ | refine drawStep ?_
      exact finB (b' := true) (by kernel_rfl) rfl
    · refine optX_of (c := [.bool false, .bool true, .bool false, .bool false]) (by kernel_rfl) ?_
      repeat first | refine opsStep ?_ | refine codeStep ?_ | refine drawStep ?_
      exact finB (b' := true) (by kernel_rfl) rfl
    · refine optX_of (c := [.bool true, .bool true, .bool true, .bool true]) (by kernel_rfl) ?_
      repeat first | refine opsStep ?_ | refine codeStep ?_ | refine drawStep ?_
      exact finB (b' := true) (by kernel_rfl) rfl
  · have e : holdsS (IntKind.wrap .i64 (3 + 2)) a b = (!a || b) := rfl
    rw [e]
    cases a <;> cases b
    all_goals
      refine Pure.of_sw 27 Try.func29 rfl Try.ntmps29 (by kernel_rfl) (Nat.le_of_ble_eq_true (by kernel_rfl)) (by simp [closeds, AV.closed, aSs_closed, aIs_closed, aBs_closed, aRs_closed, aDen_closed]) (by simp [AV.closed, closeds, aSs_closed, aIs_closed, aBs_closed, aRs_closed, aDen_closed]) ?_; refine SW.of_vc ?_
      repeat first | refine opsStep ?_ | refine codeStep ?_ | refine drawStep ?_
    · refine optX_of (c := [.bool false, .bool false, .bool true, .bool true]) (by kernel_rfl) ?_
      repeat first | refine opsStep ?_ | refine codeStep ?_ | refine drawStep ?_
      exact finB (b' := true) (by kernel_rfl) rfl
    · refine optX_of (c := [.bool false, .bool true, .bool true, .bool false]) (by kernel_rfl) ?_
      repeat first | refine opsStep ?_ | refine codeStep ?_ | refine drawStep ?_
      exact finB (b' := true) (by kernel_rfl) rfl
    · refine optX_of (c := [.bool false, .bool true, .bool false, .bool false]) (by kernel_rfl) ?_
      repeat first | refine opsStep ?_ | refine codeStep ?_ | refine drawStep ?_
      exact finB (b' := false) (by kernel_rfl) rfl
    · refine optX_of (c := [.bool true, .bool true, .bool true, .bool true]) (by kernel_rfl) ?_
      repeat first | refine opsStep ?_ | refine codeStep ?_ | refine drawStep ?_
      exact finB (b' := true) (by kernel_rfl) rfl
  · have e : holdsS (IntKind.wrap .i64 (3 + 3)) a b = (a == b) := rfl
    rw [e]
    cases a <;> cases b
    all_goals
      refine Pure.of_sw 27 Try.func29 rfl Try.ntmps29 (by kernel_rfl) (Nat.le_of_ble_eq_true (by kernel_rfl)) (by simp [closeds, AV.closed, aSs_closed, aIs_closed, aBs_closed, aRs_closed, aDen_closed]) (by simp [AV.closed, closeds, aSs_closed, aIs_closed, aBs_closed, aRs_closed, aDen_closed]) ?_; refine SW.of_vc ?_
      repeat first | refine opsStep ?_ | refine codeStep ?_ | refine drawStep ?_
    · refine optX_of (c := [.bool false, .bool false, .bool true, .bool true]) (by kernel_rfl) ?_
      repeat first | refine opsStep ?_ | refine codeStep ?_ | refine drawStep ?_
      exact finB (b' := true) (by kernel_rfl) rfl
    · refine optX_of (c := [.bool false, .bool true, .bool true, .bool false]) (by kernel_rfl) ?_
      repeat first | refine opsStep ?_ | refine codeStep ?_ | refine drawStep ?_
      exact finB (b' := false) (by kernel_rfl) rfl
    · refine optX_of (c := [.bool false, .bool true, .bool false, .bool false]) (by kernel_rfl) ?_
      repeat first | refine opsStep ?_ | refine codeStep ?_ | refine drawStep ?_
      exact finB (b' := false) (by kernel_rfl) rfl
    · refine optX_of (c := [.bool true, .bool true, .bool true, .bool true]) (by kernel_rfl) ?_
      repeat first | refine opsStep ?_ | refine codeStep ?_ | refine drawStep ?_
      exact finB (b' := true) (by kernel_rfl) rfl

theorem law_ProdConnects (op : Int) (kw : SK) (d e : Den) (words : List (SK × List Int)) (hd : DenOk d) (he : DenOk e) (hwl : words.length * 24 ≤ 140737488351232) (hws : ∀ v ∈ words, v.2.length * 8 ≤ 140737488351232) :
    Pure Try.prog 8 [.int .i64 op, aDen d, aDen e, aRs kw words] (.bool true) := by
  have hcd := r12_CopyDense d hd
  have hce := r12_CopyDense e he
  have hokc := copyD_ok hd
  have hokf := copyD_ok he
  have hj := prod_JoinV (IntKind.wrap .i64 (3 + opK op)) (copyD d) (copyD e) hokc hokf
  obtain ⟨c1, c2⟩ := joinV_copy (IntKind.wrap .i64 (3 + opK op)) d e
  rw [c1, c2] at hj
  have hokM := joinV_den (op := IntKind.wrap .i64 (3 + opK op)) hd he
  have hR := r12_Right (joinV (IntKind.wrap .i64 (3 + opK op)) d e) hokM
  have hSm := canon_Sound (joinV (IntKind.wrap .i64 (3 + opK op)) d e) hokM
  have hSd := canon_Sound d hd
  have hSe := canon_Sound e he
  have hbad := fun h => joinV_bad (op := IntKind.wrap .i64 (3 + opK op)) (d := d) (e := e) h
  have hmade := fun h => join_made (op := IntKind.wrap .i64 (3 + opK op)) (d := d) (e := e) h
  have hright := fun h => join_right (op := IntKind.wrap .i64 (3 + opK op)) (d := d) (e := e) h
  have hsnd := fun h => join_sound (op := IntKind.wrap .i64 (3 + opK op)) (d := d) (e := e) h
  have hnil := fun h => join_nil (op := IntKind.wrap .i64 (3 + opK op)) (d := d) (e := e) h
  have htk := fun h w hw hne => join_takes (op := IntKind.wrap .i64 (3 + opK op)) (d := d) (e := e) h (w := w) hw hne
  generalize joinV (IntKind.wrap .i64 (3 + opK op)) d e = m at *
  generalize hz : joinE (IntKind.wrap .i64 (3 + opK op)) d e = z at *
  have hwW := fun names h1 h2 => track_Widen_pure .any (copyD d) names hokc h1 h2
  have hwV := fun names h1 h2 => track_Widen_pure .any (copyD e) names hokf h1 h2
  simp only [copyD_widenE, copyD_widenR] at hwW hwV
  generalize copyD d = f at *
  generalize copyD e = g at *
  refine Pure.of_sw 178 Try.func8 rfl Try.ntmps8 (by kernel_rfl) (Nat.le_of_ble_eq_true (by kernel_rfl)) (by simp [closeds, AV.closed, aSs_closed, aIs_closed, aBs_closed, aRs_closed, aDen_closed]) (by simp [AV.closed, closeds, aSs_closed, aIs_closed, aBs_closed, aRs_closed, aDen_closed]) ?_; refine SW.of_vc ?_
  repeat first | refine opsStep ?_ | refine codeStep ?_ | refine drawStep ?_
  refine callP law16_fixed ?_
  repeat first | refine opsStep ?_ | refine codeStep ?_ | refine drawStep ?_
  refine SW.drawn rfl (by kernel_rfl) ?_
  repeat first | refine opsStep ?_ | refine codeStep ?_ | refine drawStep ?_
  refine .inl ⟨_, _, [], hcd, RdsN_refl _, .inr rfl, none_need, ?_⟩
  repeat first | refine opsStep ?_ | refine codeStep ?_ | refine drawStep ?_
  refine .inl ⟨_, _, [], hce, RdsN_refl _, .inr rfl, none_need, ?_⟩
  repeat first | refine opsStep ?_ | refine codeStep ?_ | refine drawStep ?_
  refine .inl ⟨_, _, [], hj, RdsN_refl _, .inr rfl, none_need, ?_⟩
  repeat first | refine opsStep ?_ | refine codeStep ?_ | refine drawStep ?_
  refine ⟨by kernel_rfl, ?_⟩
  refine VCode.ent (Ent.fr' (l := [(0, .int .i64 (opK op)), (3, aRs kw words), (5, .ref 0 0 0), (6, .ref 1 0 0), (9, .ref 2 0 0), (10, .int .i64 z)]) (H' := [Blk.cells 0 d.cells, .cells 0 e.cells, .cells 0 m.cells]) ⟨(by kernel_rfl), (by kernel_rfl), (by kernel_rfl), (by kernel_rfl), (by kernel_rfl), (by kernel_rfl), trivial⟩ (by kernel_rfl)) ?_
  repeat first | refine opsStep ?_ | refine codeStep ?_ | refine drawStep ?_
  refine decB_dec (fun hw => ?_) (fun hw => ?_)
  · have hw : ¬ z = 0 := hw
    have := hbad hw
    repeat first | refine opsStep ?_ | refine codeStep ?_ | refine drawStep ?_
    exact finB (b' := decide ((m.accept.length : Int) = 0)) (by kernel_rfl) (by simp [this, den0])
  have h0 : z = 0 := Decidable.of_not_not hw
  subst h0
  obtain ⟨hrd, hre, _, h6, w0, v0, hur, wr, vr, _⟩ := hmade rfl
  obtain ⟨m1, m2, m3⟩ := hright rfl
  obtain ⟨ac, hac⟩ := hnil rfl
  have hsnd := hsnd rfl
  have htk := fun w hw hne => htk rfl w hw hne
  have hus := unN_sizes hd he
  obtain ⟨jd1, jd2, jd3, jd4⟩ := tracksS_parts (rightS_parts hrd).1
  obtain ⟨je1, je2, je3, je4⟩ := tracksS_parts (rightS_parts hre).1
  have hd1 := hd.tracks
  have he1 := he.tracks
  have hun := glyph_Union .any .any d.tracks e.tracks (by omega) (fun s hs => by have := hd.names s hs; omega) (fun s hs => by have := he.names s hs; omega) jd2 je2
  rw [← unN, sl0, sl0] at hun
  have hwd := hwW (unN d e) (by omega) hus
  have hwe := hwV (unN d e) (by omega) hus
  rw [widenR_ok w0, w0] at hwd
  rw [widenR_ok v0, v0] at hwe
  have hoka := widenD_den hd (by omega) hus w0
  have hokb := widenD_den he (by omega) hus v0
  have ta : (widenD d (unN d e)).tracks = unN d e := rfl
  have tb : (widenD e (unN d e)).tracks = unN d e := rfl
  generalize widenD d (unN d e) = a at *
  generalize widenD e (unN d e) = b at *
  generalize unN d e = names at *
  have hRa := r12_Right a hoka
  have hRb := r12_Right b hokb
  rw [wr] at hRa
  rw [vr] at hRb
  rw [m1] at hR
  refine VCode.ent (Ent.fr' (l := [(0, .int .i64 (opK op)), (3, aRs kw words), (5, .ref 0 0 0), (6, .ref 1 0 0), (9, .ref 2 0 0)]) (H' := [Blk.cells 0 d.cells, .cells 0 e.cells, .cells 0 m.cells]) ⟨(by kernel_rfl), (by kernel_rfl), (by kernel_rfl), (by kernel_rfl), (by kernel_rfl), trivial⟩ (by kernel_rfl)) ?_
  repeat first | refine opsStep ?_ | refine codeStep ?_ | refine drawStep ?_
  refine SW.drawn rfl (by kernel_rfl) ?_
  iterate 3 refine drawStep ?_
  refine drawFrz ?_
  refine guardE_of (by simp [Value.cells]) ?_
  refine guardE_of ⟨by omega, by show (0 + d.tracks.length) * 16 ≤ 140737488355328; omega⟩ ?_
  refine ⟨rfl, rfl, (by show (0 + d.tracks.length) * 1 = (d.tracks.map AV.str).length; simp), ?_⟩
  iterate 3 refine drawStep ?_
  refine drawFrz ?_
  refine guardE_of (by simp [Value.cells]) ?_
  refine guardE_of ⟨by omega, by show (0 + e.tracks.length) * 16 ≤ 140737488355328; omega⟩ ?_
  refine ⟨rfl, rfl, (by show (0 + e.tracks.length) * 1 = (e.tracks.map AV.str).length; simp), ?_⟩
  repeat first | refine opsStep ?_ | refine codeStep ?_ | refine drawStep ?_
  refine .inl ⟨_, _, [], hun, RdsN_refl _, .inr rfl, none_need, ?_⟩
  repeat first | refine opsStep ?_ | refine codeStep ?_ | refine drawStep ?_
  refine ⟨by kernel_rfl, ?_⟩
  refine VCode.ent (Ent.frD (l := [(0, .int .i64 (opK op)), (3, aRs kw words), (5, .ref 0 0 0), (6, .ref 1 0 0), (9, .ref 2 0 0), (11, aSs .any names), (10, .int .i64 0)]) (H' := [Blk.cells 0 d.cells, .cells 0 e.cells, .cells 0 m.cells]) (X := [.fro 1 (d.tracks.map .str), .fro 1 (e.tracks.map .str)]) ⟨(by kernel_rfl), (by kernel_rfl), (by kernel_rfl), (by kernel_rfl), (by kernel_rfl), (by kernel_rfl), (by kernel_rfl), trivial⟩ (by kernel_rfl) (Nat.le_of_ble_eq_true (by kernel_rfl)) (by first | (simp [frBel, blksBel, Blk.bel, AV.bel, bels, bels_append, bels_map, aSs_bel, aIs_bel, aBs_bel, aRs_bel, aDen_bel, cells_bel]; done) | (simp only [List.drop_zero, ← List.map_take, ← List.map_drop, List.map_map, frBel, blksBel, Blk.bel, AV.bel, bels, bels_append, bels_map, aSs_bel, aIs_bel, aBs_bel, aRs_bel, aDen_bel, cells_bel]; simp [AV.bel, aSs_bel, aIs_bel, aBs_bel, aRs_bel, aDen_bel, cells_bel])) (by first | (simp [frBel, blksBel, Blk.bel, AV.bel, bels, bels_append, bels_map, aSs_bel, aIs_bel, aBs_bel, aRs_bel, aDen_bel, cells_bel]; done) | (simp only [List.drop_zero, ← List.map_take, ← List.map_drop, List.map_map, frBel, blksBel, Blk.bel, AV.bel, bels, bels_append, bels_map, aSs_bel, aIs_bel, aBs_bel, aRs_bel, aDen_bel, cells_bel]; simp [AV.bel, aSs_bel, aIs_bel, aBs_bel, aRs_bel, aDen_bel, cells_bel]))) ?_
  repeat first | refine opsStep ?_ | refine codeStep ?_ | refine drawStep ?_
  refine callP hR ?_
  repeat first | refine opsStep ?_ | refine codeStep ?_ | refine drawStep ?_
  refine guardE_of (by rw [hac]; simp) ?_
  repeat first | refine opsStep ?_ | refine codeStep ?_ | refine drawStep ?_
  refine optE_of (c := AV.bool false) (by rw [hac]; rfl) ?_
  repeat first | refine opsStep ?_ | refine codeStep ?_ | refine drawStep ?_
  refine decB_false (by rw [m2]; simp) ?_
  repeat first | refine opsStep ?_ | refine codeStep ?_ | refine drawStep ?_
  refine callP hSd ?_
  cases hsd : soundD d with
  | false =>
    repeat first | refine opsStep ?_ | refine codeStep ?_ | refine drawStep ?_
    refine loopE_of (ι := {i : Nat // i ≤ names.length})
      (fun i => (fr [(0, .int .i64 (opK op)), (3, aRs kw words), (5, .ref 0 0 0), (6, .ref 1 0 0), (9, .ref 2 0 0), (11, aSs .any names), (87, .int .i64 names.length), (88, .int .i64 i.1)], [Blk.cells 0 d.cells, .cells 0 e.cells, .cells 0 m.cells]))
      (fun i => names.length - i.1) ⟨0, by omega⟩ (Ent.fr' ⟨(by kernel_rfl), (by kernel_rfl), (by kernel_rfl), (by kernel_rfl), (by kernel_rfl), (by kernel_rfl), (by kernel_rfl), (by kernel_rfl), trivial⟩ (by kernel_rfl)) ?_
    rintro ⟨i, hi⟩
    repeat first | refine opsStep ?_ | refine codeStep ?_ | refine drawStep ?_
    refine decB_dec (fun h => ?_) (fun h => ?_)
    · have hia : i < names.length := by have := h; simp at this; omega
      have hgi : names[i]? = some names[i] := List.getElem?_eq_getElem hia
      have hmi : m.tracks[i]? = some names[i] := by rw [m2]; exact hgi
      have hml : m.tracks.length = names.length := by rw [m2]
      generalize names[i] = s at *
      repeat first | refine opsStep ?_ | refine codeStep ?_ | refine drawStep ?_
      refine SW.drawn rfl (by kernel_rfl) ?_
      repeat first | refine opsStep ?_ | refine codeStep ?_ | refine drawStep ?_
      refine guardE_of (by simp; omega) ?_
      repeat first | refine opsStep ?_ | refine codeStep ?_ | refine drawStep ?_
      refine optE_of (c := AV.str s) (by simp [Value.cells, hmi]) ?_
      repeat first | refine opsStep ?_ | refine codeStep ?_ | refine drawStep ?_
      refine guardE_of (by simp; omega) ?_
      repeat first | refine opsStep ?_ | refine codeStep ?_ | refine drawStep ?_
      refine optE_of (c := AV.str s) (by simp [Value.cells, hgi]) ?_
      repeat first | refine opsStep ?_ | refine codeStep ?_ | refine drawStep ?_
      refine ⟨by kernel_rfl, ?_⟩
      repeat first | refine opsStep ?_ | refine codeStep ?_ | refine drawStep ?_
      refine decB_false (by simp) ?_
      repeat first | refine opsStep ?_ | refine codeStep ?_ | refine drawStep ?_
      refine ⟨⟨i + 1, by omega⟩, (by show names.length - (i + 1) < names.length - i; omega), Ent.fr' ⟨(by kernel_rfl), (by kernel_rfl), (by kernel_rfl), (by kernel_rfl), (by kernel_rfl), (by kernel_rfl), (by kernel_rfl), inc_slot (i := i) (by omega), trivial⟩ (by kernel_rfl)⟩
    repeat first | refine opsStep ?_ | refine codeStep ?_ | refine drawStep ?_
    refine callP hcd ?_
    repeat first | refine opsStep ?_ | refine codeStep ?_ | refine drawStep ?_
    refine callP hwd ?_
    repeat first | refine opsStep ?_ | refine codeStep ?_ | refine drawStep ?_
    refine callP hce ?_
    repeat first | refine opsStep ?_ | refine codeStep ?_ | refine drawStep ?_
    refine callP hwe ?_
    repeat first | refine opsStep ?_ | refine codeStep ?_ | refine drawStep ?_
    refine callP hRa ?_
    repeat first | refine opsStep ?_ | refine codeStep ?_ | refine drawStep ?_
    refine callP hRb ?_
    repeat first | refine opsStep ?_ | refine codeStep ?_ | refine drawStep ?_
    refine decB_false (by rw [ta]; simp) ?_
    repeat first | refine opsStep ?_ | refine codeStep ?_ | refine drawStep ?_
    refine decB_false (by rw [tb]; simp) ?_
    repeat first | refine opsStep ?_ | refine codeStep ?_ | refine drawStep ?_
    refine loopE_of (ι := {i : Nat // i ≤ words.length})
      (fun i => (fr [(0, .int .i64 (opK op)), (3, aRs kw words), (5, .ref 0 0 0), (6, .ref 1 0 0), (9, .ref 2 0 0), (11, aSs .any names), (13, .ref 3 0 0), (14, .ref 4 0 0), (148, aRs kw words), (149, .int .i64 words.length), (150, .int .i64 i.1)], [Blk.cells 0 d.cells, .cells 0 e.cells, .cells 0 m.cells] ++ [.cells 0 a.cells, .cells 0 b.cells]))
      (fun i => words.length - i.1) ⟨0, by omega⟩ (Ent.fr' ⟨(by kernel_rfl), (by kernel_rfl), (by kernel_rfl), (by kernel_rfl), (by kernel_rfl), (by kernel_rfl), (by kernel_rfl), (by kernel_rfl), (by kernel_rfl), (by kernel_rfl), (by kernel_rfl), trivial⟩ (by kernel_rfl)) ?_
    rintro ⟨i, hi⟩
    repeat first | refine opsStep ?_ | refine codeStep ?_ | refine drawStep ?_
    refine decB_dec (fun h => ?_) (fun h => ?_)
    · have hia : i < words.length := by have := h; simp at this; omega
      have hvl := hws _ (List.getElem_mem hia)
      have hgi : words[i]? = some words[i] := List.getElem?_eq_getElem hia
      generalize words[i] = v at *
      obtain ⟨vk, v⟩ := v
      simp only at hvl
      have hW := r12_Word vk v names.length (by omega) (by omega)
      repeat first | refine opsStep ?_ | refine codeStep ?_ | refine drawStep ?_
      refine guardE_of (by simp; omega) ?_
      repeat first | refine opsStep ?_ | refine codeStep ?_ | refine drawStep ?_
      refine optE_of (c := aIs vk v) (by simp [Value.cells, hgi]) ?_
      repeat first | refine opsStep ?_ | refine codeStep ?_ | refine drawStep ?_
      refine SW.drawn rfl (by kernel_rfl) ?_
      repeat first | refine opsStep ?_ | refine codeStep ?_ | refine drawStep ?_
      refine decB_dec (fun hv0 => ?_) (fun hv0 => ?_)
      · have hv0 : v ≠ [] := by intro e; rw [e] at hv0; simp at hv0
        repeat first | refine opsStep ?_ | refine codeStep ?_ | refine drawStep ?_
        refine .inl ⟨_, _, [], hW, RdsN_refl _, .inr rfl, none_need, ?_⟩
        cases hwb : wordB names.length v with
        | false =>
          repeat first | refine opsStep ?_ | refine codeStep ?_ | refine drawStep ?_
          refine ⟨by kernel_rfl, ?_⟩
          repeat first | refine opsStep ?_ | refine codeStep ?_ | refine drawStep ?_
          refine ⟨⟨i + 1, by omega⟩, (by show words.length - (i + 1) < words.length - i; omega), Ent.fr' ⟨(by kernel_rfl), (by kernel_rfl), (by kernel_rfl), (by kernel_rfl), (by kernel_rfl), (by kernel_rfl), (by kernel_rfl), (by kernel_rfl), (by kernel_rfl), (by kernel_rfl), inc_slot (i := i) (by omega), trivial⟩ (by kernel_rfl)⟩
        | true =>
          obtain ⟨u, rfl, hu⟩ := wordB_nat hwb
          have hul : u.length * 8 ≤ 140737488351232 := by simpa using hvl
          have hT1 := r12_Takes vk m hokM m1 u (by omega) (by rw [m2]; exact hu)
          rw [takesB_lang (by rw [m2]; exact hu), htk u hu (by simpa using hv0)] at hT1
          have hT2 := r12_Takes vk a hoka wr u (by omega) (by rw [ta]; exact hu)
          rw [takesB_lang (by rw [ta]; exact hu)] at hT2
          have hT3 := r12_Takes vk b hokb vr u (by omega) (by rw [tb]; exact hu)
          rw [takesB_lang (by rw [tb]; exact hu)] at hT3
          have hH := law16_holds op (lang a u) (lang b u)
          generalize lang a u = xa at *
          generalize lang b u = xb at *
          generalize holdsS (IntKind.wrap .i64 (3 + opK op)) xa xb = xo at *
          repeat first | refine opsStep ?_ | refine codeStep ?_ | refine drawStep ?_
          refine .inl ⟨_, _, [], hT1, RdsN_refl _, .inr rfl, none_need, ?_⟩
          repeat first | refine opsStep ?_ | refine codeStep ?_ | refine drawStep ?_
          refine .inl ⟨_, _, [], hT2, RdsN_refl _, .inr rfl, none_need, ?_⟩
          repeat first | refine opsStep ?_ | refine codeStep ?_ | refine drawStep ?_
          refine .inl ⟨_, _, [], hT3, RdsN_refl _, .inr rfl, none_need, ?_⟩
          repeat first | refine opsStep ?_ | refine codeStep ?_ | refine drawStep ?_
          refine .inl ⟨_, _, [], hH, RdsN_refl _, .inr rfl, none_need, ?_⟩
          repeat first | refine opsStep ?_ | refine codeStep ?_ | refine drawStep ?_
          refine ⟨by kernel_rfl, ?_⟩
          repeat first | refine opsStep ?_ | refine codeStep ?_ | refine drawStep ?_
          refine decB_false (by cases xo <;> rfl) ?_
          repeat first | refine opsStep ?_ | refine codeStep ?_ | refine drawStep ?_
          refine ⟨⟨i + 1, by omega⟩, (by show words.length - (i + 1) < words.length - i; omega), Ent.fr' ⟨(by kernel_rfl), (by kernel_rfl), (by kernel_rfl), (by kernel_rfl), (by kernel_rfl), (by kernel_rfl), (by kernel_rfl), (by kernel_rfl), (by kernel_rfl), (by kernel_rfl), inc_slot (i := i) (by omega), trivial⟩ (by kernel_rfl)⟩
      · repeat first | refine opsStep ?_ | refine codeStep ?_ | refine drawStep ?_
        refine ⟨by kernel_rfl, ?_⟩
        repeat first | refine opsStep ?_ | refine codeStep ?_ | refine drawStep ?_
        refine ⟨⟨i + 1, by omega⟩, (by show words.length - (i + 1) < words.length - i; omega), Ent.fr' ⟨(by kernel_rfl), (by kernel_rfl), (by kernel_rfl), (by kernel_rfl), (by kernel_rfl), (by kernel_rfl), (by kernel_rfl), (by kernel_rfl), (by kernel_rfl), (by kernel_rfl), inc_slot (i := i) (by omega), trivial⟩ (by kernel_rfl)⟩
    · repeat first | refine opsStep ?_ | refine codeStep ?_ | refine drawStep ?_
      exact finB (b' := true) (by kernel_rfl) rfl
  | true =>
    repeat first | refine opsStep ?_ | refine codeStep ?_ | refine drawStep ?_
    refine callP hSe ?_
    cases hse : soundD e with
    | false =>
      repeat first | refine opsStep ?_ | refine codeStep ?_ | refine drawStep ?_
      refine loopE_of (ι := {i : Nat // i ≤ names.length})
        (fun i => (fr [(0, .int .i64 (opK op)), (3, aRs kw words), (5, .ref 0 0 0), (6, .ref 1 0 0), (9, .ref 2 0 0), (11, aSs .any names), (87, .int .i64 names.length), (88, .int .i64 i.1)], [Blk.cells 0 d.cells, .cells 0 e.cells, .cells 0 m.cells]))
        (fun i => names.length - i.1) ⟨0, by omega⟩ (Ent.fr' ⟨(by kernel_rfl), (by kernel_rfl), (by kernel_rfl), (by kernel_rfl), (by kernel_rfl), (by kernel_rfl), (by kernel_rfl), (by kernel_rfl), trivial⟩ (by kernel_rfl)) ?_
      rintro ⟨i, hi⟩
      repeat first | refine opsStep ?_ | refine codeStep ?_ | refine drawStep ?_
      refine decB_dec (fun h => ?_) (fun h => ?_)
      · have hia : i < names.length := by have := h; simp at this; omega
        have hgi : names[i]? = some names[i] := List.getElem?_eq_getElem hia
        have hmi : m.tracks[i]? = some names[i] := by rw [m2]; exact hgi
        have hml : m.tracks.length = names.length := by rw [m2]
        generalize names[i] = s at *
        repeat first | refine opsStep ?_ | refine codeStep ?_ | refine drawStep ?_
        refine SW.drawn rfl (by kernel_rfl) ?_
        repeat first | refine opsStep ?_ | refine codeStep ?_ | refine drawStep ?_
        refine guardE_of (by simp; omega) ?_
        repeat first | refine opsStep ?_ | refine codeStep ?_ | refine drawStep ?_
        refine optE_of (c := AV.str s) (by simp [Value.cells, hmi]) ?_
        repeat first | refine opsStep ?_ | refine codeStep ?_ | refine drawStep ?_
        refine guardE_of (by simp; omega) ?_
        repeat first | refine opsStep ?_ | refine codeStep ?_ | refine drawStep ?_
        refine optE_of (c := AV.str s) (by simp [Value.cells, hgi]) ?_
        repeat first | refine opsStep ?_ | refine codeStep ?_ | refine drawStep ?_
        refine ⟨by kernel_rfl, ?_⟩
        repeat first | refine opsStep ?_ | refine codeStep ?_ | refine drawStep ?_
        refine decB_false (by simp) ?_
        repeat first | refine opsStep ?_ | refine codeStep ?_ | refine drawStep ?_
        refine ⟨⟨i + 1, by omega⟩, (by show names.length - (i + 1) < names.length - i; omega), Ent.fr' ⟨(by kernel_rfl), (by kernel_rfl), (by kernel_rfl), (by kernel_rfl), (by kernel_rfl), (by kernel_rfl), (by kernel_rfl), inc_slot (i := i) (by omega), trivial⟩ (by kernel_rfl)⟩
      repeat first | refine opsStep ?_ | refine codeStep ?_ | refine drawStep ?_
      refine callP hcd ?_
      repeat first | refine opsStep ?_ | refine codeStep ?_ | refine drawStep ?_
      refine callP hwd ?_
      repeat first | refine opsStep ?_ | refine codeStep ?_ | refine drawStep ?_
      refine callP hce ?_
      repeat first | refine opsStep ?_ | refine codeStep ?_ | refine drawStep ?_
      refine callP hwe ?_
      repeat first | refine opsStep ?_ | refine codeStep ?_ | refine drawStep ?_
      refine callP hRa ?_
      repeat first | refine opsStep ?_ | refine codeStep ?_ | refine drawStep ?_
      refine callP hRb ?_
      repeat first | refine opsStep ?_ | refine codeStep ?_ | refine drawStep ?_
      refine decB_false (by rw [ta]; simp) ?_
      repeat first | refine opsStep ?_ | refine codeStep ?_ | refine drawStep ?_
      refine decB_false (by rw [tb]; simp) ?_
      repeat first | refine opsStep ?_ | refine codeStep ?_ | refine drawStep ?_
      refine loopE_of (ι := {i : Nat // i ≤ words.length})
        (fun i => (fr [(0, .int .i64 (opK op)), (3, aRs kw words), (5, .ref 0 0 0), (6, .ref 1 0 0), (9, .ref 2 0 0), (11, aSs .any names), (13, .ref 3 0 0), (14, .ref 4 0 0), (148, aRs kw words), (149, .int .i64 words.length), (150, .int .i64 i.1)], [Blk.cells 0 d.cells, .cells 0 e.cells, .cells 0 m.cells] ++ [.cells 0 a.cells, .cells 0 b.cells]))
        (fun i => words.length - i.1) ⟨0, by omega⟩ (Ent.fr' ⟨(by kernel_rfl), (by kernel_rfl), (by kernel_rfl), (by kernel_rfl), (by kernel_rfl), (by kernel_rfl), (by kernel_rfl), (by kernel_rfl), (by kernel_rfl), (by kernel_rfl), (by kernel_rfl), trivial⟩ (by kernel_rfl)) ?_
      rintro ⟨i, hi⟩
      repeat first | refine opsStep ?_ | refine codeStep ?_ | refine drawStep ?_
      refine decB_dec (fun h => ?_) (fun h => ?_)
      · have hia : i < words.length := by have := h; simp at this; omega
        have hvl := hws _ (List.getElem_mem hia)
        have hgi : words[i]? = some words[i] := List.getElem?_eq_getElem hia
        generalize words[i] = v at *
        obtain ⟨vk, v⟩ := v
        simp only at hvl
        have hW := r12_Word vk v names.length (by omega) (by omega)
        repeat first | refine opsStep ?_ | refine codeStep ?_ | refine drawStep ?_
        refine guardE_of (by simp; omega) ?_
        repeat first | refine opsStep ?_ | refine codeStep ?_ | refine drawStep ?_
        refine optE_of (c := aIs vk v) (by simp [Value.cells, hgi]) ?_
        repeat first | refine opsStep ?_ | refine codeStep ?_ | refine drawStep ?_
        refine SW.drawn rfl (by kernel_rfl) ?_
        repeat first | refine opsStep ?_ | refine codeStep ?_ | refine drawStep ?_
        refine decB_dec (fun hv0 => ?_) (fun hv0 => ?_)
        · have hv0 : v ≠ [] := by intro e; rw [e] at hv0; simp at hv0
          repeat first | refine opsStep ?_ | refine codeStep ?_ | refine drawStep ?_
          refine .inl ⟨_, _, [], hW, RdsN_refl _, .inr rfl, none_need, ?_⟩
          cases hwb : wordB names.length v with
          | false =>
            repeat first | refine opsStep ?_ | refine codeStep ?_ | refine drawStep ?_
            refine ⟨by kernel_rfl, ?_⟩
            repeat first | refine opsStep ?_ | refine codeStep ?_ | refine drawStep ?_
            refine ⟨⟨i + 1, by omega⟩, (by show words.length - (i + 1) < words.length - i; omega), Ent.fr' ⟨(by kernel_rfl), (by kernel_rfl), (by kernel_rfl), (by kernel_rfl), (by kernel_rfl), (by kernel_rfl), (by kernel_rfl), (by kernel_rfl), (by kernel_rfl), (by kernel_rfl), inc_slot (i := i) (by omega), trivial⟩ (by kernel_rfl)⟩
          | true =>
            obtain ⟨u, rfl, hu⟩ := wordB_nat hwb
            have hul : u.length * 8 ≤ 140737488351232 := by simpa using hvl
            have hT1 := r12_Takes vk m hokM m1 u (by omega) (by rw [m2]; exact hu)
            rw [takesB_lang (by rw [m2]; exact hu), htk u hu (by simpa using hv0)] at hT1
            have hT2 := r12_Takes vk a hoka wr u (by omega) (by rw [ta]; exact hu)
            rw [takesB_lang (by rw [ta]; exact hu)] at hT2
            have hT3 := r12_Takes vk b hokb vr u (by omega) (by rw [tb]; exact hu)
            rw [takesB_lang (by rw [tb]; exact hu)] at hT3
            have hH := law16_holds op (lang a u) (lang b u)
            generalize lang a u = xa at *
            generalize lang b u = xb at *
            generalize holdsS (IntKind.wrap .i64 (3 + opK op)) xa xb = xo at *
            repeat first | refine opsStep ?_ | refine codeStep ?_ | refine drawStep ?_
            refine .inl ⟨_, _, [], hT1, RdsN_refl _, .inr rfl, none_need, ?_⟩
            repeat first | refine opsStep ?_ | refine codeStep ?_ | refine drawStep ?_
            refine .inl ⟨_, _, [], hT2, RdsN_refl _, .inr rfl, none_need, ?_⟩
            repeat first | refine opsStep ?_ | refine codeStep ?_ | refine drawStep ?_
            refine .inl ⟨_, _, [], hT3, RdsN_refl _, .inr rfl, none_need, ?_⟩
            repeat first | refine opsStep ?_ | refine codeStep ?_ | refine drawStep ?_
            refine .inl ⟨_, _, [], hH, RdsN_refl _, .inr rfl, none_need, ?_⟩
            repeat first | refine opsStep ?_ | refine codeStep ?_ | refine drawStep ?_
            refine ⟨by kernel_rfl, ?_⟩
            repeat first | refine opsStep ?_ | refine codeStep ?_ | refine drawStep ?_
            refine decB_false (by cases xo <;> rfl) ?_
            repeat first | refine opsStep ?_ | refine codeStep ?_ | refine drawStep ?_
            refine ⟨⟨i + 1, by omega⟩, (by show words.length - (i + 1) < words.length - i; omega), Ent.fr' ⟨(by kernel_rfl), (by kernel_rfl), (by kernel_rfl), (by kernel_rfl), (by kernel_rfl), (by kernel_rfl), (by kernel_rfl), (by kernel_rfl), (by kernel_rfl), (by kernel_rfl), inc_slot (i := i) (by omega), trivial⟩ (by kernel_rfl)⟩
        · repeat first | refine opsStep ?_ | refine codeStep ?_ | refine drawStep ?_
          refine ⟨by kernel_rfl, ?_⟩
          repeat first | refine opsStep ?_ | refine codeStep ?_ | refine drawStep ?_
          refine ⟨⟨i + 1, by omega⟩, (by show words.length - (i + 1) < words.length - i; omega), Ent.fr' ⟨(by kernel_rfl), (by kernel_rfl), (by kernel_rfl), (by kernel_rfl), (by kernel_rfl), (by kernel_rfl), (by kernel_rfl), (by kernel_rfl), (by kernel_rfl), (by kernel_rfl), inc_slot (i := i) (by omega), trivial⟩ (by kernel_rfl)⟩
      · repeat first | refine opsStep ?_ | refine codeStep ?_ | refine drawStep ?_
        exact finB (b' := true) (by kernel_rfl) rfl
    | true =>
      rw [hsnd hsd hse] at hSm
      repeat first | refine opsStep ?_ | refine codeStep ?_ | refine drawStep ?_
      refine callP hSm ?_
      repeat first | refine opsStep ?_ | refine codeStep ?_ | refine drawStep ?_
      refine loopE_of (ι := {i : Nat // i ≤ names.length})
        (fun i => (fr [(0, .int .i64 (opK op)), (3, aRs kw words), (5, .ref 0 0 0), (6, .ref 1 0 0), (9, .ref 2 0 0), (11, aSs .any names), (87, .int .i64 names.length), (88, .int .i64 i.1)], [Blk.cells 0 d.cells, .cells 0 e.cells, .cells 0 m.cells]))
        (fun i => names.length - i.1) ⟨0, by omega⟩ (Ent.fr' ⟨(by kernel_rfl), (by kernel_rfl), (by kernel_rfl), (by kernel_rfl), (by kernel_rfl), (by kernel_rfl), (by kernel_rfl), (by kernel_rfl), trivial⟩ (by kernel_rfl)) ?_
      rintro ⟨i, hi⟩
      repeat first | refine opsStep ?_ | refine codeStep ?_ | refine drawStep ?_
      refine decB_dec (fun h => ?_) (fun h => ?_)
      · have hia : i < names.length := by have := h; simp at this; omega
        have hgi : names[i]? = some names[i] := List.getElem?_eq_getElem hia
        have hmi : m.tracks[i]? = some names[i] := by rw [m2]; exact hgi
        have hml : m.tracks.length = names.length := by rw [m2]
        generalize names[i] = s at *
        repeat first | refine opsStep ?_ | refine codeStep ?_ | refine drawStep ?_
        refine SW.drawn rfl (by kernel_rfl) ?_
        repeat first | refine opsStep ?_ | refine codeStep ?_ | refine drawStep ?_
        refine guardE_of (by simp; omega) ?_
        repeat first | refine opsStep ?_ | refine codeStep ?_ | refine drawStep ?_
        refine optE_of (c := AV.str s) (by simp [Value.cells, hmi]) ?_
        repeat first | refine opsStep ?_ | refine codeStep ?_ | refine drawStep ?_
        refine guardE_of (by simp; omega) ?_
        repeat first | refine opsStep ?_ | refine codeStep ?_ | refine drawStep ?_
        refine optE_of (c := AV.str s) (by simp [Value.cells, hgi]) ?_
        repeat first | refine opsStep ?_ | refine codeStep ?_ | refine drawStep ?_
        refine ⟨by kernel_rfl, ?_⟩
        repeat first | refine opsStep ?_ | refine codeStep ?_ | refine drawStep ?_
        refine decB_false (by simp) ?_
        repeat first | refine opsStep ?_ | refine codeStep ?_ | refine drawStep ?_
        refine ⟨⟨i + 1, by omega⟩, (by show names.length - (i + 1) < names.length - i; omega), Ent.fr' ⟨(by kernel_rfl), (by kernel_rfl), (by kernel_rfl), (by kernel_rfl), (by kernel_rfl), (by kernel_rfl), (by kernel_rfl), inc_slot (i := i) (by omega), trivial⟩ (by kernel_rfl)⟩
      repeat first | refine opsStep ?_ | refine codeStep ?_ | refine drawStep ?_
      refine callP hcd ?_
      repeat first | refine opsStep ?_ | refine codeStep ?_ | refine drawStep ?_
      refine callP hwd ?_
      repeat first | refine opsStep ?_ | refine codeStep ?_ | refine drawStep ?_
      refine callP hce ?_
      repeat first | refine opsStep ?_ | refine codeStep ?_ | refine drawStep ?_
      refine callP hwe ?_
      repeat first | refine opsStep ?_ | refine codeStep ?_ | refine drawStep ?_
      refine callP hRa ?_
      repeat first | refine opsStep ?_ | refine codeStep ?_ | refine drawStep ?_
      refine callP hRb ?_
      repeat first | refine opsStep ?_ | refine codeStep ?_ | refine drawStep ?_
      refine decB_false (by rw [ta]; simp) ?_
      repeat first | refine opsStep ?_ | refine codeStep ?_ | refine drawStep ?_
      refine decB_false (by rw [tb]; simp) ?_
      repeat first | refine opsStep ?_ | refine codeStep ?_ | refine drawStep ?_
      refine loopE_of (ι := {i : Nat // i ≤ words.length})
        (fun i => (fr [(0, .int .i64 (opK op)), (3, aRs kw words), (5, .ref 0 0 0), (6, .ref 1 0 0), (9, .ref 2 0 0), (11, aSs .any names), (13, .ref 3 0 0), (14, .ref 4 0 0), (148, aRs kw words), (149, .int .i64 words.length), (150, .int .i64 i.1)], [Blk.cells 0 d.cells, .cells 0 e.cells, .cells 0 m.cells] ++ [.cells 0 a.cells, .cells 0 b.cells]))
        (fun i => words.length - i.1) ⟨0, by omega⟩ (Ent.fr' ⟨(by kernel_rfl), (by kernel_rfl), (by kernel_rfl), (by kernel_rfl), (by kernel_rfl), (by kernel_rfl), (by kernel_rfl), (by kernel_rfl), (by kernel_rfl), (by kernel_rfl), (by kernel_rfl), trivial⟩ (by kernel_rfl)) ?_
      rintro ⟨i, hi⟩
      repeat first | refine opsStep ?_ | refine codeStep ?_ | refine drawStep ?_
      refine decB_dec (fun h => ?_) (fun h => ?_)
      · have hia : i < words.length := by have := h; simp at this; omega
        have hvl := hws _ (List.getElem_mem hia)
        have hgi : words[i]? = some words[i] := List.getElem?_eq_getElem hia
        generalize words[i] = v at *
        obtain ⟨vk, v⟩ := v
        simp only at hvl
        have hW := r12_Word vk v names.length (by omega) (by omega)
        repeat first | refine opsStep ?_ | refine codeStep ?_ | refine drawStep ?_
        refine guardE_of (by simp; omega) ?_
        repeat first | refine opsStep ?_ | refine codeStep ?_ | refine drawStep ?_
        refine optE_of (c := aIs vk v) (by simp [Value.cells, hgi]) ?_
        repeat first | refine opsStep ?_ | refine codeStep ?_ | refine drawStep ?_
        refine SW.drawn rfl (by kernel_rfl) ?_
        repeat first | refine opsStep ?_ | refine codeStep ?_ | refine drawStep ?_
        refine decB_dec (fun hv0 => ?_) (fun hv0 => ?_)
        · have hv0 : v ≠ [] := by intro e; rw [e] at hv0; simp at hv0
          repeat first | refine opsStep ?_ | refine codeStep ?_ | refine drawStep ?_
          refine .inl ⟨_, _, [], hW, RdsN_refl _, .inr rfl, none_need, ?_⟩
          cases hwb : wordB names.length v with
          | false =>
            repeat first | refine opsStep ?_ | refine codeStep ?_ | refine drawStep ?_
            refine ⟨by kernel_rfl, ?_⟩
            repeat first | refine opsStep ?_ | refine codeStep ?_ | refine drawStep ?_
            refine ⟨⟨i + 1, by omega⟩, (by show words.length - (i + 1) < words.length - i; omega), Ent.fr' ⟨(by kernel_rfl), (by kernel_rfl), (by kernel_rfl), (by kernel_rfl), (by kernel_rfl), (by kernel_rfl), (by kernel_rfl), (by kernel_rfl), (by kernel_rfl), (by kernel_rfl), inc_slot (i := i) (by omega), trivial⟩ (by kernel_rfl)⟩
          | true =>
            obtain ⟨u, rfl, hu⟩ := wordB_nat hwb
            have hul : u.length * 8 ≤ 140737488351232 := by simpa using hvl
            have hT1 := r12_Takes vk m hokM m1 u (by omega) (by rw [m2]; exact hu)
            rw [takesB_lang (by rw [m2]; exact hu), htk u hu (by simpa using hv0)] at hT1
            have hT2 := r12_Takes vk a hoka wr u (by omega) (by rw [ta]; exact hu)
            rw [takesB_lang (by rw [ta]; exact hu)] at hT2
            have hT3 := r12_Takes vk b hokb vr u (by omega) (by rw [tb]; exact hu)
            rw [takesB_lang (by rw [tb]; exact hu)] at hT3
            have hH := law16_holds op (lang a u) (lang b u)
            generalize lang a u = xa at *
            generalize lang b u = xb at *
            generalize holdsS (IntKind.wrap .i64 (3 + opK op)) xa xb = xo at *
            repeat first | refine opsStep ?_ | refine codeStep ?_ | refine drawStep ?_
            refine .inl ⟨_, _, [], hT1, RdsN_refl _, .inr rfl, none_need, ?_⟩
            repeat first | refine opsStep ?_ | refine codeStep ?_ | refine drawStep ?_
            refine .inl ⟨_, _, [], hT2, RdsN_refl _, .inr rfl, none_need, ?_⟩
            repeat first | refine opsStep ?_ | refine codeStep ?_ | refine drawStep ?_
            refine .inl ⟨_, _, [], hT3, RdsN_refl _, .inr rfl, none_need, ?_⟩
            repeat first | refine opsStep ?_ | refine codeStep ?_ | refine drawStep ?_
            refine .inl ⟨_, _, [], hH, RdsN_refl _, .inr rfl, none_need, ?_⟩
            repeat first | refine opsStep ?_ | refine codeStep ?_ | refine drawStep ?_
            refine ⟨by kernel_rfl, ?_⟩
            repeat first | refine opsStep ?_ | refine codeStep ?_ | refine drawStep ?_
            refine decB_false (by cases xo <;> rfl) ?_
            repeat first | refine opsStep ?_ | refine codeStep ?_ | refine drawStep ?_
            refine ⟨⟨i + 1, by omega⟩, (by show words.length - (i + 1) < words.length - i; omega), Ent.fr' ⟨(by kernel_rfl), (by kernel_rfl), (by kernel_rfl), (by kernel_rfl), (by kernel_rfl), (by kernel_rfl), (by kernel_rfl), (by kernel_rfl), (by kernel_rfl), (by kernel_rfl), inc_slot (i := i) (by omega), trivial⟩ (by kernel_rfl)⟩
        · repeat first | refine opsStep ?_ | refine codeStep ?_ | refine drawStep ?_
          refine ⟨by kernel_rfl, ?_⟩
          repeat first | refine opsStep ?_ | refine codeStep ?_ | refine drawStep ?_
          refine ⟨⟨i + 1, by omega⟩, (by show words.length - (i + 1) < words.length - i; omega), Ent.fr' ⟨(by kernel_rfl), (by kernel_rfl), (by kernel_rfl), (by kernel_rfl), (by kernel_rfl), (by kernel_rfl), (by kernel_rfl), (by kernel_rfl), (by kernel_rfl), (by kernel_rfl), inc_slot (i := i) (by omega), trivial⟩ (by kernel_rfl)⟩
      · repeat first | refine opsStep ?_ | refine codeStep ?_ | refine drawStep ?_
        exact finB (b' := true) (by kernel_rfl) rfl

end Tab
