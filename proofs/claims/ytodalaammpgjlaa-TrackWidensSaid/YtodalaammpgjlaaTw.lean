/- Layer 15: the law TrackWidens. -/
import Derived.Test.YtodalaammpgjlaaLw
import Derived.Test.YtodalaammpgjlaaRen
namespace Tab
open Go Go.Proofs
set_option maxRecDepth 10000
set_option linter.unusedVariables false
set_option linter.unusedSimpArgs false
set_option linter.unusedSectionVars false

theorem copyD_rows (d : Den) : (copyD d).rows = d.rows := by simp [copyD, Den.rows, Function.comp_def]
theorem copyD_ok {d : Den} (hd : DenOk d) : DenOk (copyD d) := by
  refine ⟨hd.tracks, hd.names, hd.accept, ?_, ?_⟩
  · have := hd.next
    simpa [copyD, Den.rows] using this
  · intro r hr
    simp only [copyD, Den.rows, List.mem_map] at hr
    obtain ⟨x, ⟨y, hy, rfl⟩, rfl⟩ := hr
    exact hd.rows y hy
theorem copyD_right (d : Den) : rightS (copyD d) = rightS d := by
  simp only [rightS, copyD, Den.rows, List.length_map, List.all_map, Function.comp_def]
theorem copyD_widenE (d : Den) (names) : widenE (copyD d) names = widenE d names := by
  rw [widenE, widenE, copyD_right]; rfl
theorem copyD_widenD (d : Den) (names) : widenD (copyD d) names = widenD d names := by
  rw [widenD, widenD, copyD_rows]; rfl
theorem copyD_widenR (d : Den) (names) : widenR (copyD d) names = widenR d names := by
  rw [widenR, widenR, copyD_widenE, copyD_widenD]
theorem copyD_same (d : Den) : sameD (copyD d) d = true := by
  rw [sameD_eq, copyD_rows]; simp [copyD]
theorem sameD_refl (d : Den) : sameD d d = true := by rw [sameD_eq]; simp

theorem den0_ok : DenOk den0 := ⟨by decide, by simp [den0], by decide, by decide, by simp [den0]⟩

theorem track_Widen' (kn : SK) (d : Den) (names : List (List UInt8)) (hd : DenOk d) (hn : names.length * 16 ≤ 140737488351232) (hns : ∀ s ∈ names, s.length ≤ 140737488351232) :
    ACall Try.prog 9 [aDen d, aSs kn names] [] fun o H' => (widenE d names ≠ 0 ∧ o = .ret (.tup [aDen den0, .int .i64 (widenE d names)]) ∧ H' = []) ∨
      (widenE d names = 0 ∧ o = .ret (.tup [wdRes d names, .int .i64 0]) ∧ ∃ b0 b1 b2 b3 b4 b7, H' = wdHeap d names b0 b1 b2 b3 b4 b7) := by
  refine (track_Widen kn d names hd hn hns).weak (fun H' h => by rcases h with ⟨_, h⟩ | ⟨_, h, _⟩ <;> cases h) ?_
  rintro v H' (⟨h, hv⟩ | ⟨h, hv, hH⟩)
  · have hv := Out.ret.inj hv
    subst hv
    exact ⟨.tup [aDen den0, .int .i64 (widenE d names)], [], Ent.give rfl 0 (by simp [AV.closed, closeds, aDen_closed]) (.refl _), .inl ⟨h, rfl, rfl⟩⟩
  · exact ⟨_, _, Ent.refl _ _ _, .inr ⟨h, hv, hH⟩⟩

/-- The law's heap behind its calls: its own blocks first, then what Widen answered. -/
def lwH (d e : Den) (names : List (List UInt8)) (b0 b1 b2 b3 b4 b7 : Blk) (kk : Nat) (tr acc : List AV) (rb : List Blk) : List Blk :=
  [.cells 0 d.cells, .fro 1 (names.map .str), .cells 0 e.cells, .cells 0 [.hs 9 0 0 names.length 1, .hs 10 0 0 e.accept.length 1, .hs 12 kk 0 kk 1], b0, b1, b2, b3, b4, .cells 0 tr, .cells 0 acc, b7,
    .cells kk ((List.range kk).map fun j => .hs (13 + j) 0 0 (2 ^ names.length) 1)] ++ rb

theorem lw_get {d e names b0 b1 b2 b3 b4 b7 kk tr acc rb z} {j : Nat} (h : j < rb.length) : (lwH d e names b0 b1 b2 b3 b4 b7 kk tr acc rb ++ [z])[13 + j]? = some rb[j] := by
  rw [lwH, List.append_assoc, List.getElem?_append_right (by simp)]
  simp only [List.length_cons, List.length_nil]
  rw [show 13 + j - (0 + 1 + 1 + 1 + 1 + 1 + 1 + 1 + 1 + 1 + 1 + 1 + 1 + 1) = j by omega, List.getElem?_append_left h, List.getElem?_eq_getElem h]
theorem lw_set {d e names b0 b1 b2 b3 b4 b7 kk tr acc rb z y} {j : Nat} (h : j < rb.length) : (lwH d e names b0 b1 b2 b3 b4 b7 kk tr acc rb ++ [z]).set (13 + j) y = lwH d e names b0 b1 b2 b3 b4 b7 kk tr acc (rb.set j y) ++ [z] := by
  rw [lwH, lwH, List.append_assoc, List.append_assoc, List.set_append_right _ _ (by simp)]
  simp only [List.length_cons, List.length_nil]
  rw [show 13 + j - (0 + 1 + 1 + 1 + 1 + 1 + 1 + 1 + 1 + 1 + 1 + 1 + 1 + 1) = j by omega, List.set_append_left _ _ h]
def RowsOk (n kk : Nat) (rb : List Blk) : Prop := rb.length = kk ∧ ∀ (j : Nat) (h : j < rb.length), ∃ r, rb[j] = .cells 0 r ∧ r.length = n
theorem RowsOk.set {n kk j : Nat} {rb : List Blk} {r : List AV} (h : RowsOk n kk rb) (hr : r.length = n) : RowsOk n kk (rb.set j (.cells 0 r)) := by
  refine ⟨by rw [List.length_set]; exact h.1, fun i hi => ?_⟩
  rw [List.getElem_set]
  split
  · exact ⟨r, rfl, hr⟩
  · exact h.2 i (by simpa using hi)
theorem over_length {cs xs : List AV} {o : Nat} (h : o + xs.length ≤ cs.length) : (over cs o xs).length = cs.length := by simp [over]; omega

set_option maxHeartbeats 1000000 in
theorem law_TrackWidens (k : SK) (d : Den) (names : List (List UInt8)) (hd : DenOk d) (hn : names.length * 16 ≤ 140737488351232) (hns : ∀ s ∈ names, s.length ≤ 140737488351232) :
    Pure Try.prog 3 [aDen d, aSs k names] (.bool true) := by
  have hsd := r12_SameDense (copyD d) d (copyD_ok hd) hd
  rw [copyD_same] at hsd
  have hrd := r15_Widen k d names hd hn hns
  have hsm := law15_same .any k names names (by omega) (by omega)
  rw [decide_eq_true rfl] at hsm
  have hcp := r12_CopyDense d hd
  have hwd := track_Widen' .any (copyD d) names (copyD_ok hd) hn hns
  rw [copyD_widenE] at hwd
  have hwD := copyD_widenD d names
  have hacc : (copyD d).accept = d.accept := rfl
  have hnx : (copyD d).next.length = d.next.length := by simp [copyD, Den.rows]
  have hokW := widenR_ok_den hd hn hns
  have hww := r12_SameDense (widenR d names) (widenR d names) hokW hokW
  rw [sameD_refl] at hww
  have hsd0 := r12_SameDense den0 den0 den0_ok den0_ok
  rw [sameD_refl] at hsd0
  generalize copyD d = e at *
  refine Pure.of_sw 109 Try.func3 rfl Try.ntmps3 (by kernel_rfl) (Nat.le_of_ble_eq_true (by kernel_rfl)) (by simp [closeds, AV.closed, aSs_closed, aIs_closed, aBs_closed, aRs_closed, aDen_closed]) (by simp [AV.closed, closeds, aSs_closed, aIs_closed, aBs_closed, aRs_closed, aDen_closed]) ?_; refine SW.of_vc ?_
  repeat first | refine opsStep ?_ | refine codeStep ?_ | refine drawStep ?_
  refine callP hcp ?_
  repeat first | refine opsStep ?_ | refine codeStep ?_ | refine drawStep ?_
  refine guardE_of (by simp [Value.cells]) ?_
  refine guardE_of ⟨by omega, by show (0 + names.length) * 16 ≤ 140737488355328; omega⟩ ?_
  repeat first | refine opsStep ?_ | refine codeStep ?_ | refine drawStep ?_
  refine callSZ 1 (g := 1) (cs := names.map .str) (by kernel_rfl) (show closeds [aDen e, aSs .any names] from by simp [closeds, aDen_closed, aSs_closed]) hwd ?_ (fun X h => by rcases h with ⟨_, h, _⟩ | ⟨_, h, _⟩ <;> cases h) ?_
  · show FzN [.cells 0 d.cells, .fro 1 (names.map .str), .cells 0 e.cells] [aDen e, .hs 1 1 0 (0 + names.length) 1] [aDen e, aSs .any names]
    rw [Nat.zero_add]
    exact .same (.hs (b := 1) (g := 1) (n := names.length) (es := 1) (cs := names.map .str) rfl (by simp) .nil)
  rintro v X (⟨hne, hv, rfl⟩ | ⟨h0, hv, b0, b1, b2, b3, b4, b7, rfl⟩)
  · have hv := Out.ret.inj hv
    subst hv
    rw [widenR_bad hne] at hrd
    repeat first | refine opsStep ?_ | refine codeStep ?_ | refine drawStep ?_
    refine callP hrd ?_
    iterate 7 refine opsStep ?_
    refine VCode.ent (Ent.fr' (l := [(1, aSs k names), (2, .ref 0 0 0), (5, .ref 2 0 0), (6, .hs 1 1 0 (0 + names.length) 1), (7, .ref 3 0 0), (8, .int .i64 (widenE d names)), (9, .ref 4 0 0), (10, .int .i64 (widenE d names))]) (H' := [.cells 0 d.cells, .fro 1 (names.map .str), .cells 0 e.cells, .cells 0 den0.cells, .cells 0 den0.cells]) ⟨(by kernel_rfl), (by kernel_rfl), (by kernel_rfl), (by kernel_rfl), (by kernel_rfl), (by kernel_rfl), (by kernel_rfl), (by kernel_rfl), trivial⟩ (by kernel_rfl)) ?_
    repeat first | refine opsStep ?_ | refine codeStep ?_ | refine drawStep ?_
    refine callP law15_fixed ?_
    repeat first | refine opsStep ?_ | refine codeStep ?_ | refine drawStep ?_
    refine decB_split (fun h => ?_) (fun h => ?_)
    · exact (of_decide_eq_true h rfl).elim
    repeat first | refine opsStep ?_ | refine codeStep ?_ | refine drawStep ?_
    refine callP hsd0 ?_
    repeat first | refine opsStep ?_ | refine codeStep ?_ | refine drawStep ?_
    refine callP hsd ?_
    repeat first | refine opsStep ?_ | refine codeStep ?_ | refine drawStep ?_
    refine callB hsm rfl (.cons ?_ (.cons (.refl _) .nil)) ?_
    · show Rd _ (.hs 1 1 0 (0 + names.length) 1) _
      rw [Nat.zero_add]
      exact Rd.frozen (cs := names.map .str) (by kernel_rfl) (by simp)
    repeat first | refine opsStep ?_ | refine codeStep ?_ | refine drawStep ?_
    refine loopE_of (ι := Unit) (fun _ => (fr [(1, aSs k names), (2, .ref 0 0 0), (5, .ref 2 0 0), (6, .hs 1 1 0 (0 + names.length) 1), (7, .ref 3 0 0), (58, .int .i64 0), (59, .int .i64 0)], [.cells 0 d.cells, .fro 1 (names.map .str), .cells 0 e.cells, .cells 0 den0.cells, .cells 0 den0.cells])) (fun _ => 0) () (Ent.fr' ⟨(by kernel_rfl), (by kernel_rfl), (by kernel_rfl), (by kernel_rfl), (by kernel_rfl), (by kernel_rfl), (by kernel_rfl), trivial⟩ (by kernel_rfl)) ?_
    intro _
    repeat first | refine opsStep ?_ | refine codeStep ?_ | refine drawStep ?_
    refine loopE_of (ι := Unit) (fun _ => (fr [(1, aSs k names), (2, .ref 0 0 0), (5, .ref 2 0 0), (6, .hs 1 1 0 (0 + names.length) 1), (7, .ref 3 0 0), (69, .int .i64 0), (70, .int .i64 0)], [.cells 0 d.cells, .fro 1 (names.map .str), .cells 0 e.cells, .cells 0 den0.cells, .cells 0 den0.cells])) (fun _ => 0) () (Ent.fr' ⟨(by kernel_rfl), (by kernel_rfl), (by kernel_rfl), (by kernel_rfl), (by kernel_rfl), (by kernel_rfl), (by kernel_rfl), trivial⟩ (by kernel_rfl)) ?_
    intro _
    repeat first | refine opsStep ?_ | refine codeStep ?_ | refine drawStep ?_
    refine callP hsd ?_
    repeat first | refine opsStep ?_ | refine codeStep ?_ | refine drawStep ?_
    refine callB hsm rfl (.cons ?_ (.cons (.refl _) .nil)) ?_
    · show Rd _ (.hs 1 1 0 (0 + names.length) 1) _
      rw [Nat.zero_add]
      exact Rd.frozen (cs := names.map .str) (by kernel_rfl) (by simp)
    repeat first | refine opsStep ?_ | refine codeStep ?_ | refine drawStep ?_
    exact finB (b' := true) (by kernel_rfl) rfl
  · have hv := Out.ret.inj hv
    subst hv
    iterate 4 refine opsStep ?_
    refine opsStep ?_
    refine optE_of (get_last _ _) ?_
    refine guardE_of rfl ?_
    refine opsStep ?_
    refine opsStep ?_
    obtain ⟨kk, hkk⟩ : ∃ kk, e.next.length = kk := ⟨_, rfl⟩
    obtain ⟨rows, hrows⟩ : ∃ rows, e.rows.map (ovRow names.length (placesOf e.tracks names)) = rows := ⟨_, rfl⟩
    have hrl : rows.length = kk := by rw [← hrows, ← hkk]; simp [Den.rows]
    have hA : [Blk.cells 0 d.cells, .fro 1 (names.map .str), .cells 0 e.cells] ++ (wdHeap e names b0 b1 b2 b3 b4 b7).map (Blk.sh 3) =
        [Blk.cells 0 d.cells, .fro 1 (names.map .str), .cells 0 e.cells] ++ ([b0.sh 3, b1.sh 3, b2.sh 3, b3.sh 3, b4.sh 3, .cells 0 (names.map .str), .cells 0 (e.accept.map .bool), b7.sh 3, .cells kk ((List.range kk).map fun j => .hs (12 + j) 0 0 (2 ^ names.length) 1)] ++ ovBlks rows) := by
      rw [wdHeap, List.map_append, ovBlks_sh, hrows, hkk]
      simp only [List.map_cons, List.map_nil, Blk.sh, strs_sh, bools_sh, shs_map, List.map_map]
      simp only [Function.comp_def, AV.sh, show ∀ j, 9 + j + 3 = 12 + j from fun j => by omega]
    have hAl : ([Blk.cells 0 d.cells, .fro 1 (names.map .str), .cells 0 e.cells] ++ (wdHeap e names b0 b1 b2 b3 b4 b7).map (Blk.sh 3)).length = 3 + (9 + kk) := by rw [hA]; simp [ovBlks, hrl]; omega
    refine VCode.ent (s' := fr [(1, aSs k names), (2, .ref 0 0 0), (5, .ref 2 0 0), (6, .hs 1 1 0 names.length 1), (7, .ref 3 0 0), (8, .int .i64 0)])
      (H' := lwH d e names ((b0.sh 3).rn (mvF 3 (9 + kk))) ((b1.sh 3).rn (mvF 3 (9 + kk))) ((b2.sh 3).rn (mvF 3 (9 + kk))) ((b3.sh 3).rn (mvF 3 (9 + kk))) ((b4.sh 3).rn (mvF 3 (9 + kk))) ((b7.sh 3).rn (mvF 3 (9 + kk))) kk (names.map .str) (e.accept.map .bool) (ovBlks rows)) ?_ ?_
    · refine (Ent.fr' (l := [(1, aSs k names), (2, .ref 0 0 0), (5, .ref 2 0 0), (6, .hs 1 1 0 (0 + names.length) 1), (7, .ref ([Blk.cells 0 d.cells, .fro 1 (names.map .str), .cells 0 e.cells] ++ (wdHeap e names b0 b1 b2 b3 b4 b7).map (Blk.sh 3)).length 0 0), (8, .int .i64 0)])
        (H' := ([Blk.cells 0 d.cells, .fro 1 (names.map .str), .cells 0 e.cells] ++ (wdHeap e names b0 b1 b2 b3 b4 b7).map (Blk.sh 3)) ++ [.cells 0 [.hs 8 0 0 names.length 1, .hs 9 0 0 e.accept.length 1, .hs 11 kk 0 kk 1]]) ⟨(by kernel_rfl), (by kernel_rfl), (by kernel_rfl), (by kernel_rfl), (by kernel_rfl), (by kernel_rfl), trivial⟩ ?_).trans ?_
      · refine Eq.trans (b := (([Blk.cells 0 d.cells, .fro 1 (names.map .str), .cells 0 e.cells] ++ (wdHeap e names b0 b1 b2 b3 b4 b7).map (Blk.sh 3)) ++ [Blk.cells 0 den0.cells]).set ([Blk.cells 0 d.cells, .fro 1 (names.map .str), .cells 0 e.cells] ++ (wdHeap e names b0 b1 b2 b3 b4 b7).map (Blk.sh 3)).length (Blk.cells 0 (over den0.cells 0 [.hs 8 0 0 names.length 1, .hs 9 0 0 e.accept.length 1, .hs 11 e.next.length 0 e.next.length 1]))) (by kernel_rfl) ?_
        rw [set_last, hkk]
        rfl
      obtain ⟨post, hpost⟩ : ∃ post, [b0.sh 3, b1.sh 3, b2.sh 3, b3.sh 3, b4.sh 3, Blk.cells 0 (names.map .str), Blk.cells 0 (e.accept.map .bool), b7.sh 3, Blk.cells kk ((List.range kk).map fun j => .hs (12 + j) 0 0 (2 ^ names.length) 1)] ++ ovBlks rows = post := ⟨_, rfl⟩
      have hpl : post.length = 9 + kk := by rw [← hpost]; simp [ovBlks, hrl]; omega
      rw [hAl, hA, hpost]
      refine (Ent.lastTo rfl [Blk.cells 0 d.cells, .fro 1 (names.map .str), .cells 0 e.cells] post _).trans ?_
      refine Ent.fr' ⟨AV.closed_rn _ (aSs_closed _ _), (by kernel_rfl), (by kernel_rfl), ?_, ?_, (by kernel_rfl), trivial⟩ ?_
      · show AV.hs (mvF 3 post.length 1) 1 0 (0 + names.length) 1 = _
        rw [mvF_lo (by omega), Nat.zero_add]
      · show AV.ref (mvF 3 post.length (3 + (9 + kk))) 0 0 = _
        rw [hpl, mvF_last]
      · show ([Blk.cells 0 d.cells, .fro 1 (names.map .str), .cells 0 e.cells] ++ Blk.cells 0 [.hs 8 0 0 names.length 1, .hs 9 0 0 e.accept.length 1, .hs 11 kk 0 kk 1] :: post).map (Blk.rn (mvF 3 post.length)) = _
        rw [hpl, ← hpost, lwH]
        have hhs : rns (mvF 3 (9 + kk)) ((List.range kk).map fun j => AV.hs (12 + j) 0 0 (2 ^ names.length) 1) = (List.range kk).map fun j => AV.hs (13 + j) 0 0 (2 ^ names.length) 1 := by
          rw [rns_map, List.map_map]
          refine List.map_congr_left fun j hj => ?_
          have := List.mem_range.1 hj
          show AV.hs (mvF 3 (9 + kk) (12 + j)) 0 0 (2 ^ names.length) 1 = _
          rw [mvF_mid (by omega) (by omega), show 12 + j + 1 = 13 + j by omega]
        have hrb : (ovBlks rows).map (Blk.rn (mvF 3 (9 + kk))) = ovBlks rows := by
          rw [ovBlks, List.map_map]
          exact List.map_congr_left fun r _ => by simp only [Function.comp_apply, Blk.rn, ints_rn]
        have h8 : mvF 3 (9 + kk) 8 = 9 := mvF_mid (by omega) (by omega)
        have h9 : mvF 3 (9 + kk) 9 = 10 := mvF_mid (by omega) (by omega)
        have h11 : mvF 3 (9 + kk) 11 = 12 := mvF_mid (by omega) (by omega)
        simp only [List.map_append, List.map_cons, List.map_nil, Blk.rn, strs_rn, bools_rn, den_rn, hhs, hrb, rns, AV.rn, h8, h9, h11, List.cons_append, List.nil_append]
    obtain ⟨hr, _, hl6, _⟩ := widenE_of_ok h0
    obtain ⟨_, hnn, _⟩ := rightS_parts hr
    have hak : e.accept.length = kk := by rw [hacc, ← hkk, hnx, hnn]
    have hk3 := hd.next
    generalize (b0.sh 3).rn (mvF 3 (9 + kk)) = c0
    generalize (b1.sh 3).rn (mvF 3 (9 + kk)) = c1
    generalize (b2.sh 3).rn (mvF 3 (9 + kk)) = c2
    generalize (b3.sh 3).rn (mvF 3 (9 + kk)) = c3
    generalize (b4.sh 3).rn (mvF 3 (9 + kk)) = c4
    generalize (b7.sh 3).rn (mvF 3 (9 + kk)) = c7
    have hrlen : ∀ r ∈ rows, r.length = 2 ^ names.length := by
      intro r hm
      rw [← hrows] at hm
      obtain ⟨x, _, hx⟩ := List.mem_map.1 hm
      rw [← hx, ovRow_length]
    have hrb : RowsOk (2 ^ names.length) kk (ovBlks rows) := by
      refine ⟨by simp [ovBlks, hrl], fun j h => ⟨(rows[j]'(by simpa [ovBlks] using h)).map (.int .i64), by simp [ovBlks], ?_⟩⟩
      rw [List.length_map]
      exact hrlen _ (List.getElem_mem _)
    rw [h0] at hrd
    repeat first | refine opsStep ?_ | refine codeStep ?_ | refine drawStep ?_
    refine callP hrd ?_
    iterate 4 refine opsStep ?_
    refine opsStep ?_
    refine optE_of (get_last _ _) ?_
    refine guardE_of rfl ?_
    iterate 2 refine opsStep ?_
    refine VCode.ent (s' := fr [(1, aSs k names), (2, .ref 0 0 0), (5, .ref 2 0 0), (6, .hs 1 1 0 names.length 1), (7, .ref 3 0 0), (8, .int .i64 0), (9, .ref (lwH d e names c0 c1 c2 c3 c4 c7 kk (names.map .str) (e.accept.map .bool) (ovBlks rows)).length 0 0), (10, .int .i64 0)]) (H' := lwH d e names c0 c1 c2 c3 c4 c7 kk (names.map .str) (e.accept.map .bool) (ovBlks rows) ++ [.cells 0 (widenR d names).cells]) (Ent.fr' ⟨(by kernel_rfl), (by kernel_rfl), (by kernel_rfl), (by kernel_rfl), (by kernel_rfl), (by kernel_rfl), (by kernel_rfl), (by kernel_rfl), trivial⟩ ?_) ?_
    · refine Eq.trans (b := (lwH d e names c0 c1 c2 c3 c4 c7 kk (names.map .str) (e.accept.map .bool) (ovBlks rows) ++ [Blk.cells 0 den0.cells]).set (lwH d e names c0 c1 c2 c3 c4 c7 kk (names.map .str) (e.accept.map .bool) (ovBlks rows)).length (Blk.cells 0 (over den0.cells 0 (widenR d names).cells))) (by kernel_rfl) ?_
      rw [set_last]
      rfl
    repeat first | refine opsStep ?_ | refine codeStep ?_ | refine drawStep ?_
    refine callP law15_fixed ?_
    repeat first | refine opsStep ?_ | refine codeStep ?_ | refine drawStep ?_
    refine optE_of (get_last _ _) ?_
    refine guardE_of rfl ?_
    repeat first | refine opsStep ?_ | refine codeStep ?_ | refine drawStep ?_
    refine callB hww rfl (.cons ?_ (.cons (.refl _) .nil)) ?_
    · show Rd (lwH d e names c0 c1 c2 c3 c4 c7 kk (names.map .str) (e.accept.map .bool) (ovBlks rows) ++ [.cells 0 (widenR d names).cells]) (.agg [.hs 9 0 0 names.length 1, .hs 10 0 0 e.accept.length 1, .hs 12 kk 0 kk 1]) (aDen (widenR d names))
      rw [widenR_ok h0, ← hwD, widenD, hrows]
      refine rd_den (base := 13) (n := 2 ^ names.length) rfl rfl (by rw [hrl]; rfl) (fun j r hj => ?_) rfl rfl hrl.symm
      obtain ⟨hj1, hj2⟩ := List.getElem?_eq_some_iff.1 hj
      subst hj2
      exact ⟨by rw [lw_get (by simpa [ovBlks] using hj1)]; simp [ovBlks], hrlen _ (List.getElem_mem _)⟩
    repeat first | refine opsStep ?_ | refine codeStep ?_ | refine drawStep ?_
    refine callP hsd ?_
    repeat first | refine opsStep ?_ | refine codeStep ?_ | refine drawStep ?_
    refine callB hsm rfl (.cons (Rd.frozen (b := 1) (g := 1) (n := names.length) (es := 1) (cs := names.map .str) (by kernel_rfl) (by simp)) (.cons (.refl _) .nil)) ?_
    repeat first | refine opsStep ?_ | refine codeStep ?_ | refine drawStep ?_
    refine loopE_of (ι := {i : Nat // i ≤ names.length} × {tr : List AV // tr.length = names.length})
      (fun p => (fr [(1, aSs k names), (2, .ref 0 0 0), (5, .ref 2 0 0), (6, .hs 1 1 0 names.length 1), (7, .ref 3 0 0), (58, .int .i64 names.length), (59, .int .i64 p.1.1)], lwH d e names c0 c1 c2 c3 c4 c7 kk p.2.1 (e.accept.map .bool) (ovBlks rows) ++ [.cells 0 (widenR d names).cells])) (fun p => names.length - p.1.1) ⟨⟨0, by omega⟩, ⟨names.map .str, by simp⟩⟩ (Ent.fr' ⟨(by kernel_rfl), (by kernel_rfl), (by kernel_rfl), (by kernel_rfl), (by kernel_rfl), (by kernel_rfl), (by kernel_rfl), trivial⟩ (by kernel_rfl)) ?_
    rintro ⟨⟨i, hi⟩, ⟨tr, htr⟩⟩
    repeat first | refine opsStep ?_ | refine codeStep ?_ | refine drawStep ?_
    refine decB_dec (fun h => ?_) (fun h => ?_)
    · have hia : i < names.length := by have := h; simp at this; omega
      repeat first | refine opsStep ?_ | refine codeStep ?_ | refine drawStep ?_
      refine guardE_of (by simp; omega) ?_
      repeat first | refine opsStep ?_ | refine codeStep ?_ | refine drawStep ?_
      have hsz : 0 + i * 1 + [AV.str [115, 112, 111, 105, 108, 116]].length ≤ tr.length := by simp; omega
      refine guardE_of ⟨rfl, by decide, hsz⟩ ?_
      repeat first | refine opsStep ?_ | refine codeStep ?_ | refine drawStep ?_
      exact ⟨⟨⟨i + 1, by omega⟩, ⟨over tr (0 + i * 1) [.str [115, 112, 111, 105, 108, 116]], by rw [over_length hsz, htr]⟩⟩, (by show names.length - (i + 1) < names.length - i; omega), Ent.fr' ⟨(by kernel_rfl), (by kernel_rfl), (by kernel_rfl), (by kernel_rfl), (by kernel_rfl), (by kernel_rfl), inc_slot (i := i) (by omega), trivial⟩ (by kernel_rfl)⟩
    repeat first | refine opsStep ?_ | refine codeStep ?_ | refine drawStep ?_
    refine loopE_of (ι := {i : Nat // i ≤ kk} × {acc : List Bool // acc.length = kk} × {rb : List Blk // RowsOk (2 ^ names.length) kk rb})
      (fun p => (fr [(1, aSs k names), (2, .ref 0 0 0), (5, .ref 2 0 0), (6, .hs 1 1 0 names.length 1), (7, .ref 3 0 0), (69, .int .i64 kk), (70, .int .i64 p.1.1)], lwH d e names c0 c1 c2 c3 c4 c7 kk tr (p.2.1.1.map .bool) p.2.2.1 ++ [.cells 0 (widenR d names).cells])) (fun p => kk - p.1.1) ⟨⟨0, by omega⟩, ⟨e.accept, hak⟩, ⟨ovBlks rows, hrb⟩⟩ (Ent.fr' ⟨(by kernel_rfl), (by kernel_rfl), (by kernel_rfl), (by kernel_rfl), (by kernel_rfl), (by kernel_rfl), (by kernel_rfl), trivial⟩ (by kernel_rfl)) ?_
    rintro ⟨⟨q, hq⟩, ⟨acc, hacl⟩, ⟨rb, hrbk⟩⟩
    repeat first | refine opsStep ?_ | refine codeStep ?_ | refine drawStep ?_
    refine decB_dec (fun g => ?_) (fun g => ?_)
    · have hqk : q < kk := by have := g; simp at this; omega
      have hqa : q < acc.length := by omega
      repeat first | refine opsStep ?_ | refine codeStep ?_ | refine drawStep ?_
      refine SW.drawn rfl (by kernel_rfl) ?_
      repeat first | refine opsStep ?_ | refine codeStep ?_ | refine drawStep ?_
      refine guardE_of (by simp; omega) ?_
      repeat first | refine opsStep ?_ | refine codeStep ?_ | refine drawStep ?_
      refine optE_of (c := .bool acc[q]) (by show (acc.map AV.bool)[0 + q * 1]? = _; simp [hqa]) ?_
      repeat first | refine opsStep ?_ | refine codeStep ?_ | refine drawStep ?_
      refine guardE_of (by simp; omega) ?_
      repeat first | refine opsStep ?_ | refine codeStep ?_ | refine drawStep ?_
      have hsz : 0 + q * 1 + [AV.bool (!acc[q])].length ≤ (acc.map AV.bool).length := by show 0 + q * 1 + 1 ≤ _; rw [List.length_map]; omega
      refine guardE_of ⟨rfl, by decide, hsz⟩ ?_
      repeat first | refine opsStep ?_ | refine codeStep ?_ | refine drawStep ?_
      refine ⟨by kernel_rfl, ?_⟩
      refine VCode.ent (s' := fr [(1, aSs k names), (2, .ref 0 0 0), (5, .ref 2 0 0), (6, .hs 1 1 0 names.length 1), (7, .ref 3 0 0), (12, .int .i64 q), (69, .int .i64 kk), (70, .int .i64 q)]) (H' := lwH d e names c0 c1 c2 c3 c4 c7 kk tr ((acc.set q (!acc[q])).map .bool) rb ++ [.cells 0 (widenR d names).cells]) (Ent.fr' ⟨(by kernel_rfl), (by kernel_rfl), (by kernel_rfl), (by kernel_rfl), (by kernel_rfl), (by kernel_rfl), (by kernel_rfl), (by kernel_rfl), trivial⟩ ?_) ?_
      · refine Eq.trans (b := lwH d e names c0 c1 c2 c3 c4 c7 kk tr (over (acc.map .bool) (0 + q * 1) [.bool (!acc[q])]) rb ++ [.cells 0 (widenR d names).cells]) (by kernel_rfl) ?_
        rw [Nat.zero_add, Nat.mul_one, over_one (by simp; omega), List.map_set]
      repeat first | refine opsStep ?_ | refine codeStep ?_ | refine drawStep ?_
      refine guardE_of (by simp; omega) ?_
      repeat first | refine opsStep ?_ | refine codeStep ?_ | refine drawStep ?_
      refine guardE_of rfl ?_
      refine optE_of rfl ?_
      refine optE_of (c := .hs (13 + q) 0 0 (2 ^ names.length) 1) (by show ((List.range kk).map fun j => AV.hs (13 + j) 0 0 (2 ^ names.length) 1)[0 + q * 1]? = _; simp [hqk]) ?_
      repeat first | refine opsStep ?_ | refine codeStep ?_ | refine drawStep ?_
      have h64 : 2 ^ names.length ≤ 2 ^ 6 := Nat.pow_le_pow_right (by omega) hl6
      generalize hN : 2 ^ names.length = N at *
      refine loopE_of (ι := {i : Nat // i ≤ N} × {rb : List Blk // RowsOk N kk rb})
        (fun p => (fr [(1, aSs k names), (2, .ref 0 0 0), (5, .ref 2 0 0), (6, .hs 1 1 0 names.length 1), (7, .ref 3 0 0), (12, .int .i64 q), (69, .int .i64 kk), (70, .int .i64 q), (88, .int .i64 N), (89, .int .i64 p.1.1)], lwH d e names c0 c1 c2 c3 c4 c7 kk tr ((acc.set q (!acc[q])).map .bool) p.2.1 ++ [.cells 0 (widenR d names).cells])) (fun p => N - p.1.1) ⟨⟨0, by omega⟩, ⟨rb, hrbk⟩⟩ (Ent.fr' ⟨(by kernel_rfl), (by kernel_rfl), (by kernel_rfl), (by kernel_rfl), (by kernel_rfl), (by kernel_rfl), (by kernel_rfl), (by kernel_rfl), (by kernel_rfl), (by kernel_rfl), trivial⟩ (by kernel_rfl)) ?_
      rintro ⟨⟨a, ha⟩, ⟨rb, hrbk⟩⟩
      repeat first | refine opsStep ?_ | refine codeStep ?_ | refine drawStep ?_
      refine decB_dec (fun f => ?_) (fun f => ?_)
      · have haN : a < N := by have := f; simp at this; omega
        have hqr : q < rb.length := by rw [hrbk.1]; exact hqk
        obtain ⟨r, hr1, hr2⟩ := hrbk.2 q hqr
        repeat first | refine opsStep ?_ | refine codeStep ?_ | refine drawStep ?_
        refine guardE_of (by simp; omega) ?_
        repeat first | refine opsStep ?_ | refine codeStep ?_ | refine drawStep ?_
        refine guardE_of rfl ?_
        refine optE_of rfl ?_
        refine optE_of (c := .hs (13 + q) 0 0 N 1) (by show ((List.range kk).map fun j => AV.hs (13 + j) 0 0 (2 ^ names.length) 1)[0 + q * 1]? = _; rw [hN]; simp [hqk]) ?_
        repeat first | refine opsStep ?_ | refine codeStep ?_ | refine drawStep ?_
        refine guardE_of (by simp; omega) ?_
        repeat first | refine opsStep ?_ | refine codeStep ?_ | refine drawStep ?_
        refine optE_of (c := .cells 0 r) (by rw [← hr1]; exact lw_get hqr) ?_
        refine guardE_of rfl ?_
        have hsz : 0 + a * 1 + [AV.int .i64 (-1)].length ≤ r.length := by simp; omega
        refine guardE_of ⟨rfl, by decide, hsz⟩ ?_
        repeat first | refine opsStep ?_ | refine codeStep ?_ | refine drawStep ?_
        refine ⟨⟨⟨a + 1, by omega⟩, ⟨rb.set q (.cells 0 (over r (0 + a * 1) [.int .i64 (-1)])), hrbk.set (by rw [over_length hsz, hr2])⟩⟩, (by show N - (a + 1) < N - a; omega), Ent.fr' ⟨(by kernel_rfl), (by kernel_rfl), (by kernel_rfl), (by kernel_rfl), (by kernel_rfl), (by kernel_rfl), (by kernel_rfl), (by kernel_rfl), (by kernel_rfl), inc_slot (i := a) (by omega), trivial⟩ ?_⟩
        refine Eq.trans (b := (lwH d e names c0 c1 c2 c3 c4 c7 kk tr ((acc.set q (!acc[q])).map .bool) rb ++ [Blk.cells 0 (widenR d names).cells]).set (13 + q) (Blk.cells 0 (over r (0 + a * 1) [.int .i64 (-1)]))) (by kernel_rfl) ?_
        exact lw_set hqr
      repeat first | refine opsStep ?_ | refine codeStep ?_ | refine drawStep ?_
      exact ⟨⟨⟨q + 1, by omega⟩, ⟨acc.set q (!acc[q]), by rw [List.length_set]; exact hacl⟩, ⟨rb, hrbk⟩⟩, (by show kk - (q + 1) < kk - q; omega), Ent.fr' ⟨(by kernel_rfl), (by kernel_rfl), (by kernel_rfl), (by kernel_rfl), (by kernel_rfl), (by kernel_rfl), inc_slot (i := q) (by omega), trivial⟩ (by kernel_rfl)⟩
    repeat first | refine opsStep ?_ | refine codeStep ?_ | refine drawStep ?_
    refine callP hsd ?_
    repeat first | refine opsStep ?_ | refine codeStep ?_ | refine drawStep ?_
    refine callB hsm rfl (.cons (Rd.frozen (b := 1) (g := 1) (n := names.length) (es := 1) (cs := names.map .str) (by kernel_rfl) (by simp)) (.cons (.refl _) .nil)) ?_
    repeat first | refine opsStep ?_ | refine codeStep ?_ | refine drawStep ?_
    exact finB (b' := true) (by kernel_rfl) rfl

end Tab
