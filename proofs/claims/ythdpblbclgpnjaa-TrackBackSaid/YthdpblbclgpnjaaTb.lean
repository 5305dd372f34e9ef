/- Layer 15: the law TrackBack. -/
import Derived.Test.YthdpblbclgpnjaaBb
import Derived.Test.YthdpblbclgpnjaaCw
namespace Tab
open Go Go.Proofs
set_option maxRecDepth 10000
set_option linter.unusedVariables false
set_option linter.unusedSimpArgs false
set_option linter.unusedSectionVars false

theorem sl0 (l : List (List UInt8)) : aSs .any l = .sl .any (0 + l.length) (l.map .str) := by rw [Nat.zero_add]; rfl

set_option maxHeartbeats 1000000 in
theorem law_TrackBack (kf kt km ka : SK) (d : Den) (fm tt mo al : List (List UInt8)) (hd : DenOk d) (hf : fm.length * 16 ≤ 140737488351232) (ht : tt.length * 16 ≤ 140737488351232) (hm : mo.length * 16 ≤ 140737488351232) (ha : al.length * 16 ≤ 140737488351232)
    (hfs : ∀ s ∈ fm, s.length ≤ 140737488351232) (hts : ∀ s ∈ tt, s.length ≤ 140737488351232) (hms : ∀ s ∈ mo, s.length ≤ 140737488351232) (has : ∀ s ∈ al, s.length ≤ 140737488351232) :
    Pure Try.prog 3 [aDen d, aSs kf fm, aSs kt tt, aSs km mo, aSs ka al] (.bool true) := by
  have hcp := r12_CopyDense d hd
  have hright := r12_Right d hd
  have h1 := hd.tracks
  have ce := copyD_ok hd
  have hA := track_Rename .any .any .any (copyD d) d.tracks d.tracks ce h1 h1 hd.names
  have hB := track_Widen_pure .any (copyD d) d.tracks ce h1 hd.names
  have hR := track_Rename .any .any .any (copyD d) fm tt ce hf ht hts
  have okR := renR_den (fm := fm) hd hts
  have hK := track_Rename .any .any .any (renR d fm tt) tt fm okR ht hf hfs
  have okK := renR_den (d := renR d fm tt) (fm := tt) okR hfs
  have hW := track_Widen_pure .any (copyD d) mo ce hm hms
  have okW := widenR_ok_den hd hm hms
  have hV := track_Widen_pure .any (widenR d mo) al okW ha has
  have okV := widenR_ok_den okW ha has
  have hU := track_Widen_pure .any (copyD d) al ce ha has
  have okU := widenR_ok_den hd ha has
  have sA := r12_SameDense (renR d d.tracks d.tracks) d (renR_den hd hd.names) hd
  have sB := r12_SameDense (widenR d d.tracks) d (widenR_ok_den hd h1 hd.names) hd
  have sK := r12_SameDense (renR (renR d fm tt) tt fm) d okK hd
  have sU := r12_SameDense (widenR d al) (widenR (widenR d mo) al) okU okV
  have fA : rightS d = true → renE d d.tracks d.tracks = 0 ∧ sameD (renR d d.tracks d.tracks) d = true := ren_self
  have fB : rightS d = true → widenE d d.tracks = 0 ∧ sameD (widenR d d.tracks) d = true := widen_self
  have fK : renE d fm tt = 0 → renE (renR d fm tt) tt fm = 0 ∧ sameD (renR (renR d fm tt) tt fm) d = true := ren_back
  have fU : widenE d mo = 0 → widenE (widenR d mo) al = 0 → widenE d al = 0 ∧ sameD (widenR d al) (widenR (widenR d mo) al) = true := widen_twice
  simp only [copyD_renE, copyD_renR, copyD_widenE, copyD_widenR] at hA hB hR hW hU
  generalize copyD d = e at *
  generalize renR (renR d fm tt) tt fm = vK at *
  generalize renE (renR d fm tt) tt fm = eK at *
  generalize renR d fm tt = vR at *
  generalize renE d fm tt = eR at *
  generalize renR d d.tracks d.tracks = vA at *
  generalize renE d d.tracks d.tracks = eA at *
  generalize widenR d d.tracks = vB at *
  generalize widenE d d.tracks = eB at *
  generalize widenR (widenR d mo) al = vV at *
  generalize widenE (widenR d mo) al = eV at *
  generalize widenR d mo = vW at *
  generalize widenE d mo = eW at *
  generalize widenR d al = vU at *
  generalize widenE d al = eU at *
  refine Pure.of_sw 140 Try.func3 rfl Try.ntmps3 (by kernel_rfl) (Nat.le_of_ble_eq_true (by kernel_rfl)) (by simp [closeds, AV.closed, aSs_closed, aIs_closed, aBs_closed, aRs_closed, aDen_closed]) (by simp [AV.closed, closeds, aSs_closed, aIs_closed, aBs_closed, aRs_closed, aDen_closed]) ?_; refine SW.of_vc ?_
  repeat first | refine opsStep ?_ | refine codeStep ?_ | refine drawStep ?_
  refine callP law15_fixed ?_
  repeat first | refine opsStep ?_ | refine codeStep ?_ | refine drawStep ?_
  refine callP hright ?_
  repeat first | refine opsStep ?_ | refine codeStep ?_ | refine drawStep ?_
  refine decB_split (fun h => ?_) (fun h => ?_)
  · repeat first | refine opsStep ?_ | refine codeStep ?_ | refine drawStep ?_
    exact finB (b' := true) (by kernel_rfl) rfl
  have hr : rightS d = true := by simpa using h
  obtain ⟨a1, a2⟩ := fA hr
  obtain ⟨b1, b2⟩ := fB hr
  subst a1 b1
  rw [a2] at sA
  rw [b2] at sB
  rw [sl0] at hA hB
  refine VCode.ent (Ent.fr' (l := [(1, aSs kf fm), (2, aSs kt tt), (3, aSs km mo), (4, aSs ka al), (5, .ref 0 0 0)]) (H' := [.cells 0 d.cells]) ⟨(by kernel_rfl), (by kernel_rfl), (by kernel_rfl), (by kernel_rfl), (by kernel_rfl), trivial⟩ (by kernel_rfl)) ?_
  repeat first | refine opsStep ?_ | refine codeStep ?_ | refine drawStep ?_
  refine SW.drawn rfl (by kernel_rfl) ?_
  repeat first | refine opsStep ?_ | refine codeStep ?_ | refine drawStep ?_
  refine .inl ⟨_, _, [], hcp, RdsN_refl _, .inr rfl, none_need, ?_⟩
  iterate 3 refine drawStep ?_
  refine drawFrz ?_
  refine guardE_of (by simp [Value.cells]) ?_
  refine guardE_of ⟨by omega, by show (0 + d.tracks.length) * 16 ≤ 140737488355328; omega⟩ ?_
  refine ⟨rfl, rfl, (by show (0 + d.tracks.length) * 1 = (d.tracks.map AV.str).length; simp), ?_⟩
  iterate 3 refine drawStep ?_
  refine drawFrz ?_
  refine guardE_of (by simp [Value.cells]) ?_
  refine guardE_of ⟨by omega, by show (0 + d.tracks.length) * 16 ≤ 140737488355328; omega⟩ ?_
  refine ⟨rfl, rfl, (by show (0 + d.tracks.length) * 1 = (d.tracks.map AV.str).length; simp), ?_⟩
  repeat first | refine opsStep ?_ | refine codeStep ?_ | refine drawStep ?_
  refine .inl ⟨_, _, [], hA, RdsN_refl _, .inr rfl, none_need, ?_⟩
  repeat first | refine opsStep ?_ | refine codeStep ?_ | refine drawStep ?_
  refine ⟨by kernel_rfl, ?_⟩
  refine VCode.ent (Ent.fr' (l := [(1, aSs kf fm), (2, aSs kt tt), (3, aSs km mo), (4, aSs ka al), (5, .ref 0 0 0), (11, .ref 3 0 0), (12, .int .i64 0)]) (H' := [.cells 0 d.cells, Blk.fro 1 (d.tracks.map .str), Blk.fro 1 (d.tracks.map .str), .cells 0 vA.cells]) ⟨(by kernel_rfl), (by kernel_rfl), (by kernel_rfl), (by kernel_rfl), (by kernel_rfl), (by kernel_rfl), (by kernel_rfl), trivial⟩ (by kernel_rfl)) ?_
  repeat first | refine opsStep ?_ | refine codeStep ?_ | refine drawStep ?_
  refine SW.drawn rfl (by kernel_rfl) ?_
  repeat first | refine opsStep ?_ | refine codeStep ?_ | refine drawStep ?_
  refine .inl ⟨_, _, [], hcp, RdsN_refl _, .inr rfl, none_need, ?_⟩
  iterate 3 refine drawStep ?_
  refine drawFrz ?_
  refine guardE_of (by simp [Value.cells]) ?_
  refine guardE_of ⟨by omega, by show (0 + d.tracks.length) * 16 ≤ 140737488355328; omega⟩ ?_
  refine ⟨rfl, rfl, (by show (0 + d.tracks.length) * 1 = (d.tracks.map AV.str).length; simp), ?_⟩
  repeat first | refine opsStep ?_ | refine codeStep ?_ | refine drawStep ?_
  refine .inl ⟨_, _, [], hB, RdsN_refl _, .inr rfl, none_need, ?_⟩
  repeat first | refine opsStep ?_ | refine codeStep ?_ | refine drawStep ?_
  refine ⟨by kernel_rfl, ?_⟩
  refine VCode.ent (Ent.fr' (l := [(1, aSs kf fm), (2, aSs kt tt), (3, aSs km mo), (4, aSs ka al), (5, .ref 0 0 0), (11, .ref 3 0 0), (12, .int .i64 0), (13, .ref 5 0 0), (14, .int .i64 0)]) (H' := [.cells 0 d.cells, Blk.fro 1 (d.tracks.map .str), Blk.fro 1 (d.tracks.map .str), .cells 0 vA.cells, Blk.fro 1 (d.tracks.map .str), .cells 0 vB.cells]) ⟨(by kernel_rfl), (by kernel_rfl), (by kernel_rfl), (by kernel_rfl), (by kernel_rfl), (by kernel_rfl), (by kernel_rfl), (by kernel_rfl), (by kernel_rfl), trivial⟩ (by kernel_rfl)) ?_
  repeat first | refine opsStep ?_ | refine codeStep ?_ | refine drawStep ?_
  refine callP sA ?_
  repeat first | refine opsStep ?_ | refine codeStep ?_ | refine drawStep ?_
  refine callP sB ?_
  repeat first | refine opsStep ?_ | refine codeStep ?_ | refine drawStep ?_
  refine callP hcp ?_
  repeat first | refine opsStep ?_ | refine codeStep ?_ | refine drawStep ?_
  refine guardE_of (by simp [Value.cells]) ?_
  refine guardE_of ⟨by omega, by show (0 + fm.length) * 16 ≤ 140737488355328; omega⟩ ?_
  repeat first | refine opsStep ?_ | refine codeStep ?_ | refine drawStep ?_
  refine guardE_of (by simp [Value.cells]) ?_
  refine guardE_of ⟨by omega, by show (0 + tt.length) * 16 ≤ 140737488355328; omega⟩ ?_
  repeat first | refine opsStep ?_ | refine codeStep ?_ | refine drawStep ?_
  refine callZ2 6 7 (g := 1) (cs := fm.map .str) (g' := 1) (cs' := tt.map .str) (by kernel_rfl) (by kernel_rfl) hR ?_ ?_
  · show FzN [.cells 0 d.cells, Blk.fro 1 (d.tracks.map .str), Blk.fro 1 (d.tracks.map .str), .cells 0 vA.cells, Blk.fro 1 (d.tracks.map .str), .cells 0 vB.cells, .fro 1 (fm.map .str), .fro 1 (tt.map .str)] [aDen e, .hs 6 1 0 (0 + fm.length) 1, .hs 7 1 0 (0 + tt.length) 1] [aDen e, aSs .any fm, aSs .any tt]
    rw [Nat.zero_add, Nat.zero_add]
    exact .same (.hs (b := 6) (g := 1) rfl (by simp) (.hs (b := 7) (g := 1) rfl (by simp) .nil))
  iterate 7 refine opsStep ?_
  refine VCode.ent (Ent.fr' (l := [(1, aSs kf fm), (2, aSs kt tt), (3, aSs km mo), (4, aSs ka al), (5, .ref 0 0 0), (12, .int .i64 eR), (15, .ref 8 0 0)]) (H' := [.cells 0 d.cells, Blk.fro 1 (d.tracks.map .str), Blk.fro 1 (d.tracks.map .str), .cells 0 vA.cells, Blk.fro 1 (d.tracks.map .str), .cells 0 vB.cells, .fro 1 (fm.map .str), .fro 1 (tt.map .str), .cells 0 vR.cells]) ⟨(by kernel_rfl), (by kernel_rfl), (by kernel_rfl), (by kernel_rfl), (by kernel_rfl), (by kernel_rfl), (by kernel_rfl), trivial⟩ (by kernel_rfl)) ?_
  iterate 3 refine codeStep ?_
  iterate 3 refine opsStep ?_
  refine VCode.join (b := decide (eR = 0)) (fr [(1, aSs kf fm), (2, aSs kt tt), (3, aSs km mo), (4, aSs ka al), (5, .ref 0 0 0)]) [.cells 0 d.cells] (by kernel_rfl) (fun hz => ?_) (fun hz => ?_) (fun s₁ H₁ he => VCode.ent he ?_)
  · have hz : eR = 0 := of_decide_eq_true hz
    obtain ⟨k1, k2⟩ := fK hz
    subst k1
    rw [k2] at sK
    rw [sl0, sl0] at hK
    repeat first | refine opsStep ?_ | refine codeStep ?_ | refine drawStep ?_
    refine SW.drawn rfl (by kernel_rfl) ?_
    iterate 3 refine drawStep ?_
    refine drawFrz ?_
    refine guardE_of (by simp [Value.cells]) ?_
    refine guardE_of ⟨by omega, by show (0 + tt.length) * 16 ≤ 140737488355328; omega⟩ ?_
    refine ⟨rfl, rfl, (by show (0 + tt.length) * 1 = (tt.map AV.str).length; simp), ?_⟩
    iterate 2 refine drawStep ?_
    refine drawFrz ?_
    refine guardE_of (by simp [Value.cells]) ?_
    refine guardE_of ⟨by omega, by show (0 + fm.length) * 16 ≤ 140737488355328; omega⟩ ?_
    refine ⟨rfl, rfl, (by show (0 + fm.length) * 1 = (fm.map AV.str).length; simp), ?_⟩
    repeat first | refine opsStep ?_ | refine codeStep ?_ | refine drawStep ?_
    refine .inl ⟨_, _, [], hK, RdsN_refl _, .inr rfl, none_need, ?_⟩
    repeat first | refine opsStep ?_ | refine codeStep ?_ | refine drawStep ?_
    refine ⟨by kernel_rfl, ?_⟩
    refine VCode.ent (Ent.fr' (l := [(1, aSs kf fm), (2, aSs kt tt), (3, aSs km mo), (4, aSs ka al), (5, .ref 0 0 0), (16, .ref 11 0 0), (17, .int .i64 0)]) (H' := [.cells 0 d.cells, Blk.fro 1 (d.tracks.map .str), Blk.fro 1 (d.tracks.map .str), .cells 0 vA.cells, Blk.fro 1 (d.tracks.map .str), .cells 0 vB.cells, .fro 1 (fm.map .str), .fro 1 (tt.map .str), .cells 0 vR.cells, .fro 1 (tt.map .str), .fro 1 (fm.map .str), .cells 0 vK.cells]) ⟨(by kernel_rfl), (by kernel_rfl), (by kernel_rfl), (by kernel_rfl), (by kernel_rfl), (by kernel_rfl), (by kernel_rfl), trivial⟩ (by kernel_rfl)) ?_
    repeat first | refine opsStep ?_ | refine codeStep ?_ | refine drawStep ?_
    refine callP sK ?_
    repeat first | refine opsStep ?_ | refine codeStep ?_ | refine drawStep ?_
    exact Ent.frT 1 ⟨(by kernel_rfl), (by kernel_rfl), (by kernel_rfl), (by kernel_rfl), (by kernel_rfl), trivial⟩ (by kernel_rfl) (Nat.le_of_ble_eq_true (by kernel_rfl)) (by first | (simp [frBel, blksBel, Blk.bel, AV.bel, bels, bels_append, bels_map, aSs_bel, aIs_bel, aBs_bel, aRs_bel, aDen_bel, cells_bel]; done) | (simp only [List.drop_zero, ← List.map_take, ← List.map_drop, List.map_map, frBel, blksBel, Blk.bel, AV.bel, bels, bels_append, bels_map, aSs_bel, aIs_bel, aBs_bel, aRs_bel, aDen_bel, cells_bel]; simp [AV.bel, aSs_bel, aIs_bel, aBs_bel, aRs_bel, aDen_bel, cells_bel])) (by first | (simp [frBel, blksBel, Blk.bel, AV.bel, bels, bels_append, bels_map, aSs_bel, aIs_bel, aBs_bel, aRs_bel, aDen_bel, cells_bel]; done) | (simp only [List.drop_zero, ← List.map_take, ← List.map_drop, List.map_map, frBel, blksBel, Blk.bel, AV.bel, bels, bels_append, bels_map, aSs_bel, aIs_bel, aBs_bel, aRs_bel, aDen_bel, cells_bel]; simp [AV.bel, aSs_bel, aIs_bel, aBs_bel, aRs_bel, aDen_bel, cells_bel]))
  · repeat first | refine opsStep ?_ | refine codeStep ?_ | refine drawStep ?_
    exact Ent.frT 1 ⟨(by kernel_rfl), (by kernel_rfl), (by kernel_rfl), (by kernel_rfl), (by kernel_rfl), trivial⟩ (by kernel_rfl) (Nat.le_of_ble_eq_true (by kernel_rfl)) (by first | (simp [frBel, blksBel, Blk.bel, AV.bel, bels, bels_append, bels_map, aSs_bel, aIs_bel, aBs_bel, aRs_bel, aDen_bel, cells_bel]; done) | (simp only [List.drop_zero, ← List.map_take, ← List.map_drop, List.map_map, frBel, blksBel, Blk.bel, AV.bel, bels, bels_append, bels_map, aSs_bel, aIs_bel, aBs_bel, aRs_bel, aDen_bel, cells_bel]; simp [AV.bel, aSs_bel, aIs_bel, aBs_bel, aRs_bel, aDen_bel, cells_bel])) (by first | (simp [frBel, blksBel, Blk.bel, AV.bel, bels, bels_append, bels_map, aSs_bel, aIs_bel, aBs_bel, aRs_bel, aDen_bel, cells_bel]; done) | (simp only [List.drop_zero, ← List.map_take, ← List.map_drop, List.map_map, frBel, blksBel, Blk.bel, AV.bel, bels, bels_append, bels_map, aSs_bel, aIs_bel, aBs_bel, aRs_bel, aDen_bel, cells_bel]; simp [AV.bel, aSs_bel, aIs_bel, aBs_bel, aRs_bel, aDen_bel, cells_bel]))
  repeat first | refine opsStep ?_ | refine codeStep ?_ | refine drawStep ?_
  refine callP hcp ?_
  repeat first | refine opsStep ?_ | refine codeStep ?_ | refine drawStep ?_
  refine guardE_of (by simp [Value.cells]) ?_
  refine guardE_of ⟨by omega, by show (0 + mo.length) * 16 ≤ 140737488355328; omega⟩ ?_
  repeat first | refine opsStep ?_ | refine codeStep ?_ | refine drawStep ?_
  refine callZ 1 (g := 1) (cs := mo.map .str) (by kernel_rfl) hW ?_ ?_
  · show FzN [.cells 0 d.cells, .fro 1 (mo.map .str)] [aDen e, .hs 1 1 0 (0 + mo.length) 1] [aDen e, aSs .any mo]
    rw [Nat.zero_add]
    exact .same (.hs (b := 1) (g := 1) rfl (by simp) .nil)
  iterate 7 refine opsStep ?_
  refine VCode.ent (Ent.fr' (l := [(1, aSs kf fm), (2, aSs kt tt), (3, aSs km mo), (4, aSs ka al), (5, .ref 0 0 0), (12, .int .i64 eW), (18, .ref 2 0 0)]) (H' := [.cells 0 d.cells, .fro 1 (mo.map .str), .cells 0 vW.cells]) ⟨(by kernel_rfl), (by kernel_rfl), (by kernel_rfl), (by kernel_rfl), (by kernel_rfl), (by kernel_rfl), (by kernel_rfl), trivial⟩ (by kernel_rfl)) ?_
  repeat first | refine opsStep ?_ | refine codeStep ?_ | refine drawStep ?_
  refine decB_dec (fun hw => ?_) (fun hw => ?_)
  · repeat first | refine opsStep ?_ | refine codeStep ?_ | refine drawStep ?_
    exact finB (b' := true) (by kernel_rfl) rfl
  have hw0 : eW = 0 := Decidable.of_not_not hw
  repeat first | refine opsStep ?_ | refine codeStep ?_ | refine drawStep ?_
  refine SW.drawn rfl (by kernel_rfl) ?_
  rw [sl0] at hV
  iterate 3 refine drawStep ?_
  refine drawFrz ?_
  refine guardE_of (by simp [Value.cells]) ?_
  refine guardE_of ⟨by omega, by show (0 + al.length) * 16 ≤ 140737488355328; omega⟩ ?_
  refine ⟨rfl, rfl, (by show (0 + al.length) * 1 = (al.map AV.str).length; simp), ?_⟩
  repeat first | refine opsStep ?_ | refine codeStep ?_ | refine drawStep ?_
  refine .inl ⟨_, _, [], hV, RdsN_refl _, .inr rfl, none_need, ?_⟩
  repeat first | refine opsStep ?_ | refine codeStep ?_ | refine drawStep ?_
  refine ⟨by kernel_rfl, ?_⟩
  refine VCode.ent (Ent.fr' (l := [(1, aSs kf fm), (2, aSs kt tt), (3, aSs km mo), (4, aSs ka al), (5, .ref 0 0 0), (12, .int .i64 eV), (19, .ref 4 0 0)]) (H' := [.cells 0 d.cells, .fro 1 (mo.map .str), .cells 0 vW.cells, .fro 1 (al.map .str), .cells 0 vV.cells]) ⟨(by kernel_rfl), (by kernel_rfl), (by kernel_rfl), (by kernel_rfl), (by kernel_rfl), (by kernel_rfl), (by kernel_rfl), trivial⟩ (by kernel_rfl)) ?_
  repeat first | refine opsStep ?_ | refine codeStep ?_ | refine drawStep ?_
  refine callP hcp ?_
  repeat first | refine opsStep ?_ | refine codeStep ?_ | refine drawStep ?_
  refine guardE_of (by simp [Value.cells]) ?_
  refine guardE_of ⟨by omega, by show (0 + al.length) * 16 ≤ 140737488355328; omega⟩ ?_
  repeat first | refine opsStep ?_ | refine codeStep ?_ | refine drawStep ?_
  refine callZ 5 (g := 1) (cs := al.map .str) (by kernel_rfl) hU ?_ ?_
  · show FzN [.cells 0 d.cells, .fro 1 (mo.map .str), .cells 0 vW.cells, .fro 1 (al.map .str), .cells 0 vV.cells, .fro 1 (al.map .str)] [aDen e, .hs 5 1 0 (0 + al.length) 1] [aDen e, aSs .any al]
    rw [Nat.zero_add]
    exact .same (.hs (b := 5) (g := 1) rfl (by simp) .nil)
  iterate 7 refine opsStep ?_
  refine VCode.ent (Ent.fr' (l := [(1, aSs kf fm), (2, aSs kt tt), (3, aSs km mo), (4, aSs ka al), (5, .ref 0 0 0), (12, .int .i64 eV), (14, .int .i64 eU), (19, .ref 4 0 0), (20, .ref 6 0 0)]) (H' := [.cells 0 d.cells, .fro 1 (mo.map .str), .cells 0 vW.cells, .fro 1 (al.map .str), .cells 0 vV.cells, .fro 1 (al.map .str), .cells 0 vU.cells]) ⟨(by kernel_rfl), (by kernel_rfl), (by kernel_rfl), (by kernel_rfl), (by kernel_rfl), (by kernel_rfl), (by kernel_rfl), (by kernel_rfl), (by kernel_rfl), trivial⟩ (by kernel_rfl)) ?_
  repeat first | refine opsStep ?_ | refine codeStep ?_ | refine drawStep ?_
  refine decB_dec (fun hv => ?_) (fun hv => ?_)
  · repeat first | refine opsStep ?_ | refine codeStep ?_ | refine drawStep ?_
    exact finB (b' := true) (by kernel_rfl) rfl
  have hv0 : eV = 0 := Decidable.of_not_not hv
  obtain ⟨u1, u2⟩ := fU hw0 hv0
  rw [u2] at sU
  repeat first | refine opsStep ?_ | refine codeStep ?_ | refine drawStep ?_
  refine decB_dec (fun hu => ?_) (fun hu => ?_)
  · repeat first | refine opsStep ?_ | refine codeStep ?_ | refine drawStep ?_
    refine callP sU ?_
    repeat first | refine opsStep ?_ | refine codeStep ?_ | refine drawStep ?_
    exact finB (b' := true) (by kernel_rfl) rfl
  · exact absurd u1 hu

end Tab
