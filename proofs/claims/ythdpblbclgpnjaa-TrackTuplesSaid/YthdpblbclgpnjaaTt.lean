/- Layer 15: the law TrackTuples. -/
import Derived.Test.YthdpblbclgpnjaaBt
namespace Tab
open Go Go.Proofs
set_option maxRecDepth 10000
set_option linter.unusedVariables false
set_option linter.unusedSimpArgs false
set_option linter.unusedSectionVars false

theorem snoc_blk {cs : List AV} {i : Nat} (h : cs.length = i) (x : AV) : (cs.drop 0).take (i * 1) ++ [x] = cs ++ [x] := by
  rw [List.drop_zero, Nat.mul_one, List.take_of_length_le (by omega)]
theorem oldS_snoc (i : Nat) (vals : List Int) : oldS (i + 1) vals = oldS i vals ++ [vals.getD i 0] := by simp [oldS, List.range_succ]
theorem oldS_length (i : Nat) (vals : List Int) : (oldS i vals).length = i := by simp [oldS]
theorem nowS_snoc {tr fm tt : List (List UInt8)} {old : List Int} {ws : List (List UInt8)} {i : Nat} (h : i < ws.length) : nowS tr fm tt old (ws.take (i + 1)) = nowS tr fm tt old (ws.take i) ++ [old.getD (tr.idxOf (nameOf fm tt ws[i])) 0] := by
  rw [List.take_succ_eq_append_getElem h, nowS, List.map_append]; rfl
theorem nowS_length (tr fm tt old ws) : (nowS tr fm tt old ws).length = ws.length := by simp [nowS]
theorem wordN_enc (l : List Int) : encW l (longS 1 l) = (wordN l).map fun a : Nat => (a : Int) := by
  rw [encW, wordN, List.map_map]; rfl
theorem oldS_range {k : Nat} {vals : List Int} (h : ∀ v ∈ vals, -(2^63) ≤ v ∧ v < 2^63) : ∀ v ∈ oldS k vals, -(2^63) ≤ v ∧ v < 2^63 := by
  intro v hv
  obtain ⟨t, _, rfl⟩ := List.mem_map.1 hv
  rw [List.getD_eq_getElem?_getD]
  cases e : vals[t]? with
  | none => simp
  | some x => exact h x (List.mem_of_getElem? e)
theorem nowS_range {tr fm tt : List (List UInt8)} {old : List Int} {ws : List (List UInt8)} (h : ∀ v ∈ old, -(2^63) ≤ v ∧ v < 2^63) : ∀ v ∈ nowS tr fm tt old ws, -(2^63) ≤ v ∧ v < 2^63 := by
  intro v hv
  obtain ⟨t, _, rfl⟩ := List.mem_map.1 hv
  rw [List.getD_eq_getElem?_getD]
  generalize tr.idxOf (nameOf fm tt t) = p
  cases e : old[p]? with
  | none => simp
  | some x => exact h x (List.mem_of_getElem? e)
theorem wordN_lt {l : List Int} {k : Nat} (h : l.length = k) : ∀ a ∈ wordN l, a < 2 ^ k := by
  intro a ha
  obtain ⟨i, _, rfl⟩ := List.mem_map.1 ha
  rw [← h]; exact encN_lt i l
theorem wordN_len {l : List Int} (h : ∀ v ∈ l, -(2^63) ≤ v ∧ v < 2^63) : (wordN l).length ≤ 64 := by
  have := longS_bound l 1 h (by omega) (by omega)
  simp [wordN]; omega

set_option maxHeartbeats 1000000 in
theorem law_TrackTuples (kf kt kv : SK) (d : Den) (fm tt : List (List UInt8)) (vals : List Int) (hd : DenOk d) (hf : fm.length * 16 ≤ 140737488351232) (ht : tt.length * 16 ≤ 140737488351232) (hts : ∀ s ∈ tt, s.length ≤ 140737488351232)
    (hvl : vals.length * 8 ≤ 140737488351232) (hv : ∀ v ∈ vals, -(2^63) ≤ v ∧ v < 2^63) :
    Pure Try.prog 4 [aDen d, aSs kf fm, aSs kt tt, aIs kv vals] (.bool true) := by
  have hcp := r12_CopyDense d hd
  have hrn := track_Rename .any .any .any (copyD d) fm tt (copyD_ok hd) hf ht hts
  rw [copyD_renE, copyD_renR] at hrn
  have hokR := renR_den (fm := fm) hd hts
  have hR := r12_Right (renR d fm tt) hokR
  have hbad : renE d fm tt ≠ 0 → (renR d fm tt).accept.length = 0 := fun h => by rw [renR_bad h]; rfl
  have hlaw : renE d fm tt = 0 → _ := fun h => ren_tuple h vals
  have hrd : renE d fm tt = 0 → rightS d = true ∧ fm.length = tt.length := fun h => ⟨(renE_of_ok h).1, (renE_of_ok h).2.1⟩
  generalize copyD d = e at *
  generalize renR d fm tt = w at *
  generalize renE d fm tt = why at *
  have h1 := hd.tracks
  refine Pure.of_sw 130 Try.func4 rfl Try.ntmps4 (by kernel_rfl) (Nat.le_of_ble_eq_true (by kernel_rfl)) (by simp [closeds, AV.closed, aSs_closed, aIs_closed, aBs_closed, aRs_closed, aDen_closed]) (by simp [AV.closed, closeds, aSs_closed, aIs_closed, aBs_closed, aRs_closed, aDen_closed]) ?_; refine SW.of_vc ?_
  repeat first | refine opsStep ?_ | refine codeStep ?_ | refine drawStep ?_
  refine callP law15_fixed ?_
  repeat first | refine opsStep ?_ | refine codeStep ?_ | refine drawStep ?_
  refine callP hcp ?_
  repeat first | refine opsStep ?_ | refine codeStep ?_ | refine drawStep ?_
  refine guardE_of (by simp [Value.cells]) ?_
  refine guardE_of ⟨by omega, by show (0 + fm.length) * 16 ≤ 140737488355328; omega⟩ ?_
  repeat first | refine opsStep ?_ | refine codeStep ?_ | refine drawStep ?_
  refine guardE_of (by simp [Value.cells]) ?_
  refine guardE_of ⟨by omega, by show (0 + tt.length) * 16 ≤ 140737488355328; omega⟩ ?_
  repeat first | refine opsStep ?_ | refine codeStep ?_ | refine drawStep ?_
  refine callZ2 1 2 (g := 1) (cs := fm.map .str) (g' := 1) (cs' := tt.map .str) (by kernel_rfl) (by kernel_rfl) hrn ?_ ?_
  · show FzN [.cells 0 d.cells, .fro 1 (fm.map .str), .fro 1 (tt.map .str)] [aDen e, .hs 1 1 0 (0 + fm.length) 1, .hs 2 1 0 (0 + tt.length) 1] [aDen e, aSs .any fm, aSs .any tt]
    rw [Nat.zero_add, Nat.zero_add]
    exact .same (.hs (b := 1) (g := 1) rfl (by simp) (.hs (b := 2) (g := 1) rfl (by simp) .nil))
  iterate 7 refine opsStep ?_
  refine VCode.ent (Ent.fr' (l := [(1, aSs kf fm), (2, aSs kt tt), (3, aIs kv vals), (4, .ref 0 0 0), (9, .ref 3 0 0), (10, .int .i64 why)]) (H' := [.cells 0 d.cells, .fro 1 (fm.map .str), .fro 1 (tt.map .str), .cells 0 w.cells]) ⟨(by kernel_rfl), (by kernel_rfl), (by kernel_rfl), (by kernel_rfl), (by kernel_rfl), (by kernel_rfl), trivial⟩ (by kernel_rfl)) ?_
  repeat first | refine opsStep ?_ | refine codeStep ?_ | refine drawStep ?_
  refine decB_dec (fun hw => ?_) (fun hw => ?_)
  · have hw : ¬ why = 0 := hw
    have := hbad hw
    repeat first | refine opsStep ?_ | refine codeStep ?_ | refine drawStep ?_
    exact finB (b' := decide ((w.accept.length : Int) = 0)) (by kernel_rfl) (by simp [this])
  have hw0 : why = 0 := Decidable.of_not_not hw
  subst hw0
  obtain ⟨l1, l2, l3, l4⟩ := hlaw rfl
  obtain ⟨hr, hfl⟩ := hrd rfl
  rw [l1] at hR
  have hk := tracksS_le (rightS_parts hr).1
  have hN : d.tracks.length ≤ 6 := by omega
  repeat first | refine opsStep ?_ | refine codeStep ?_ | refine drawStep ?_
  refine callP hR ?_
  repeat first | refine opsStep ?_ | refine codeStep ?_ | refine drawStep ?_
  refine decB_split (fun h => ?_) (fun h => ?_)
  · have := of_decide_eq_true h
    omega
  have hW := l2
  repeat first | refine opsStep ?_ | refine codeStep ?_ | refine drawStep ?_
  refine loopE_of (ι := {i : Nat // i ≤ d.tracks.length})
    (fun i => (fr [(1, aSs kf fm), (2, aSs kt tt), (3, aIs kv vals), (4, .ref 0 0 0), (9, .ref 3 0 0), (10, .int .i64 0), (11, .hs 4 i.1 0 i.1 1), (12, .sl .nil 0 []), (57, .int .i64 d.tracks.length), (58, .int .i64 i.1)], [.cells 0 d.cells, .fro 1 (fm.map .str), .fro 1 (tt.map .str), .cells 0 w.cells, .cells i.1 ((oldS i.1 vals).map (.int .i64))]))
    (fun i => d.tracks.length - i.1) ⟨0, by omega⟩
    (((Ent.fr' (l := [(1, aSs kf fm), (2, aSs kt tt), (3, aIs kv vals), (4, .ref 0 0 0), (9, .ref 3 0 0), (10, .int .i64 0), (11, .sl .nil 0 []), (12, .sl .nil 0 []), (57, .int .i64 d.tracks.length), (58, .int .i64 (0 : Nat))]) (H' := [.cells 0 d.cells, .fro 1 (fm.map .str), .fro 1 (tt.map .str), .cells 0 w.cells]) ⟨(by kernel_rfl), (by kernel_rfl), (by kernel_rfl), (by kernel_rfl), (by kernel_rfl), (by kernel_rfl), (by kernel_rfl), (by kernel_rfl), (by kernel_rfl), (by kernel_rfl), trivial⟩ (by kernel_rfl)).trans (Ent.nil 11 1 rfl)).trans (Ent.fr' ⟨(by kernel_rfl), (by kernel_rfl), (by kernel_rfl), (by kernel_rfl), (by kernel_rfl), (by kernel_rfl), (by kernel_rfl), (by kernel_rfl), (by kernel_rfl), (by kernel_rfl), trivial⟩ (by kernel_rfl))) ?_
  · rintro ⟨i, hi⟩
    have hol := oldS_length i vals
    repeat first | refine opsStep ?_ | refine codeStep ?_ | refine drawStep ?_
    refine decB_dec (fun h => ?_) (fun h => ?_)
    · have hia : i < d.tracks.length := by have := h; simp at this; omega
      repeat first | refine opsStep ?_ | refine codeStep ?_ | refine drawStep ?_
      refine decB_dec (fun g => ?_) (fun g => ?_)
      · have hiv : i < vals.length := by have := g; simp at this; omega
        have hx : vals.getD i 0 = vals[i] := by simp [List.getD_eq_getElem?_getD, hiv]
        repeat first | refine opsStep ?_ | refine codeStep ?_ | refine drawStep ?_
        refine guardE_of (by simp; omega) ?_
        repeat first | refine opsStep ?_ | refine codeStep ?_ | refine drawStep ?_
        refine optE_of (c := .int .i64 (vals.getD i 0)) (by simp [Value.cells, hiv]) ?_
        repeat first | refine opsStep ?_ | refine codeStep ?_ | refine drawStep ?_
        refine guardE_of ⟨rfl, by simp [hol]⟩ ?_
        refine guardE_of rfl ?_
        refine guardE_of ⟨by omega, by show (i + 1) * 8 ≤ 140737488355328; omega⟩ ?_
        repeat first | refine opsStep ?_ | refine codeStep ?_ | refine drawStep ?_
        refine ⟨⟨i + 1, by omega⟩, (by show d.tracks.length - (i + 1) < d.tracks.length - i; omega), Ent.to (Ent.frD (X := [.cells 0 [.int .i64 (vals.getD i 0)]]) (H' := [.cells 0 d.cells, .fro 1 (fm.map .str), .fro 1 (tt.map .str), .cells 0 w.cells, .cells (i + 1) ((((oldS i vals).map (AV.int .i64)).drop 0).take (i * 1) ++ [.int .i64 (vals.getD i 0)])])
          ⟨(by kernel_rfl), (by kernel_rfl), (by kernel_rfl), (by kernel_rfl), (by kernel_rfl), (by kernel_rfl), (by kernel_rfl), (by kernel_rfl), (by kernel_rfl), inc_slot (i := i) (by omega), trivial⟩ (by kernel_rfl) (Nat.zero_le _) (by first | (simp [frBel, blksBel, Blk.bel, AV.bel, bels, bels_append, bels_map, aSs_bel, aIs_bel, aBs_bel, aRs_bel, aDen_bel, cells_bel]; done) | (simp only [List.drop_zero, ← List.map_take, ← List.map_drop, List.map_map, frBel, blksBel, Blk.bel, AV.bel, bels, bels_append, bels_map, aSs_bel, aIs_bel, aBs_bel, aRs_bel, aDen_bel, cells_bel]; simp [AV.bel, aSs_bel, aIs_bel, aBs_bel, aRs_bel, aDen_bel, cells_bel])) (by first | (simp [frBel, blksBel, Blk.bel, AV.bel, bels, bels_append, bels_map, aSs_bel, aIs_bel, aBs_bel, aRs_bel, aDen_bel, cells_bel]; done) | (simp only [List.drop_zero, ← List.map_take, ← List.map_drop, List.map_map, frBel, blksBel, Blk.bel, AV.bel, bels, bels_append, bels_map, aSs_bel, aIs_bel, aBs_bel, aRs_bel, aDen_bel, cells_bel]; simp [AV.bel, aSs_bel, aIs_bel, aBs_bel, aRs_bel, aDen_bel, cells_bel]))) ?_⟩
        show _ = [Blk.cells 0 d.cells, .fro 1 (fm.map .str), .fro 1 (tt.map .str), .cells 0 w.cells, .cells (i + 1) ((oldS (i + 1) vals).map (.int .i64))]
        rw [snoc_blk (by simp [hol]), oldS_snoc, List.map_append]; rfl
      · have hiv : vals[i]? = none := List.getElem?_eq_none (by have := g; simp at this; omega)
        have hx : vals.getD i 0 = 0 := by simp [List.getD_eq_getElem?_getD, hiv]
        repeat first | refine opsStep ?_ | refine codeStep ?_ | refine drawStep ?_
        refine guardE_of ⟨rfl, by simp [hol]⟩ ?_
        refine guardE_of rfl ?_
        refine guardE_of ⟨by omega, by show (i + 1) * 8 ≤ 140737488355328; omega⟩ ?_
        repeat first | refine opsStep ?_ | refine codeStep ?_ | refine drawStep ?_
        refine ⟨⟨i + 1, by omega⟩, (by show d.tracks.length - (i + 1) < d.tracks.length - i; omega), Ent.to (Ent.frD (X := [.cells 0 [.int .i64 0]]) (H' := [.cells 0 d.cells, .fro 1 (fm.map .str), .fro 1 (tt.map .str), .cells 0 w.cells, .cells (i + 1) ((((oldS i vals).map (AV.int .i64)).drop 0).take (i * 1) ++ [.int .i64 0])])
          ⟨(by kernel_rfl), (by kernel_rfl), (by kernel_rfl), (by kernel_rfl), (by kernel_rfl), (by kernel_rfl), (by kernel_rfl), (by kernel_rfl), (by kernel_rfl), inc_slot (i := i) (by omega), trivial⟩ (by kernel_rfl) (Nat.zero_le _) (by first | (simp [frBel, blksBel, Blk.bel, AV.bel, bels, bels_append, bels_map, aSs_bel, aIs_bel, aBs_bel, aRs_bel, aDen_bel, cells_bel]; done) | (simp only [List.drop_zero, ← List.map_take, ← List.map_drop, List.map_map, frBel, blksBel, Blk.bel, AV.bel, bels, bels_append, bels_map, aSs_bel, aIs_bel, aBs_bel, aRs_bel, aDen_bel, cells_bel]; simp [AV.bel, aSs_bel, aIs_bel, aBs_bel, aRs_bel, aDen_bel, cells_bel])) (by first | (simp [frBel, blksBel, Blk.bel, AV.bel, bels, bels_append, bels_map, aSs_bel, aIs_bel, aBs_bel, aRs_bel, aDen_bel, cells_bel]; done) | (simp only [List.drop_zero, ← List.map_take, ← List.map_drop, List.map_map, frBel, blksBel, Blk.bel, AV.bel, bels, bels_append, bels_map, aSs_bel, aIs_bel, aBs_bel, aRs_bel, aDen_bel, cells_bel]; simp [AV.bel, aSs_bel, aIs_bel, aBs_bel, aRs_bel, aDen_bel, cells_bel]))) ?_⟩
        show _ = [Blk.cells 0 d.cells, .fro 1 (fm.map .str), .fro 1 (tt.map .str), .cells 0 w.cells, .cells (i + 1) ((oldS (i + 1) vals).map (.int .i64))]
        rw [snoc_blk (by simp [hol]), oldS_snoc, hx, List.map_append]; rfl
    · have : i = d.tracks.length := by have := h; simp at this; omega
      subst this
      refine VCode.ent (Ent.freezeLast (l := [(1, aSs kf fm), (2, aSs kt tt), (4, .ref 0 0 0), (9, .ref 3 0 0), (10, .int .i64 0), (11, .hs 4 d.tracks.length 0 d.tracks.length 1), (12, .sl .nil 0 [])])
        (l' := [(1, aSs kf fm), (2, aSs kt tt), (4, .ref 0 0 0), (9, .ref 3 0 0), (10, .int .i64 0), (11, .sl .any d.tracks.length ((oldS d.tracks.length vals).map (.int .i64))), (12, .sl .nil 0 [])])
        (cs := (oldS d.tracks.length vals).map (.int .i64)) (g := d.tracks.length) (n := d.tracks.length) (es := 1)
        [.cells 0 d.cells, .fro 1 (fm.map .str), .fro 1 (tt.map .str), .cells 0 w.cells] 11 ⟨(by kernel_rfl), (by kernel_rfl), (by kernel_rfl), (by kernel_rfl), (by kernel_rfl), (by kernel_rfl), (by kernel_rfl), trivial⟩ (by kernel_rfl) (by kernel_rfl) (by kernel_rfl) (by simp [hol]) (Nat.zero_le _) ⟨(by kernel_rfl), (by kernel_rfl), (by kernel_rfl), (by kernel_rfl), (by kernel_rfl), (by kernel_rfl), (by kernel_rfl), trivial⟩ (by first | (simp [frBel, blksBel, Blk.bel, AV.bel, bels, bels_append, bels_map, aSs_bel, aIs_bel, aBs_bel, aRs_bel, aDen_bel, cells_bel]; done) | (simp only [List.drop_zero, ← List.map_take, ← List.map_drop, List.map_map, frBel, blksBel, Blk.bel, AV.bel, bels, bels_append, bels_map, aSs_bel, aIs_bel, aBs_bel, aRs_bel, aDen_bel, cells_bel]; simp [AV.bel, aSs_bel, aIs_bel, aBs_bel, aRs_bel, aDen_bel, cells_bel])) (by first | (simp [frBel, blksBel, Blk.bel, AV.bel, bels, bels_append, bels_map, aSs_bel, aIs_bel, aBs_bel, aRs_bel, aDen_bel, cells_bel]; done) | (simp only [List.drop_zero, ← List.map_take, ← List.map_drop, List.map_map, frBel, blksBel, Blk.bel, AV.bel, bels, bels_append, bels_map, aSs_bel, aIs_bel, aBs_bel, aRs_bel, aDen_bel, cells_bel]; simp [AV.bel, aSs_bel, aIs_bel, aBs_bel, aRs_bel, aDen_bel, cells_bel]))) ?_
      have hov := oldS_range (k := d.tracks.length) hv
      have hS1 := word_Shortest .any (oldS d.tracks.length vals) (by omega) hov
      rw [show aIs .any (oldS d.tracks.length vals) = .sl .any d.tracks.length ((oldS d.tracks.length vals).map (.int .i64)) by rw [aIs, hol], wordN_enc] at hS1
      have hw1 := wordN_lt hol
      have hw2 := wordN_len hov
      generalize oldS d.tracks.length vals = old at *
      repeat first | refine opsStep ?_ | refine codeStep ?_ | refine drawStep ?_
      refine loopE_of (ι := {j : Nat // j ≤ w.tracks.length})
        (fun j => (fr [(1, aSs kf fm), (2, aSs kt tt), (4, .ref 0 0 0), (9, .ref 3 0 0), (10, .int .i64 0), (11, .sl .any d.tracks.length (old.map (.int .i64))), (12, .hs 4 j.1 0 j.1 1), (75, aSs w.tk w.tracks), (76, .int .i64 w.tracks.length), (77, .int .i64 j.1)], [.cells 0 d.cells, .fro 1 (fm.map .str), .fro 1 (tt.map .str), .cells 0 w.cells, .cells j.1 ((nowS d.tracks fm tt old (w.tracks.take j.1)).map (.int .i64))]))
        (fun j => w.tracks.length - j.1) ⟨0, by omega⟩
        (((Ent.fr' (l := [(1, aSs kf fm), (2, aSs kt tt), (4, .ref 0 0 0), (9, .ref 3 0 0), (10, .int .i64 0), (11, .sl .any d.tracks.length (old.map (.int .i64))), (12, .sl .nil 0 []), (75, aSs w.tk w.tracks), (76, .int .i64 w.tracks.length), (77, .int .i64 (0 : Nat))]) (H' := [.cells 0 d.cells, .fro 1 (fm.map .str), .fro 1 (tt.map .str), .cells 0 w.cells]) ⟨(by kernel_rfl), (by kernel_rfl), (by kernel_rfl), (by kernel_rfl), (by kernel_rfl), (by kernel_rfl), (by kernel_rfl), (by kernel_rfl), (by kernel_rfl), (by kernel_rfl), trivial⟩ (by kernel_rfl)).trans (Ent.nil 12 1 rfl)).trans (Ent.fr' ⟨(by kernel_rfl), (by kernel_rfl), (by kernel_rfl), (by kernel_rfl), (by kernel_rfl), (by kernel_rfl), (by kernel_rfl), (by kernel_rfl), (by kernel_rfl), (by kernel_rfl), trivial⟩ (by kernel_rfl))) ?_
      rintro ⟨j, hj⟩
      have hnl : (nowS d.tracks fm tt old (w.tracks.take j)).length = j := by rw [nowS_length, List.length_take]; omega
      repeat first | refine opsStep ?_ | refine codeStep ?_ | refine drawStep ?_
      refine decB_dec (fun g => ?_) (fun g => ?_)
      · have hja : j < w.tracks.length := by have := g; simp at this; omega
        have hsn := nowS_snoc (tr := d.tracks) (fm := fm) (tt := tt) (old := old) hja
        have hs := List.getElem_mem hja
        have hnm := l3 _ hs
        have hI := glyph_Index d.tk d.tracks (nameOf fm tt w.tracks[j]) (by omega)
        rw [idxS_mem hnm] at hI
        have hp := List.idxOf_lt_length_of_mem hnm
        have hJ := glyph_Index kt tt w.tracks[j] (by omega)
        generalize d.tracks.idxOf (nameOf fm tt w.tracks[j]) = p at *
        have hpo : p < old.length := by omega
        have hpx : old[p]? = some (old.getD p 0) := by simp [List.getD_eq_getElem?_getD, hpo]
        repeat first | refine opsStep ?_ | refine codeStep ?_ | refine drawStep ?_
        refine guardE_of (by simp; omega) ?_
        repeat first | refine opsStep ?_ | refine codeStep ?_ | refine drawStep ?_
        refine optE_of (c := .str w.tracks[j]) (by simp [Value.cells, hja]) ?_
        repeat first | refine opsStep ?_ | refine codeStep ?_ | refine drawStep ?_
        refine callP hJ ?_
        repeat first | refine opsStep ?_ | refine codeStep ?_ | refine drawStep ?_
        refine decB_dec (fun q => ?_) (fun q => ?_)
        · have hin : w.tracks[j] ∈ tt := by
            by_cases hm : w.tracks[j] ∈ tt
            · exact hm
            · exact absurd (idxS_lt.2 hm) (by omega)
          have hix := idxS_mem hin
          have hil := List.idxOf_lt_length_of_mem hin
          have hnme : nameOf fm tt w.tracks[j] = fm.getD (tt.idxOf w.tracks[j]) [] := by rw [nameOf, if_pos hin]
          repeat first | refine opsStep ?_ | refine codeStep ?_ | refine drawStep ?_
          refine guardE_of (by rw [hix]; simp; omega) ?_
          repeat first | refine opsStep ?_ | refine codeStep ?_ | refine drawStep ?_
          refine optE_of (c := .str (nameOf fm tt w.tracks[j])) (by rw [hnme, hix]; simp [Value.cells, List.getD_eq_getElem?_getD, show tt.idxOf w.tracks[j] < fm.length by omega]) ?_
          repeat first | refine opsStep ?_ | refine codeStep ?_ | refine drawStep ?_
          refine callP hI ?_
          repeat first | refine opsStep ?_ | refine codeStep ?_ | refine drawStep ?_
          refine guardE_of (by simp; omega) ?_
          repeat first | refine opsStep ?_ | refine codeStep ?_ | refine drawStep ?_
          refine optE_of (c := .int .i64 (old.getD p 0)) (by simp [Value.cells, hpo]) ?_
          repeat first | refine opsStep ?_ | refine codeStep ?_ | refine drawStep ?_
          refine guardE_of ⟨rfl, by simp [hnl]⟩ ?_
          refine guardE_of rfl ?_
          refine guardE_of ⟨by omega, by show (j + 1) * 8 ≤ 140737488355328; omega⟩ ?_
          repeat first | refine opsStep ?_ | refine codeStep ?_ | refine drawStep ?_
          refine ⟨⟨j + 1, by omega⟩, (by show w.tracks.length - (j + 1) < w.tracks.length - j; omega), Ent.to (Ent.frD (X := [.cells 0 [.int .i64 (old.getD p 0)]]) (H' := [.cells 0 d.cells, .fro 1 (fm.map .str), .fro 1 (tt.map .str), .cells 0 w.cells, .cells (j + 1) ((((nowS d.tracks fm tt old (w.tracks.take j)).map (AV.int .i64)).drop 0).take (j * 1) ++ [.int .i64 (old.getD p 0)])])
            ⟨(by kernel_rfl), (by kernel_rfl), (by kernel_rfl), (by kernel_rfl), (by kernel_rfl), (by kernel_rfl), (by kernel_rfl), (by kernel_rfl), (by kernel_rfl), inc_slot (i := j) (by omega), trivial⟩ (by kernel_rfl) (Nat.zero_le _) (by first | (simp [frBel, blksBel, Blk.bel, AV.bel, bels, bels_append, bels_map, aSs_bel, aIs_bel, aBs_bel, aRs_bel, aDen_bel, cells_bel]; done) | (simp only [List.drop_zero, ← List.map_take, ← List.map_drop, List.map_map, frBel, blksBel, Blk.bel, AV.bel, bels, bels_append, bels_map, aSs_bel, aIs_bel, aBs_bel, aRs_bel, aDen_bel, cells_bel]; simp [AV.bel, aSs_bel, aIs_bel, aBs_bel, aRs_bel, aDen_bel, cells_bel])) (by first | (simp [frBel, blksBel, Blk.bel, AV.bel, bels, bels_append, bels_map, aSs_bel, aIs_bel, aBs_bel, aRs_bel, aDen_bel, cells_bel]; done) | (simp only [List.drop_zero, ← List.map_take, ← List.map_drop, List.map_map, frBel, blksBel, Blk.bel, AV.bel, bels, bels_append, bels_map, aSs_bel, aIs_bel, aBs_bel, aRs_bel, aDen_bel, cells_bel]; simp [AV.bel, aSs_bel, aIs_bel, aBs_bel, aRs_bel, aDen_bel, cells_bel]))) ?_⟩
          show _ = [Blk.cells 0 d.cells, .fro 1 (fm.map .str), .fro 1 (tt.map .str), .cells 0 w.cells, .cells (j + 1) ((nowS d.tracks fm tt old (w.tracks.take (j + 1))).map (.int .i64))]
          rw [snoc_blk (by simp [hnl]), hsn, List.map_append]; rfl
        · have hin : ¬ w.tracks[j] ∈ tt := fun hm => by rw [idxS_mem hm] at q; omega
          have hnme : nameOf fm tt w.tracks[j] = w.tracks[j] := by rw [nameOf, if_neg hin]
          rw [hnme] at hI
          repeat first | refine opsStep ?_ | refine codeStep ?_ | refine drawStep ?_
          refine callP hI ?_
          repeat first | refine opsStep ?_ | refine codeStep ?_ | refine drawStep ?_
          refine guardE_of (by simp; omega) ?_
          repeat first | refine opsStep ?_ | refine codeStep ?_ | refine drawStep ?_
          refine optE_of (c := .int .i64 (old.getD p 0)) (by simp [Value.cells, hpo]) ?_
          repeat first | refine opsStep ?_ | refine codeStep ?_ | refine drawStep ?_
          refine guardE_of ⟨rfl, by simp [hnl]⟩ ?_
          refine guardE_of rfl ?_
          refine guardE_of ⟨by omega, by show (j + 1) * 8 ≤ 140737488355328; omega⟩ ?_
          repeat first | refine opsStep ?_ | refine codeStep ?_ | refine drawStep ?_
          refine ⟨⟨j + 1, by omega⟩, (by show w.tracks.length - (j + 1) < w.tracks.length - j; omega), Ent.to (Ent.frD (X := [.cells 0 [.int .i64 (old.getD p 0)]]) (H' := [.cells 0 d.cells, .fro 1 (fm.map .str), .fro 1 (tt.map .str), .cells 0 w.cells, .cells (j + 1) ((((nowS d.tracks fm tt old (w.tracks.take j)).map (AV.int .i64)).drop 0).take (j * 1) ++ [.int .i64 (old.getD p 0)])])
            ⟨(by kernel_rfl), (by kernel_rfl), (by kernel_rfl), (by kernel_rfl), (by kernel_rfl), (by kernel_rfl), (by kernel_rfl), (by kernel_rfl), (by kernel_rfl), inc_slot (i := j) (by omega), trivial⟩ (by kernel_rfl) (Nat.zero_le _) (by first | (simp [frBel, blksBel, Blk.bel, AV.bel, bels, bels_append, bels_map, aSs_bel, aIs_bel, aBs_bel, aRs_bel, aDen_bel, cells_bel]; done) | (simp only [List.drop_zero, ← List.map_take, ← List.map_drop, List.map_map, frBel, blksBel, Blk.bel, AV.bel, bels, bels_append, bels_map, aSs_bel, aIs_bel, aBs_bel, aRs_bel, aDen_bel, cells_bel]; simp [AV.bel, aSs_bel, aIs_bel, aBs_bel, aRs_bel, aDen_bel, cells_bel])) (by first | (simp [frBel, blksBel, Blk.bel, AV.bel, bels, bels_append, bels_map, aSs_bel, aIs_bel, aBs_bel, aRs_bel, aDen_bel, cells_bel]; done) | (simp only [List.drop_zero, ← List.map_take, ← List.map_drop, List.map_map, frBel, blksBel, Blk.bel, AV.bel, bels, bels_append, bels_map, aSs_bel, aIs_bel, aBs_bel, aRs_bel, aDen_bel, cells_bel]; simp [AV.bel, aSs_bel, aIs_bel, aBs_bel, aRs_bel, aDen_bel, cells_bel]))) ?_⟩
          show _ = [Blk.cells 0 d.cells, .fro 1 (fm.map .str), .fro 1 (tt.map .str), .cells 0 w.cells, .cells (j + 1) ((nowS d.tracks fm tt old (w.tracks.take (j + 1))).map (.int .i64))]
          rw [snoc_blk (by simp [hnl]), hsn, List.map_append]; rfl
      · have : j = w.tracks.length := by have := g; simp at this; omega
        subst this
        rw [List.take_length] at hnl
        have hnv := nowS_range (tr := d.tracks) (fm := fm) (tt := tt) (ws := w.tracks) hov
        have hS2 := word_Shortest .any (nowS d.tracks fm tt old w.tracks) (by omega) hnv
        rw [show aIs .any (nowS d.tracks fm tt old w.tracks) = .sl .any w.tracks.length ((nowS d.tracks fm tt old w.tracks).map (.int .i64)) by rw [aIs, hnl], wordN_enc] at hS2
        have hT1 := r12_Takes .any d hd hr (wordN old) (by omega) hw1
        have hT2 := r12_Takes .any w hokR l1 (wordN (nowS d.tracks fm tt old w.tracks)) (by have := wordN_len hnv; omega) (wordN_lt hnl)
        rw [l4] at hT2
        have hft : w.tracks.take w.tracks.length = w.tracks := List.take_length
        refine VCode.ent (Ent.freezeLast (l := [(4, .ref 0 0 0), (9, .ref 3 0 0), (10, .int .i64 0), (11, .sl .any d.tracks.length (old.map (.int .i64))), (12, .hs 4 w.tracks.length 0 w.tracks.length 1)])
          (l' := [(4, .ref 0 0 0), (9, .ref 3 0 0), (10, .int .i64 0), (11, .sl .any d.tracks.length (old.map (.int .i64))), (12, .sl .any w.tracks.length ((nowS d.tracks fm tt old (w.tracks.take w.tracks.length)).map (.int .i64)))])
          (cs := (nowS d.tracks fm tt old (w.tracks.take w.tracks.length)).map (.int .i64)) (g := w.tracks.length) (n := w.tracks.length) (es := 1)
          [.cells 0 d.cells, .fro 1 (fm.map .str), .fro 1 (tt.map .str), .cells 0 w.cells] 12 ⟨(by kernel_rfl), (by kernel_rfl), (by kernel_rfl), (by kernel_rfl), (by kernel_rfl), trivial⟩ (by kernel_rfl) (by kernel_rfl) (by kernel_rfl) (by rw [hft]; simp [hnl]) (Nat.zero_le _) ⟨(by kernel_rfl), (by kernel_rfl), (by kernel_rfl), (by kernel_rfl), (by kernel_rfl), trivial⟩ (by first | (simp [frBel, blksBel, Blk.bel, AV.bel, bels, bels_append, bels_map, aSs_bel, aIs_bel, aBs_bel, aRs_bel, aDen_bel, cells_bel]; done) | (simp only [List.drop_zero, ← List.map_take, ← List.map_drop, List.map_map, frBel, blksBel, Blk.bel, AV.bel, bels, bels_append, bels_map, aSs_bel, aIs_bel, aBs_bel, aRs_bel, aDen_bel, cells_bel]; simp [AV.bel, aSs_bel, aIs_bel, aBs_bel, aRs_bel, aDen_bel, cells_bel])) (by first | (simp [frBel, blksBel, Blk.bel, AV.bel, bels, bels_append, bels_map, aSs_bel, aIs_bel, aBs_bel, aRs_bel, aDen_bel, cells_bel]; done) | (simp only [List.drop_zero, ← List.map_take, ← List.map_drop, List.map_map, frBel, blksBel, Blk.bel, AV.bel, bels, bels_append, bels_map, aSs_bel, aIs_bel, aBs_bel, aRs_bel, aDen_bel, cells_bel]; simp [AV.bel, aSs_bel, aIs_bel, aBs_bel, aRs_bel, aDen_bel, cells_bel]))) ?_
        rw [hft]
        generalize takesB d (wordN old) = tb at *
        repeat first | refine opsStep ?_ | refine codeStep ?_ | refine drawStep ?_
        refine callP hS1 ?_
        repeat first | refine opsStep ?_ | refine codeStep ?_ | refine drawStep ?_
        refine callP hS2 ?_
        repeat first | refine opsStep ?_ | refine codeStep ?_ | refine drawStep ?_
        refine SW.drawn rfl (by kernel_rfl) ?_
        repeat first | refine opsStep ?_ | refine codeStep ?_ | refine drawStep ?_
        refine .inl ⟨_, _, [], hT2, RdsN_refl _, .inr rfl, none_need, ?_⟩
        repeat first | refine opsStep ?_ | refine codeStep ?_ | refine drawStep ?_
        refine .inl ⟨_, _, [], hT1, RdsN_refl _, .inr rfl, none_need, ?_⟩
        repeat first | refine opsStep ?_ | refine codeStep ?_ | refine drawStep ?_
        refine ⟨by kernel_rfl, ?_⟩
        repeat first | refine opsStep ?_ | refine codeStep ?_ | refine drawStep ?_
        exact finB (b' := (tb == tb)) (by kernel_rfl) (by simp)

end Tab
