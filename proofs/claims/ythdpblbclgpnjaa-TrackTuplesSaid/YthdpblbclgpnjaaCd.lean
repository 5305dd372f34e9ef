/- A machine copied. -/
import Derived.Test.YthdpblbclgpnjaaSd
namespace Tab
open Go Go.Proofs
set_option maxRecDepth 10000
set_option linter.unusedVariables false
set_option linter.unusedSimpArgs false
set_option linter.unusedSectionVars false

def copyD (d : Den) : Den := ⟨.any, d.tracks, .any, d.accept, .any, d.rows.map fun r => (.any, r)⟩

theorem r12_CopyDense (d : Den) (hd : DenOk d) : Pure Try.prog 8 [aDen d] (aDen (copyD d)) := by
  have d1 := hd.tracks
  have d2 := hd.accept
  have d3 := hd.next
  refine Pure.of_sw 34 Try.func8 rfl Try.ntmps8 (by kernel_rfl) (Nat.le_of_ble_eq_true (by kernel_rfl)) (by simp [closeds, AV.closed, aSs_closed, aIs_closed, aBs_closed, aRs_closed, aDen_closed]) (by simp [AV.closed, closeds, aSs_closed, aIs_closed, aBs_closed, aRs_closed, aDen_closed]) ?_; refine SW.of_vc ?_
  repeat first | refine opsStep ?_ | refine codeStep ?_ | refine drawStep ?_
  refine SW.drawn rfl (by kernel_rfl) ?_
  repeat first | refine opsStep ?_ | refine codeStep ?_ | refine drawStep ?_
  refine guardE_of (by simp [Value.cells]) ?_
  refine guardE_of ⟨by omega, by show (0 + d.tracks.length) * 16 ≤ 140737488355328; omega⟩ ?_
  repeat first | refine opsStep ?_ | refine codeStep ?_ | refine drawStep ?_
  refine guardE_of (by simp [Value.cells]) ?_
  refine guardE_of ⟨by omega, by show (0 + d.accept.length) * 1 ≤ 140737488355328; omega⟩ ?_
  repeat first | refine opsStep ?_ | refine codeStep ?_ | refine drawStep ?_
  refine ⟨by kernel_rfl, ?_⟩
  repeat first | refine opsStep ?_ | refine codeStep ?_ | refine drawStep ?_
  have hinit : ∀ (nt : Fr) (s : Slots) (H : List Blk), nt.k = 0 → frOk s [(1, .ref 0 0 0), (2, .ref 1 0 0), (3, .ref 4 0 0), (4, .int .i64 (0 : Nat))] →
      H = [.cells 0 d.cells, .cells 0 [.sl .nil 0 [], .sl .nil 0 [], .sl .nil 0 []], .cells 1 (d.tracks.map .str), .cells 1 (d.accept.map .bool), .cells 0 [.hs 2 1 0 (0 + d.tracks.length) 1, .hs 3 1 0 (0 + d.accept.length) 1, .sl .nil 0 []]] →
      Ent nt s H (fr [(1, .ref 0 0 0), (2, .ref 1 0 0), (3, .ref 4 0 0), (4, .int .i64 (0 : Nat))])
        [.cells 0 d.cells, .cells 0 [.sl .nil 0 [], .sl .nil 0 [], .sl .nil 0 []], .fro 1 (d.tracks.map .str), .fro 1 (d.accept.map .bool), .cells 0 [aSs .any d.tracks, aBs .any d.accept, .hs 5 0 0 0 1], .cells 0 []] := by
    intro nt s H hk hf hH
    subst hH
    rw [Nat.zero_add, Nat.zero_add]
    exact ((((Ent.fr hf).trans (Ent.freezeCell 4 0 (b := 2) rfl rfl rfl (by omega) (by simp))).trans (Ent.freezeCell 4 1 (b := 3) rfl rfl rfl (by omega) (by simp))).trans (Ent.nilCell 4 2 1 rfl rfl)).to (by kernel_rfl)
  refine loopE_of (ι := {i : Nat // i ≤ d.next.length})
    (fun i => (fr [(1, .ref 0 0 0), (2, .ref 1 0 0), (3, .ref 4 0 0), (4, .int .i64 i.1)],
      [.cells 0 d.cells, .cells 0 [.sl .nil 0 [], .sl .nil 0 [], .sl .nil 0 []], .fro 1 (d.tracks.map .str), .fro 1 (d.accept.map .bool), .cells 0 [aSs .any d.tracks, aBs .any d.accept, .hs 5 i.1 0 i.1 1], .cells i.1 ((d.rows.take i.1).map (aIs .any))]))
    (fun i => d.next.length - i.1) ⟨0, by omega⟩ (hinit _ _ _ rfl ⟨(by kernel_rfl), (by kernel_rfl), (by kernel_rfl), (by kernel_rfl), trivial⟩ (by kernel_rfl)) ?_
  rintro ⟨i, hi⟩
  repeat first | refine opsStep ?_ | refine codeStep ?_ | refine drawStep ?_
  refine decB_dec (fun h => ?_) (fun h => ?_)
  · have hia : i < d.next.length := by have := h; simp at this; omega
    have hra := hd.rows _ (List.getElem_mem hia)
    have hlr : i < d.rows.length := by simpa [Den.rows] using hia
    have ga : d.rows[i] = (d.next[i]).2 := by simp [Den.rows]
    repeat first | refine opsStep ?_ | refine codeStep ?_ | refine drawStep ?_
    refine SW.drawn rfl (by kernel_rfl) ?_
    repeat first | refine opsStep ?_ | refine codeStep ?_ | refine drawStep ?_
    refine guardE_of (by simp; omega) ?_
    repeat first | refine opsStep ?_ | refine codeStep ?_ | refine drawStep ?_
    refine optE_of (c := aIs (d.next[i]).1 (d.next[i]).2) (by simp [Value.cells, hia]) ?_
    repeat first | refine opsStep ?_ | refine codeStep ?_ | refine drawStep ?_
    refine guardE_of (by simp [Value.cells]) ?_
    refine guardE_of ⟨by omega, by show (0 + (d.next[i]).2.length) * 8 ≤ 140737488355328; omega⟩ ?_
    repeat first | refine opsStep ?_ | refine codeStep ?_ | refine drawStep ?_
    refine guardE_of ⟨rfl, by simp; omega⟩ ?_
    refine guardE_of rfl ?_
    refine guardE_of ⟨by omega, by show (i + 1) * 24 ≤ 140737488355328; omega⟩ ?_
    repeat first | refine opsStep ?_ | refine codeStep ?_ | refine drawStep ?_
    refine ⟨by kernel_rfl, ?_⟩
    repeat first | refine opsStep ?_ | refine codeStep ?_ | refine drawStep ?_
    refine ⟨⟨i + 1, by omega⟩, (by show d.next.length - (i + 1) < d.next.length - i; omega), Ent.rowNext [.cells 0 d.cells, .cells 0 [.sl .nil 0 [], .sl .nil 0 [], .sl .nil 0 []], .fro 1 (d.tracks.map .str), .fro 1 (d.accept.map .bool), .cells 0 [aSs .any d.tracks, aBs .any d.accept, .hs 5 (i + 1) 0 (i + 1) 1]]
      (n := 0 + (d.next[i]).2.length) (es := 1) (L := (((d.rows.take i).map (aIs .any)).drop 0).take (i * 1)) (gb := i + 1) (gr := 1) (cs := (d.next[i]).2.map (.int .i64)) ⟨(by kernel_rfl), (by kernel_rfl), (by kernel_rfl), inc_slot (i := i) (by omega), trivial⟩ (by kernel_rfl) (by kernel_rfl) (by kernel_rfl) rfl (by simp) (Nat.le_of_ble_eq_true (by kernel_rfl)) (by first | (simp [frBel, blksBel, Blk.bel, AV.bel, bels, bels_append, bels_map, aSs_bel, aIs_bel, aBs_bel, aRs_bel, aDen_bel, cells_bel]; done) | (simp only [List.drop_zero, ← List.map_take, ← List.map_drop, List.map_map, frBel, blksBel, Blk.bel, AV.bel, bels, bels_append, bels_map, aSs_bel, aIs_bel, aBs_bel, aRs_bel, aDen_bel, cells_bel]; simp [AV.bel, aSs_bel, aIs_bel, aBs_bel, aRs_bel, aDen_bel, cells_bel])) (by first | (simp [frBel, blksBel, Blk.bel, AV.bel, bels, bels_append, bels_map, aSs_bel, aIs_bel, aBs_bel, aRs_bel, aDen_bel, cells_bel]; done) | (simp only [List.drop_zero, ← List.map_take, ← List.map_drop, List.map_map, frBel, blksBel, Blk.bel, AV.bel, bels, bels_append, bels_map, aSs_bel, aIs_bel, aBs_bel, aRs_bel, aDen_bel, cells_bel]; simp [AV.bel, aSs_bel, aIs_bel, aBs_bel, aRs_bel, aDen_bel, cells_bel])) (bels_td (bels_map.2 fun _ _ => aIs_bel _ _ _)) (by first | (simp [frBel, blksBel, Blk.bel, AV.bel, bels, bels_append, bels_map, aSs_bel, aIs_bel, aBs_bel, aRs_bel, aDen_bel, cells_bel]; done) | (simp only [List.drop_zero, ← List.map_take, ← List.map_drop, List.map_map, frBel, blksBel, Blk.bel, AV.bel, bels, bels_append, bels_map, aSs_bel, aIs_bel, aBs_bel, aRs_bel, aDen_bel, cells_bel]; simp [AV.bel, aSs_bel, aIs_bel, aBs_bel, aRs_bel, aDen_bel, cells_bel])) ?_⟩
    rw [td_all (by simp; omega)]
    simp [List.take_succ_eq_append_getElem hlr, ga, aIs]
  · repeat first | refine opsStep ?_ | refine codeStep ?_ | refine drawStep ?_
    have : i = d.next.length := by have := h; simp at this; omega
    subst this
    have hl : d.rows.length = d.next.length := by simp [Den.rows]
    have hfin : ∀ (nt : Fr), Ent nt (fr [(2, .ref 1 0 0)]) [.cells 0 d.cells, .cells 0 [aSs .any d.tracks, aBs .any d.accept, .hs 5 d.next.length 0 d.next.length 1], .fro 1 (d.tracks.map .str), .fro 1 (d.accept.map .bool), .cells 0 [aSs .any d.tracks, aBs .any d.accept, .hs 5 d.next.length 0 d.next.length 1],
          .cells d.next.length ((d.rows.take d.next.length).map (aIs .any))] (fr [(2, .ref 1 0 0)]) [.cells 0 d.cells, .cells 0 (copyD d).cells, .fro 1 (d.tracks.map .str), .fro 1 (d.accept.map .bool), .cells 0 [aSs .any d.tracks, aBs .any d.accept, .hs 5 d.next.length 0 d.next.length 1],
          .fro d.next.length ((d.rows.take d.next.length).map (aIs .any))] := fun nt => by
      refine (Ent.freezeCell 1 2 (b := 5) rfl rfl rfl (by omega) (by simp [hl])).to ?_
      rw [List.take_of_length_le (by omega)]
      simp [copyD, Den.cells, aRs, Den.rows, Function.comp_def]
    exact finH (l := [(2, .ref 1 0 0)]) ⟨(by kernel_rfl), trivial⟩ (by kernel_rfl) (hfin _) (by kernel_rfl)

end Tab
