/- A machine over more tracks: its rows, in new memory. -/
import Derived.Test.YthdpblbclgpnjaaCd
namespace Tab
open Go Go.Proofs
set_option maxRecDepth 10000
set_option linter.unusedVariables false
set_option linter.unusedSimpArgs false
set_option linter.unusedSectionVars false

def ovRow (n : Nat) (pl : List Nat) (r : List Int) : List Int := (List.range (2 ^ n)).map fun a => r.getD (gatN a pl) 0

def ovHs (n i : Nat) : List AV := (List.range i).map fun j => .hs (6 + j) 0 0 n 1
def ovBlks (rows : List (List Int)) : List Blk := rows.map fun r => .cells 0 (r.map (.int .i64))
def ovH (d : Den) (names : List (List UInt8)) (k : Nat) (rows : List (List Int)) : List Blk :=
  [.cells 0 d.cells, .cells 0 [.sl .nil 0 [], .sl .nil 0 [], .sl .nil 0 []], .cells 0 (names.map .str), .cells 0 (d.accept.map .bool),
    .cells 0 [.hs 2 0 0 names.length 1, .hs 3 0 0 d.accept.length 1, .hs 5 rows.length 0 rows.length 1], .cells rows.length (ovHs k rows.length)] ++ ovBlks rows
theorem ovH_length (d names k rows) : (ovH d names k rows).length = 6 + rows.length := by simp [ovH, ovBlks]; omega

theorem track_over (kn kp : SK) (d : Den) (names : List (List UInt8)) (pl : List Nat) (q : Nat) (hq : 2 ^ names.length = q) (hd : DenOk d) (hn : names.length ≤ 6) (hp : pl.length ≤ 6) (hpl : ∀ p ∈ pl, p < 6) (hrow : ∀ r ∈ d.next, r.2.length = 2 ^ pl.length) :
    ACall Try.prog 25 [aDen d, aSs kn names, aIs kp (pl.map fun p : Nat => (p : Int))] [] fun o H' => o = .ret (.agg [.hs 2 0 0 names.length 1, .hs 3 0 0 d.accept.length 1, .hs 5 d.next.length 0 d.next.length 1]) ∧
      ∃ x, H' = [.cells 0 d.cells, x, .cells 0 (names.map .str), .cells 0 (d.accept.map .bool), .cells 0 [.hs 2 0 0 names.length 1, .hs 3 0 0 d.accept.length 1, .hs 5 d.next.length 0 d.next.length 1], .cells d.next.length (ovHs q d.next.length)]
        ++ ovBlks (d.rows.map (ovRow names.length pl)) := by
  have h1 := hd.tracks
  have h2 := hd.accept
  have h3 := hd.next
  have hb : IntKind.wrap .i64 (1 * 2 ^ (min (names.length : Int).toNat (IntKind.bits .i64))) = (q : Int) := by rw [← hq]; exact shl_one (k := names.length) (by omega)
  have hpow : q ≤ 64 := by rw [← hq]; exact Nat.pow_le_pow_right (by omega) hn
  have hrl : d.rows.length = d.next.length := by simp [Den.rows]
  refine ACall.of_sw 58 Try.func25 rfl Try.ntmps25 (by kernel_rfl) (Nat.le_of_ble_eq_true (by kernel_rfl)) ?_; refine SW.of_vc ?_
  repeat first | refine opsStep ?_ | refine codeStep ?_ | refine drawStep ?_
  refine SW.drawn rfl (by kernel_rfl) ?_
  repeat first | refine opsStep ?_ | refine codeStep ?_ | refine drawStep ?_
  refine .inr ⟨_, _, _, (slices_Clone_S_new kn names (by omega)), ?_⟩
  repeat first | refine opsStep ?_ | refine codeStep ?_ | refine drawStep ?_
  refine .inr ⟨_, _, _, (slices_Clone_B_new d.ak d.accept (by omega)), ?_⟩
  repeat first | refine opsStep ?_ | refine codeStep ?_ | refine drawStep ?_
  refine ⟨by kernel_rfl, ?_⟩
  repeat first | refine opsStep ?_ | refine codeStep ?_ | refine drawStep ?_
  refine loopE_of (ι := {i : Nat // i ≤ d.next.length})
    (fun i => (fr [(1, aSs kn names), (2, aIs kp (pl.map fun p : Nat => (p : Int))), (6, .ref 1 0 0), (7, .ref 4 0 0), (21, aRs d.nk d.next), (22, .int .i64 d.next.length), (23, .int .i64 i.1)], ovH d names q ((d.rows.take i.1).map (ovRow names.length pl))))
    (fun i => d.next.length - i.1) ⟨0, by omega⟩ ?_ ?_
  · refine ((Ent.fr' (l := [(1, aSs kn names), (2, aIs kp (pl.map fun p : Nat => (p : Int))), (6, .ref 1 0 0), (7, .ref 4 0 0), (21, aRs d.nk d.next), (22, .int .i64 d.next.length), (23, .int .i64 (0 : Nat))])
      (H' := [.cells 0 d.cells, .cells 0 [.sl .nil 0 [], .sl .nil 0 [], .sl .nil 0 []], .cells 0 (names.map .str), .cells 0 (d.accept.map .bool), .cells 0 [.hs 2 0 0 names.length 1, .hs 3 0 0 d.accept.length 1, .sl .nil 0 []]]) ⟨(by kernel_rfl), (by kernel_rfl), (by kernel_rfl), (by kernel_rfl), (by kernel_rfl), (by kernel_rfl), (by kernel_rfl), trivial⟩ (by kernel_rfl)).trans (Ent.nilCell 4 2 1 rfl rfl)).to rfl
  rintro ⟨i, hi⟩
  repeat first | refine opsStep ?_ | refine codeStep ?_ | refine drawStep ?_
  refine decB_dec (fun h => ?_) (fun h => ?_)
  · have hia : i < d.next.length := by have := h; simp at this; omega
    have hlr : i < d.rows.length := by omega
    have ga : d.rows[i] = (d.next[i]).2 := by simp [Den.rows]
    have hri := hrow _ (List.getElem_mem hia)
    obtain ⟨rs, hrs⟩ : ∃ rs, (d.rows.take i).map (ovRow names.length pl) = rs := ⟨_, rfl⟩
    have hrsl : rs.length = i := by rw [← hrs]; simp; omega
    have hnext : (d.rows.take (i + 1)).map (ovRow names.length pl) = rs ++ [ovRow names.length pl (d.next[i]).2] := by
      rw [List.take_succ_eq_append_getElem hlr, List.map_append, hrs, ga]; rfl
    repeat first | refine opsStep ?_ | refine codeStep ?_ | refine drawStep ?_
    refine guardE_of (by simp; omega) ?_
    repeat first | refine opsStep ?_ | refine codeStep ?_ | refine drawStep ?_
    refine optE_of (c := aIs (d.next[i]).1 (d.next[i]).2) (by simp [Value.cells, hia]) ?_
    repeat first | refine opsStep ?_ | refine codeStep ?_ | refine drawStep ?_
    refine guardE_of (by rw [hb]; exact ⟨by omega, by omega, by show (8 : Int) * (q : Int) ≤ 281474976710656; omega, by omega⟩) ?_
    repeat first | refine opsStep ?_ | refine codeStep ?_ | refine drawStep ?_
    refine loopE_of (ι := {a : Nat // a ≤ q})
      (fun a => (fr [(1, aSs kn names), (2, aIs kp (pl.map fun p : Nat => (p : Int))), (6, .ref 1 0 0), (7, .ref 4 0 0), (9, aIs (d.next[i]).1 (d.next[i]).2), (10, .hs (ovH d names q rs).length 0 0 q 1),
        (21, aRs d.nk d.next), (22, .int .i64 d.next.length), (23, .int .i64 i), (32, .int .i64 q), (33, .int .i64 a.1)],
        ovH d names q rs ++ [.cells 0 ((partL (fun a => (d.next[i]).2.getD (gatN a pl) 0) q a.1).map (.int .i64))]))
      (fun a => q - a.1) ⟨0, by omega⟩ (Ent.fr' ⟨(by kernel_rfl), (by kernel_rfl), (by kernel_rfl), (by kernel_rfl), (by kernel_rfl), ?_, (by kernel_rfl), (by kernel_rfl), (by kernel_rfl), ?_, (by kernel_rfl), trivial⟩ ?_) ?_
    · refine Eq.trans (b := .hs (ovH d names q ((d.rows.take i).map (ovRow names.length pl))).length 0 0 (IntKind.wrap .i64 (1 * 2 ^ (min (names.length : Int).toNat (IntKind.bits .i64)))).toNat 1) (by kernel_rfl) ?_
      rw [hb, hrs]; rfl
    · refine Eq.trans (b := .int .i64 ((IntKind.wrap .i64 (1 * 2 ^ (min (names.length : Int).toNat (IntKind.bits .i64)))).toNat : Nat)) (by kernel_rfl) ?_
      rw [hb]; rfl
    · refine Eq.trans (b := ovH d names q ((d.rows.take i).map (ovRow names.length pl)) ++ [.cells 0 (reps [.int .i64 0] (IntKind.wrap .i64 (1 * 2 ^ (min (names.length : Int).toNat (IntKind.bits .i64)))).toNat)]) (by kernel_rfl) ?_
      rw [hb, hrs, reps_one, partL_zero]; simp
    rintro ⟨a, ha⟩
    repeat first | refine opsStep ?_ | refine codeStep ?_ | refine drawStep ?_
    refine decB_dec (fun g => ?_) (fun g => ?_)
    · have haq : a < q := by have := g; simp at this; omega
      repeat first | refine opsStep ?_ | refine codeStep ?_ | refine drawStep ?_
      refine callP (bits_Gather kp a pl (by omega) hp hpl) ?_
      have hgl : gatN a pl < (d.next[i]).2.length := by rw [hri]; exact gatN_lt a pl
      repeat first | refine opsStep ?_ | refine codeStep ?_ | refine drawStep ?_
      refine guardE_of (by simp; omega) ?_
      repeat first | refine opsStep ?_ | refine codeStep ?_ | refine drawStep ?_
      refine optE_of (c := .int .i64 ((d.next[i]).2[gatN a pl])) (by simp [Value.cells, hgl]) ?_
      repeat first | refine opsStep ?_ | refine codeStep ?_ | refine drawStep ?_
      refine guardE_of (by simp; omega) ?_
      repeat first | refine opsStep ?_ | refine codeStep ?_ | refine drawStep ?_
      refine optE_of (get_last _ _) ?_
      refine guardE_of rfl ?_
      refine guardE_of ⟨rfl, by decide, by show 0 + a * 1 + 1 ≤ ((partL (fun a => (d.next[i]).2.getD (gatN a pl) 0) q a).map (AV.int .i64)).length; simp [partL_length]; omega⟩ ?_
      repeat first | refine opsStep ?_ | refine codeStep ?_ | refine drawStep ?_
      refine ⟨⟨a + 1, by omega⟩, (by show q - (a + 1) < q - a; omega), Ent.fr' ⟨(by kernel_rfl), (by kernel_rfl), (by kernel_rfl), (by kernel_rfl), (by kernel_rfl), (by kernel_rfl), (by kernel_rfl), (by kernel_rfl), (by kernel_rfl), (by kernel_rfl), inc_slot (i := a) (by omega), trivial⟩ ?_⟩
      refine Eq.trans (b := (ovH d names q rs ++ [Blk.cells 0 ((partL (fun a => (d.next[i]).2.getD (gatN a pl) 0) q a).map (.int .i64))]).set (ovH d names q rs).length (Blk.cells 0 (over ((partL (fun a => (d.next[i]).2.getD (gatN a pl) 0) q a).map (.int .i64)) (0 + a * 1) [.int .i64 ((d.next[i]).2[gatN a pl])]))) (by kernel_rfl) ?_
      show _ = ovH d names q rs ++ [Blk.cells 0 ((partL (fun a => (d.next[i]).2.getD (gatN a pl) 0) q (a + 1)).map (.int .i64))]
      rw [set_last, Nat.zero_add, Nat.mul_one, over_one (by simp [partL_length]; omega), ← partL_step, List.map_set]
      simp [List.getD_eq_getElem?_getD, hgl]
    · have haq : a = q := by have := g; simp at this; omega
      subst haq
      repeat first | refine opsStep ?_ | refine codeStep ?_ | refine drawStep ?_
      refine guardE_of ⟨rfl, by simp [ovHs]⟩ ?_
      refine guardE_of rfl ?_
      refine optE_of (get_last _ _) ?_
      refine guardE_of ⟨rfl, Nat.le_refl _⟩ ?_
      refine guardE_of ⟨by omega, by show (rs.length + 1) * 24 ≤ 140737488355328; omega⟩ ?_
      repeat first | refine opsStep ?_ | refine codeStep ?_ | refine drawStep ?_
      refine ⟨⟨i + 1, by omega⟩, (by show d.next.length - (i + 1) < d.next.length - i; omega), Ent.to (Ent.frD (X := [.cells 0 [.hs (ovH d names a rs).length 0 0 a 1]])
        (H' := [.cells 0 d.cells, .cells 0 [.sl .nil 0 [], .sl .nil 0 [], .sl .nil 0 []], .cells 0 (names.map .str), .cells 0 (d.accept.map .bool), .cells 0 [.hs 2 0 0 names.length 1, .hs 3 0 0 d.accept.length 1, .hs 5 (rs.length + 1) 0 (rs.length + 1) 1],
          .cells (rs.length + 1) (((ovHs a rs.length).drop 0).take (rs.length * 1) ++ [.hs (ovH d names a rs).length 0 0 a 1])] ++ (ovBlks rs ++ [.cells 0 ((partL (fun a => (d.next[i]).2.getD (gatN a pl) 0) a a).map (.int .i64))]))
        ⟨(by kernel_rfl), (by kernel_rfl), (by kernel_rfl), (by kernel_rfl), (by kernel_rfl), (by kernel_rfl), inc_slot (i := i) (by omega), trivial⟩ (by kernel_rfl) (Nat.zero_le _) ?_ ?_) ?_⟩
      · simp [frBel, AV.bel, aSs_bel, aIs_bel, aRs_bel]
      · simp only [ovBlks, blksBel_append, blksBel, blksBel_map, Blk.bel, bels_append, bels, bels_map, AV.bel, aSs_bel, cells_bel, ovH_length]
        refine ⟨⟨trivial, ⟨trivial, trivial, trivial, trivial⟩, ?_, ?_, ⟨?_, ?_, ?_, trivial⟩, ⟨bels_td ?_, ?_, trivial⟩, trivial⟩, ?_, ?_, trivial⟩
        all_goals first | (refine bels_map.2 fun j hj => ?_; have := List.mem_range.1 hj; simp only [AV.bel]; simp; omega) | (simp; done) | (simp; omega)
      · show _ = ovH d names a ((d.rows.take (i + 1)).map (ovRow names.length pl))
        rw [hnext, td_all (by simp [ovHs]), partL_full, ovH_length]
        have e1 : ovHs a rs.length ++ [.hs (6 + rs.length) 0 0 a 1] = ovHs a (rs.length + 1) := by simp [ovHs, List.range_succ]
        have e2 : ovBlks rs ++ [Blk.cells 0 (((List.range a).map fun a => (d.next[i]).2.getD (gatN a pl) 0).map (.int .i64))] = ovBlks (rs ++ [ovRow names.length pl (d.next[i]).2]) := by simp [ovBlks, ovRow, hq]
        rw [e1, e2]
        simp [ovH]
  · repeat first | refine opsStep ?_ | refine codeStep ?_ | refine drawStep ?_
    have : i = d.next.length := by have := h; simp at this; omega
    subst this
    refine finR (l := [(6, .ref 1 0 0)]) (H₁ := [.cells 0 d.cells, .cells 0 [.hs 2 0 0 names.length 1, .hs 3 0 0 d.accept.length 1, .hs 5 ((d.rows.take d.next.length).map (ovRow names.length pl)).length 0 ((d.rows.take d.next.length).map (ovRow names.length pl)).length 1], .cells 0 (names.map .str), .cells 0 (d.accept.map .bool),
      .cells 0 [.hs 2 0 0 names.length 1, .hs 3 0 0 d.accept.length 1, .hs 5 ((d.rows.take d.next.length).map (ovRow names.length pl)).length 0 ((d.rows.take d.next.length).map (ovRow names.length pl)).length 1], .cells ((d.rows.take d.next.length).map (ovRow names.length pl)).length (ovHs q ((d.rows.take d.next.length).map (ovRow names.length pl)).length)] ++ ovBlks ((d.rows.take d.next.length).map (ovRow names.length pl)))
      (v := .agg [.hs 2 0 0 names.length 1, .hs 3 0 0 d.accept.length 1, .hs 5 ((d.rows.take d.next.length).map (ovRow names.length pl)).length 0 ((d.rows.take d.next.length).map (ovRow names.length pl)).length 1]) ⟨(by kernel_rfl), trivial⟩ (by kernel_rfl) (Ent.refl _ _ _) (by kernel_rfl) ?_
    have hl : ((d.rows.take d.next.length).map (ovRow names.length pl)).length = d.next.length := by simp [hrl]
    rw [hl, List.take_of_length_le (by omega)]
    exact ⟨rfl, _, rfl⟩

end Tab
