/- The document's machine over more tracks. -/
import Derived.Test.YtcfgeoamcnokiaaWp
namespace Tab
open Go Go.Proofs
set_option maxRecDepth 10000
set_option linter.unusedVariables false
set_option linter.unusedSimpArgs false
set_option linter.unusedSectionVars false

def dig (a p : Nat) : Int := ((a / 2 ^ p % 2 : Nat) : Int)
theorem digN_get : ∀ (n a p : Nat), p < n → (digN a n)[p]? = some (dig a p)
  | n + 1, a, 0, _ => by simp [digN, dig]
  | n + 1, a, p + 1, h => by
    rw [digN, List.getElem?_cons_succ, digN_get n (a / 2) p (by omega)]
    simp only [dig, Nat.pow_succ, Nat.div_div_eq_div_mul, Nat.mul_comm]
theorem letS_dig (a : Nat) : ∀ (pl : List Nat), letS (pl.map (dig a)) = (gatN a pl : Nat)
  | [] => rfl
  | p :: pl => by rw [List.map_cons, letS, letS_dig a pl, gatN, dig]; omega
theorem dig_bit (a p : Nat) : 0 ≤ dig a p ∧ dig a p ≤ 1 := by unfold dig; omega

theorem r15_over (kn kp : SK) (d : Den) (names called : List (List UInt8)) (hd : DenOk d) (hn : names.length ≤ 6) (hp : called.length ≤ 6) (hc : ∀ s ∈ called, s ∈ names) (hrow : ∀ r ∈ d.next, r.2.length = 2 ^ called.length) :
    Pure Try.prog 24 [aDen d, aSs kn names, aSs kp called] (aDen ⟨.any, names, .any, d.accept, .any, (d.rows.map (ovRow names.length (placesOf called names))).map fun r => (.any, r)⟩) := by
  have h1 := hd.tracks
  have h2 := hd.accept
  have h3 := hd.next
  obtain ⟨q, hq⟩ : ∃ q, 2 ^ names.length = q := ⟨_, rfl⟩
  have hpow : q ≤ 64 := by rw [← hq]; exact Nat.pow_le_pow_right (by omega) hn
  have hlet : lettersS names.length = (q : Int) := by rw [lettersS_small (by omega), ← hq]; simp
  have hrl : d.rows.length = d.next.length := by simp [Den.rows]
  refine Pure.of_sw 77 Try.func24 rfl Try.ntmps24 (by kernel_rfl) (Nat.le_of_ble_eq_true (by kernel_rfl)) (by simp [closeds, AV.closed, aSs_closed, aIs_closed, aBs_closed, aRs_closed, aDen_closed]) (by simp [AV.closed, closeds, aSs_closed, aIs_closed, aBs_closed, aRs_closed, aDen_closed]) ?_; refine SW.of_vc ?_
  repeat first | refine opsStep ?_ | refine codeStep ?_ | refine drawStep ?_
  refine SW.drawn rfl (by kernel_rfl) ?_
  repeat first | refine opsStep ?_ | refine codeStep ?_ | refine drawStep ?_
  refine guardE_of (by simp [Value.cells]) ?_
  refine guardE_of ⟨by omega, by show (0 + names.length) * 16 ≤ 140737488355328; omega⟩ ?_
  repeat first | refine opsStep ?_ | refine codeStep ?_ | refine drawStep ?_
  refine guardE_of (by simp [Value.cells]) ?_
  refine guardE_of ⟨by omega, by show (0 + d.accept.length) * 1 ≤ 140737488355328; omega⟩ ?_
  repeat first | refine opsStep ?_ | refine codeStep ?_ | refine drawStep ?_
  refine ⟨by kernel_rfl, ?_⟩
  repeat first | refine opsStep ?_ | refine codeStep ?_ | refine drawStep ?_
  refine loopE_of (ι := {i : Nat // i ≤ d.next.length})
    (fun i => (fr [(1, aSs kn names), (2, aSs kp called), (3, .ref 0 0 0), (6, .ref 1 0 0), (7, .ref 4 0 0), (8, .int .i64 i.1)],
      [.cells 0 d.cells, .cells 0 den0.cells, .fro 1 (names.map .str), .fro 1 (d.accept.map .bool), .cells 0 [aSs .any names, aBs .any d.accept, .hs 5 i.1 0 i.1 1], .cells i.1 (((d.rows.take i.1).map (ovRow names.length (placesOf called names))).map (aIs .any))]))
    (fun i => d.next.length - i.1) ⟨0, by omega⟩ ?_ ?_
  · refine (Ent.fr' (l := [(1, aSs kn names), (2, aSs kp called), (3, .ref 0 0 0), (6, .ref 1 0 0), (7, .ref 4 0 0), (8, .int .i64 (0 : Nat))])
      (H' := [.cells 0 d.cells, .cells 0 den0.cells, .cells 1 (names.map .str), .cells 1 (d.accept.map .bool), .cells 0 [.hs 2 1 0 (0 + names.length) 1, .hs 3 1 0 (0 + d.accept.length) 1, .sl .nil 0 []]]) ⟨(by kernel_rfl), (by kernel_rfl), (by kernel_rfl), (by kernel_rfl), (by kernel_rfl), (by kernel_rfl), trivial⟩ (by kernel_rfl)).trans ?_
    rw [Nat.zero_add, Nat.zero_add]
    exact (((Ent.freezeCell 4 0 (b := 2) rfl rfl rfl (by omega) (by simp)).trans (Ent.freezeCell 4 1 (b := 3) rfl rfl rfl (by omega) (by simp))).trans (Ent.nilCell 4 2 1 rfl rfl)).to (by kernel_rfl)
  rintro ⟨i, hi⟩
  repeat first | refine opsStep ?_ | refine codeStep ?_ | refine drawStep ?_
  refine decB_dec (fun h => ?_) (fun h => ?_)
  · have hia : i < d.next.length := by have := h; simp at this; omega
    have hlr : i < d.rows.length := by omega
    have ga : d.rows[i] = (d.next[i]).2 := by simp [Den.rows]
    have hri := hrow _ (List.getElem_mem hia)
    obtain ⟨rs, hrs⟩ : ∃ rs, (d.rows.take i).map (ovRow names.length (placesOf called names)) = rs := ⟨_, rfl⟩
    have hrsl : rs.length = i := by rw [← hrs]; simp; omega
    obtain ⟨f, hf⟩ : ∃ f : Nat → Int, f = fun a => (d.next[i]).2.getD (gatN a (placesOf called names)) 0 := ⟨_, rfl⟩
    repeat first | refine opsStep ?_ | refine codeStep ?_ | refine drawStep ?_
    refine loopE_of (ι := {a : Nat // a ≤ q})
      (fun a => (fr [(1, aSs kn names), (2, aSs kp called), (3, .ref 0 0 0), (6, .ref 1 0 0), (7, .ref 4 0 0), (8, .int .i64 i), (9, .hs 6 a.1 0 a.1 1), (10, .int .i64 a.1)],
        [.cells 0 d.cells, .cells 0 den0.cells, .fro 1 (names.map .str), .fro 1 (d.accept.map .bool), .cells 0 [aSs .any names, aBs .any d.accept, .hs 5 i 0 i 1], .cells i (rs.map (aIs .any)), .cells a.1 (((List.range a.1).map f).map (.int .i64))]))
      (fun a => q - a.1) ⟨0, by omega⟩ ?_ ?_
    · rw [← hrs]
      exact ((Ent.fr' (l := [(1, aSs kn names), (2, aSs kp called), (3, .ref 0 0 0), (6, .ref 1 0 0), (7, .ref 4 0 0), (8, .int .i64 i), (9, .sl .nil 0 []), (10, .int .i64 (0 : Nat))])
        (H' := [.cells 0 d.cells, .cells 0 den0.cells, .fro 1 (names.map .str), .fro 1 (d.accept.map .bool), .cells 0 [aSs .any names, aBs .any d.accept, .hs 5 i 0 i 1], .cells i (((d.rows.take i).map (ovRow names.length (placesOf called names))).map (aIs .any))]) ⟨(by kernel_rfl), (by kernel_rfl), (by kernel_rfl), (by kernel_rfl), (by kernel_rfl), (by kernel_rfl), (by kernel_rfl), (by kernel_rfl), trivial⟩ (by kernel_rfl)).trans (Ent.nil 9 1 rfl)).trans (Ent.fr' ⟨(by kernel_rfl), (by kernel_rfl), (by kernel_rfl), (by kernel_rfl), (by kernel_rfl), (by kernel_rfl), (by kernel_rfl), (by kernel_rfl), trivial⟩ (by kernel_rfl))
    rintro ⟨a, ha⟩
    repeat first | refine opsStep ?_ | refine codeStep ?_ | refine drawStep ?_
    refine callP (r12_Letters names.length (by omega)) ?_
    repeat first | refine opsStep ?_ | refine codeStep ?_ | refine drawStep ?_
    refine decB_dec (fun g => ?_) (fun g => ?_)
    · have haq : a < q := by rw [hlet] at g; have := g; simp at this; omega
      repeat first | refine opsStep ?_ | refine codeStep ?_ | refine drawStep ?_
      refine callP (r02_Digits a names.length (by omega) (by omega)) ?_
      repeat first | refine opsStep ?_ | refine codeStep ?_ | refine drawStep ?_
      refine loopE_of (ι := {t : Nat // t ≤ called.length})
        (fun t => (fr [(1, aSs kn names), (2, aSs kp called), (3, .ref 0 0 0), (6, .ref 1 0 0), (7, .ref 4 0 0), (8, .int .i64 i), (9, .hs 6 a 0 a 1), (10, .int .i64 a), (11, aIs .any (digN a names.length)), (12, .hs 7 t.1 0 t.1 1), (13, .int .i64 t.1)],
          [.cells 0 d.cells, .cells 0 den0.cells, .fro 1 (names.map .str), .fro 1 (d.accept.map .bool), .cells 0 [aSs .any names, aBs .any d.accept, .hs 5 i 0 i 1], .cells i (rs.map (aIs .any)), .cells a (((List.range a).map f).map (.int .i64)), .cells t.1 ((((placesOf called names).take t.1).map (dig a)).map (.int .i64))]))
        (fun t => called.length - t.1) ⟨0, by omega⟩ ?_ ?_
      · exact ((Ent.fr' (l := [(1, aSs kn names), (2, aSs kp called), (3, .ref 0 0 0), (6, .ref 1 0 0), (7, .ref 4 0 0), (8, .int .i64 i), (9, .hs 6 a 0 a 1), (10, .int .i64 a), (11, aIs .any (digN a names.length)), (12, .sl .nil 0 []), (13, .int .i64 (0 : Nat))])
          (H' := [.cells 0 d.cells, .cells 0 den0.cells, .fro 1 (names.map .str), .fro 1 (d.accept.map .bool), .cells 0 [aSs .any names, aBs .any d.accept, .hs 5 i 0 i 1], .cells i (rs.map (aIs .any)), .cells a (((List.range a).map f).map (.int .i64))]) ⟨(by kernel_rfl), (by kernel_rfl), (by kernel_rfl), (by kernel_rfl), (by kernel_rfl), (by kernel_rfl), (by kernel_rfl), (by kernel_rfl), (by kernel_rfl), (by kernel_rfl), (by kernel_rfl), trivial⟩ (by kernel_rfl)).trans (Ent.nil 12 1 rfl)).trans (Ent.fr' ⟨(by kernel_rfl), (by kernel_rfl), (by kernel_rfl), (by kernel_rfl), (by kernel_rfl), (by kernel_rfl), (by kernel_rfl), (by kernel_rfl), (by kernel_rfl), (by kernel_rfl), (by kernel_rfl), trivial⟩ (by kernel_rfl))
      rintro ⟨t, ht⟩
      repeat first | refine opsStep ?_ | refine codeStep ?_ | refine drawStep ?_
      refine decB_dec (fun e => ?_) (fun e => ?_)
      · have hta : t < called.length := by have := e; simp at this; omega
        have hm : called[t] ∈ names := hc _ (List.getElem_mem hta)
        have hlt := List.idxOf_lt_length_of_mem hm
        have hix : idxS names called[t] = (names.idxOf called[t] : Nat) := by rw [idxS, if_pos hlt]
        repeat first | refine opsStep ?_ | refine codeStep ?_ | refine drawStep ?_
        refine guardE_of (by simp; omega) ?_
        repeat first | refine opsStep ?_ | refine codeStep ?_ | refine drawStep ?_
        refine optE_of (c := .str called[t]) (by simp [Value.cells, hta]) ?_
        repeat first | refine opsStep ?_ | refine codeStep ?_ | refine drawStep ?_
        refine callP (r04_Index kn names called[t] (by omega)) ?_
        repeat first | refine opsStep ?_ | refine codeStep ?_ | refine drawStep ?_
        refine guardE_of (by rw [hix]; simp [digN_length]; omega) ?_
        repeat first | refine opsStep ?_ | refine codeStep ?_ | refine drawStep ?_
        refine optE_of (c := .int .i64 (dig a (names.idxOf called[t]))) (by rw [hix]; simp [Value.cells, digN_get _ _ _ hlt]) ?_
        repeat first | refine opsStep ?_ | refine codeStep ?_ | refine drawStep ?_
        refine guardE_of ⟨rfl, by simp [placesOf]; omega⟩ ?_
        refine guardE_of rfl ?_
        refine guardE_of ⟨by omega, by show (t + 1) * 8 ≤ 140737488355328; omega⟩ ?_
        repeat first | refine opsStep ?_ | refine codeStep ?_ | refine drawStep ?_
        refine ⟨⟨t + 1, by omega⟩, (by show called.length - (t + 1) < called.length - t; omega), Ent.to (Ent.frD (X := [.cells 0 [.int .i64 (dig a (names.idxOf called[t]))]])
          (H' := [.cells 0 d.cells, .cells 0 den0.cells, .fro 1 (names.map .str), .fro 1 (d.accept.map .bool), .cells 0 [aSs .any names, aBs .any d.accept, .hs 5 i 0 i 1], .cells i (rs.map (aIs .any)), .cells a (((List.range a).map f).map (.int .i64)), .cells (t + 1) ((((((placesOf called names).take t).map (dig a)).map (AV.int .i64)).drop 0).take (t * 1) ++ [.int .i64 (dig a (names.idxOf called[t]))])])
          ⟨(by kernel_rfl), (by kernel_rfl), (by kernel_rfl), (by kernel_rfl), (by kernel_rfl), (by kernel_rfl), (by kernel_rfl), (by kernel_rfl), (by kernel_rfl), (by kernel_rfl), inc_slot (i := t) (by omega), trivial⟩ (by kernel_rfl) (Nat.zero_le _) (by first | (simp [frBel, blksBel, Blk.bel, AV.bel, bels, bels_append, bels_map, aSs_bel, aIs_bel, aBs_bel, aRs_bel, aDen_bel, cells_bel]; done) | (simp only [List.drop_zero, ← List.map_take, ← List.map_drop, List.map_map, frBel, blksBel, Blk.bel, AV.bel, bels, bels_append, bels_map, aSs_bel, aIs_bel, aBs_bel, aRs_bel, aDen_bel, cells_bel]; simp [AV.bel, aSs_bel, aIs_bel, aBs_bel, aRs_bel, aDen_bel, cells_bel])) (by first | (simp [frBel, blksBel, Blk.bel, AV.bel, bels, bels_append, bels_map, aSs_bel, aIs_bel, aBs_bel, aRs_bel, aDen_bel, cells_bel]; done) | (simp only [List.drop_zero, ← List.map_take, ← List.map_drop, List.map_map, frBel, blksBel, Blk.bel, AV.bel, bels, bels_append, bels_map, aSs_bel, aIs_bel, aBs_bel, aRs_bel, aDen_bel, cells_bel]; simp [AV.bel, aSs_bel, aIs_bel, aBs_bel, aRs_bel, aDen_bel, cells_bel]))) ?_⟩
        show _ = ([.cells 0 d.cells, .cells 0 den0.cells, .fro 1 (names.map .str), .fro 1 (d.accept.map .bool), .cells 0 [aSs .any names, aBs .any d.accept, .hs 5 i 0 i 1], .cells i (rs.map (aIs .any)), .cells a (((List.range a).map f).map (.int .i64)), .cells (t + 1) ((((placesOf called names).take (t + 1)).map (dig a)).map (.int .i64))] : List Blk)
        rw [td_all (by simp; omega), List.take_succ_eq_append_getElem (i := t) (by simp [placesOf]; omega), List.map_append, List.map_append]
        simp [placesOf]
      · have : t = called.length := by have := e; simp at this; omega
        subst this
        have hpl : (placesOf called names).take called.length = placesOf called names := List.take_of_length_le (by simp [placesOf])
        have hgl : gatN a (placesOf called names) < (d.next[i]).2.length := by have := gatN_lt a (placesOf called names); rw [hri]; simpa [placesOf] using this
        refine VCode.ent (s' := fr [(1, aSs kn names), (2, aSs kp called), (3, .ref 0 0 0), (6, .ref 1 0 0), (7, .ref 4 0 0), (8, .int .i64 i), (9, .hs 6 a 0 a 1), (10, .int .i64 a), (12, aIs .any ((placesOf called names).map (dig a)))])
          (H' := [.cells 0 d.cells, .cells 0 den0.cells, .fro 1 (names.map .str), .fro 1 (d.accept.map .bool), .cells 0 [aSs .any names, aBs .any d.accept, .hs 5 i 0 i 1], .cells i (rs.map (aIs .any)), .cells a (((List.range a).map f).map (.int .i64))]) ?_ ?_
        · refine Ent.freezeLast (l := [(1, aSs kn names), (2, aSs kp called), (3, .ref 0 0 0), (6, .ref 1 0 0), (7, .ref 4 0 0), (8, .int .i64 i), (9, .hs 6 a 0 a 1), (10, .int .i64 a), (12, .hs 7 called.length 0 called.length 1)]) (g := called.length) (n := called.length) (es := 1)
            (cs := ((placesOf called names).map (dig a)).map (.int .i64)) _ 12 ⟨(by kernel_rfl), (by kernel_rfl), (by kernel_rfl), (by kernel_rfl), (by kernel_rfl), (by kernel_rfl), (by kernel_rfl), (by kernel_rfl), (by kernel_rfl), trivial⟩ (by kernel_rfl) (Eq.trans (b := some (.cells called.length ((((placesOf called names).take called.length).map (dig a)).map (.int .i64)))) (by kernel_rfl) (by rw [hpl])) rfl (by simp [placesOf]) (Nat.zero_le _)
            ⟨(by kernel_rfl), (by kernel_rfl), (by kernel_rfl), (by kernel_rfl), (by kernel_rfl), (by kernel_rfl), (by kernel_rfl), (by kernel_rfl), Eq.trans (b := .sl .any called.length (((placesOf called names).map (dig a)).map (.int .i64))) (by kernel_rfl) (by simp [aIs, placesOf]), trivial⟩ (by first | (simp [frBel, blksBel, Blk.bel, AV.bel, bels, bels_append, bels_map, aSs_bel, aIs_bel, aBs_bel, aRs_bel, aDen_bel, cells_bel]; done) | (simp only [List.drop_zero, ← List.map_take, ← List.map_drop, List.map_map, frBel, blksBel, Blk.bel, AV.bel, bels, bels_append, bels_map, aSs_bel, aIs_bel, aBs_bel, aRs_bel, aDen_bel, cells_bel]; simp [AV.bel, aSs_bel, aIs_bel, aBs_bel, aRs_bel, aDen_bel, cells_bel])) (by first | (simp [frBel, blksBel, Blk.bel, AV.bel, bels, bels_append, bels_map, aSs_bel, aIs_bel, aBs_bel, aRs_bel, aDen_bel, cells_bel]; done) | (simp only [List.drop_zero, ← List.map_take, ← List.map_drop, List.map_map, frBel, blksBel, Blk.bel, AV.bel, bels, bels_append, bels_map, aSs_bel, aIs_bel, aBs_bel, aRs_bel, aDen_bel, cells_bel]; simp [AV.bel, aSs_bel, aIs_bel, aBs_bel, aRs_bel, aDen_bel, cells_bel]))
        repeat first | refine opsStep ?_ | refine codeStep ?_ | refine drawStep ?_
        refine SW.drawn rfl (by kernel_rfl) ?_
        repeat first | refine opsStep ?_ | refine codeStep ?_ | refine drawStep ?_
        refine guardE_of (by simp; omega) ?_
        repeat first | refine opsStep ?_ | refine codeStep ?_ | refine drawStep ?_
        refine optE_of (c := aIs (d.next[i]).1 (d.next[i]).2) (by simp [Value.cells, hia]) ?_
        repeat first | refine opsStep ?_ | refine codeStep ?_ | refine drawStep ?_
        refine .inl ⟨_, _, [], (r02_Letter .any ((placesOf called names).map (dig a)) (by simp [placesOf]; omega) (fun x hx => by obtain ⟨p, _, rfl⟩ := List.mem_map.1 hx; exact dig_bit a p)), RdsN_refl _, .inr rfl, none_need, ?_⟩
        repeat first | refine opsStep ?_ | refine codeStep ?_ | refine drawStep ?_
        refine guardE_of (by rw [letS_dig]; simp; omega) ?_
        repeat first | refine opsStep ?_ | refine codeStep ?_ | refine drawStep ?_
        refine optE_of (c := .int .i64 (f a)) (by rw [letS_dig, hf]; simp [Value.cells, hgl, List.getD_eq_getElem?_getD]) ?_
        repeat first | refine opsStep ?_ | refine codeStep ?_ | refine drawStep ?_
        refine guardE_of ⟨rfl, by simp⟩ ?_
        refine guardE_of rfl ?_
        refine guardE_of ⟨by omega, by show (a + 1) * 8 ≤ 140737488355328; omega⟩ ?_
        repeat first | refine opsStep ?_ | refine codeStep ?_ | refine drawStep ?_
        refine ⟨by kernel_rfl, ?_⟩
        repeat first | refine opsStep ?_ | refine codeStep ?_ | refine drawStep ?_
        refine ⟨⟨a + 1, by omega⟩, (by show q - (a + 1) < q - a; omega), Ent.to (Ent.frD (X := [.cells 0 [.int .i64 (f a)]])
          (H' := [.cells 0 d.cells, .cells 0 den0.cells, .fro 1 (names.map .str), .fro 1 (d.accept.map .bool), .cells 0 [aSs .any names, aBs .any d.accept, .hs 5 i 0 i 1], .cells i (rs.map (aIs .any)), .cells (a + 1) (((((List.range a).map f).map (AV.int .i64)).drop 0).take (a * 1) ++ [.int .i64 (f a)])])
          ⟨(by kernel_rfl), (by kernel_rfl), (by kernel_rfl), (by kernel_rfl), (by kernel_rfl), (by kernel_rfl), (by kernel_rfl), inc_slot (i := a) (by omega), trivial⟩ (by kernel_rfl) (Nat.zero_le _) (by first | (simp [frBel, blksBel, Blk.bel, AV.bel, bels, bels_append, bels_map, aSs_bel, aIs_bel, aBs_bel, aRs_bel, aDen_bel, cells_bel]; done) | (simp only [List.drop_zero, ← List.map_take, ← List.map_drop, List.map_map, frBel, blksBel, Blk.bel, AV.bel, bels, bels_append, bels_map, aSs_bel, aIs_bel, aBs_bel, aRs_bel, aDen_bel, cells_bel]; simp [AV.bel, aSs_bel, aIs_bel, aBs_bel, aRs_bel, aDen_bel, cells_bel])) (by first | (simp [frBel, blksBel, Blk.bel, AV.bel, bels, bels_append, bels_map, aSs_bel, aIs_bel, aBs_bel, aRs_bel, aDen_bel, cells_bel]; done) | (simp only [List.drop_zero, ← List.map_take, ← List.map_drop, List.map_map, frBel, blksBel, Blk.bel, AV.bel, bels, bels_append, bels_map, aSs_bel, aIs_bel, aBs_bel, aRs_bel, aDen_bel, cells_bel]; simp [AV.bel, aSs_bel, aIs_bel, aBs_bel, aRs_bel, aDen_bel, cells_bel]))) ?_⟩
        show _ = ([.cells 0 d.cells, .cells 0 den0.cells, .fro 1 (names.map .str), .fro 1 (d.accept.map .bool), .cells 0 [aSs .any names, aBs .any d.accept, .hs 5 i 0 i 1], .cells i (rs.map (aIs .any)), .cells (a + 1) (((List.range (a + 1)).map f).map (.int .i64))] : List Blk)
        rw [td_all (by simp), List.range_succ, List.map_append, List.map_append]
        rfl
    · repeat first | refine opsStep ?_ | refine codeStep ?_ | refine drawStep ?_
      have : a = q := by rw [hlet] at g; have := g; simp at this; omega
      subst this
      refine guardE_of ⟨rfl, by simp; omega⟩ ?_
      refine guardE_of rfl ?_
      refine guardE_of ⟨by omega, by show (i + 1) * 24 ≤ 140737488355328; omega⟩ ?_
      repeat first | refine opsStep ?_ | refine codeStep ?_ | refine drawStep ?_
      refine ⟨⟨i + 1, by omega⟩, (by show d.next.length - (i + 1) < d.next.length - i; omega), Ent.rowNext [.cells 0 d.cells, .cells 0 den0.cells, .fro 1 (names.map .str), .fro 1 (d.accept.map .bool), .cells 0 [aSs .any names, aBs .any d.accept, .hs 5 (i + 1) 0 (i + 1) 1]]
        (n := a) (es := 1) (L := ((rs.map (aIs .any)).drop 0).take (i * 1)) (gb := i + 1) (gr := a) (cs := ((List.range a).map f).map (.int .i64)) ⟨(by kernel_rfl), (by kernel_rfl), (by kernel_rfl), (by kernel_rfl), (by kernel_rfl), inc_slot (i := i) (by omega), trivial⟩ (by kernel_rfl) (by kernel_rfl) (by kernel_rfl) rfl (by simp) (Nat.zero_le _) (by first | (simp [frBel, blksBel, Blk.bel, AV.bel, bels, bels_append, bels_map, aSs_bel, aIs_bel, aBs_bel, aRs_bel, aDen_bel, cells_bel]; done) | (simp only [List.drop_zero, ← List.map_take, ← List.map_drop, List.map_map, frBel, blksBel, Blk.bel, AV.bel, bels, bels_append, bels_map, aSs_bel, aIs_bel, aBs_bel, aRs_bel, aDen_bel, cells_bel]; simp [AV.bel, aSs_bel, aIs_bel, aBs_bel, aRs_bel, aDen_bel, cells_bel])) (by first | (simp [frBel, blksBel, Blk.bel, AV.bel, bels, bels_append, bels_map, aSs_bel, aIs_bel, aBs_bel, aRs_bel, aDen_bel, cells_bel]; done) | (simp only [List.drop_zero, ← List.map_take, ← List.map_drop, List.map_map, frBel, blksBel, Blk.bel, AV.bel, bels, bels_append, bels_map, aSs_bel, aIs_bel, aBs_bel, aRs_bel, aDen_bel, cells_bel]; simp [AV.bel, aSs_bel, aIs_bel, aBs_bel, aRs_bel, aDen_bel, cells_bel])) (bels_td (bels_map.2 fun _ _ => aIs_bel _ _ _)) (by first | (simp [frBel, blksBel, Blk.bel, AV.bel, bels, bels_append, bels_map, aSs_bel, aIs_bel, aBs_bel, aRs_bel, aDen_bel, cells_bel]; done) | (simp only [List.drop_zero, ← List.map_take, ← List.map_drop, List.map_map, frBel, blksBel, Blk.bel, AV.bel, bels, bels_append, bels_map, aSs_bel, aIs_bel, aBs_bel, aRs_bel, aDen_bel, cells_bel]; simp [AV.bel, aSs_bel, aIs_bel, aBs_bel, aRs_bel, aDen_bel, cells_bel])) ?_⟩
      rw [td_all (by simp; omega)]
      show _ = ([.cells 0 d.cells, .cells 0 den0.cells, .fro 1 (names.map .str), .fro 1 (d.accept.map .bool), .cells 0 [aSs .any names, aBs .any d.accept, .hs 5 (i + 1) 0 (i + 1) 1], Blk.cells (i + 1) (((d.rows.take (i + 1)).map (ovRow names.length (placesOf called names))).map (aIs .any))] : List Blk)
      rw [List.take_succ_eq_append_getElem hlr, List.map_append, hrs, ga]
      simp [aIs, ovRow, hq, hf]
  · repeat first | refine opsStep ?_ | refine codeStep ?_ | refine drawStep ?_
    have : i = d.next.length := by have := h; simp at this; omega
    subst this
    obtain ⟨rs, hrs⟩ : ∃ rs, d.rows.map (ovRow names.length (placesOf called names)) = rs := ⟨_, rfl⟩
    have hrsl : rs.length = d.next.length := by rw [← hrs]; simp [hrl]
    have hfin : ∀ (nt : Fr), Ent nt (fr [(6, .ref 1 0 0)]) [.cells 0 d.cells, .cells 0 [aSs .any names, aBs .any d.accept, .hs 5 d.next.length 0 d.next.length 1], .fro 1 (names.map .str), .fro 1 (d.accept.map .bool), .cells 0 [aSs .any names, aBs .any d.accept, .hs 5 d.next.length 0 d.next.length 1],
          .cells d.next.length (rs.map (aIs .any))] (fr [(6, .ref 1 0 0)]) [.cells 0 d.cells, .cells 0 [aSs .any names, aBs .any d.accept, .sl .any d.next.length (rs.map (aIs .any))], .fro 1 (names.map .str), .fro 1 (d.accept.map .bool), .cells 0 [aSs .any names, aBs .any d.accept, .hs 5 d.next.length 0 d.next.length 1],
          .fro d.next.length (rs.map (aIs .any))] := fun nt => (Ent.freezeCell 1 2 (b := 5) rfl rfl rfl (by omega) (by simp [hrsl])).to rfl
    refine finH (l := [(6, .ref 1 0 0)]) ⟨(by kernel_rfl), trivial⟩ (Eq.trans (b := [.cells 0 d.cells, .cells 0 [aSs .any names, aBs .any d.accept, .hs 5 d.next.length 0 d.next.length 1], .fro 1 (names.map .str), .fro 1 (d.accept.map .bool), .cells 0 [aSs .any names, aBs .any d.accept, .hs 5 d.next.length 0 d.next.length 1], .cells d.next.length (((d.rows.take d.next.length).map (ovRow names.length (placesOf called names))).map (aIs .any))]) (by kernel_rfl) (by rw [← hrs, List.take_of_length_le (l := d.rows) (i := d.next.length) (by omega)])) (hfin _) ?_
    refine Eq.trans (b := some (.agg [aSs .any names, aBs .any d.accept, .sl .any d.next.length (rs.map (aIs .any))])) (by kernel_rfl) ?_
    rw [hrs]
    simp [aDen, Den.cells, aRs, hrsl, Function.comp_def]

end Tab
