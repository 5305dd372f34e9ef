/- Lemmas for this claim: part 11. No condition. -/
import Derived.Test.YtgadapklmphliaaZ5
import Derived.Test.YtgadapklmphliaaZ9
import Derived.Test.YtgadapklmphliaaZ10
/- Machines compared, copied. -/
namespace Tab
open Go Go.Proofs
set_option maxRecDepth 10000
set_option linter.unusedVariables false
set_option linter.unusedSimpArgs false
set_option linter.unusedSectionVars false

def Den.rows (d : Den) : List (List Int) := d.next.map (·.2)
@[irreducible] def sameD (d e : Den) : Bool := decide (d.tracks = e.tracks) && decide (d.accept = e.accept) && decide (d.rows = e.rows)
theorem sameD_eq (d e : Den) : sameD d e = (decide (d.tracks = e.tracks) && decide (d.accept = e.accept) && decide (d.rows = e.rows)) := by unfold sameD; rfl

theorem r12_SameDense (d e : Den) (hd : DenOk d) (he : DenOk e) : Pure Try.prog 33 [aDen d, aDen e] (.bool (sameD d e)) := by
  have d1 := hd.tracks
  have d2 := hd.accept
  have d3 := hd.next
  have e1 := he.tracks
  have e2 := he.accept
  have e3 := he.next
  refine Pure.of_sw 48 Try.func33 rfl Try.ntmps33 (by kernel_rfl) (Nat.le_of_ble_eq_true (by kernel_rfl)) (by simp [closeds, AV.closed, aSs_closed, aIs_closed, aBs_closed, aRs_closed, aDen_closed]) (by simp [AV.closed, closeds, aSs_closed, aIs_closed, aBs_closed, aRs_closed, aDen_closed]) ?_; refine SW.of_vc ?_
  repeat first | refine opsStep ?_ | refine codeStep ?_ | refine drawStep ?_
  refine callP (r12_texts d.tk e.tk d.tracks e.tracks (by omega) (by omega)) ?_
  repeat first | refine opsStep ?_ | refine codeStep ?_ | refine drawStep ?_
  refine decB_split (fun h => ?_) (fun h => ?_)
  · repeat first | refine opsStep ?_ | refine codeStep ?_ | refine drawStep ?_
    exact finB (b' := false) (by kernel_rfl) (by
      have : decide (d.tracks = e.tracks) = false := by simpa using h
      rw [sameD_eq, this]; simp)
  · have ht : decide (d.tracks = e.tracks) = true := by simpa using h
    repeat first | refine opsStep ?_ | refine codeStep ?_ | refine drawStep ?_
    refine callP (r12_flags d.ak e.ak d.accept e.accept (by omega) (by omega)) ?_
    repeat first | refine opsStep ?_ | refine codeStep ?_ | refine drawStep ?_
    refine decB_split (fun h => ?_) (fun h => ?_)
    · repeat first | refine opsStep ?_ | refine codeStep ?_ | refine drawStep ?_
      exact finB (b' := false) (by kernel_rfl) (by
        have : decide (d.accept = e.accept) = false := by simpa using h
        rw [sameD_eq, this]; simp)
    · have ha : decide (d.accept = e.accept) = true := by simpa using h
      repeat first | refine opsStep ?_ | refine codeStep ?_ | refine drawStep ?_
      refine decB_dec (fun hn => ?_) (fun hn => ?_)
      · repeat first | refine opsStep ?_ | refine codeStep ?_ | refine drawStep ?_
        exact finB (b' := false) (by kernel_rfl) (by
          rw [sameD_eq, decide_eq_false (show ¬ d.rows = e.rows from fun k => hn (by have := congrArg List.length k; simp [Den.rows] at this; omega))]; simp)
      · have hn' : d.next.length = e.next.length := by have := hn; omega
        repeat first | refine opsStep ?_ | refine codeStep ?_ | refine drawStep ?_
        refine loopE_of (ι := {i : Nat // i ≤ d.next.length ∧ d.rows.take i = e.rows.take i})
          (fun i => (fr [(2, .ref 0 0 0), (3, .ref 1 0 0), (5, .int .i64 i.1)], [.cells 0 d.cells, .cells 0 e.cells])) (fun i => d.next.length - i.1) ⟨0, by omega, by simp⟩ (Ent.fr' ⟨(by kernel_rfl), (by kernel_rfl), (by kernel_rfl), trivial⟩ (by kernel_rfl)) ?_
        rintro ⟨i, hi, hpre⟩
        repeat first | refine opsStep ?_ | refine codeStep ?_ | refine drawStep ?_
        refine decB_dec (fun h => ?_) (fun h => ?_)
        · have hia : i < d.next.length := by have := h; simp at this; omega
          have hib : i < e.next.length := by omega
          have hra := hd.rows _ (List.getElem_mem hia)
          have hrb := he.rows _ (List.getElem_mem hib)
          have ga : d.rows[i]'(by simpa [Den.rows] using hia) = (d.next[i]).2 := by simp [Den.rows]
          have gb : e.rows[i]'(by simpa [Den.rows] using hib) = (e.next[i]).2 := by simp [Den.rows]
          repeat first | refine opsStep ?_ | refine codeStep ?_ | refine drawStep ?_
          refine SW.drawn rfl (by kernel_rfl) ?_
          repeat first | refine opsStep ?_ | refine codeStep ?_ | refine drawStep ?_
          refine guardE_of (by simp; omega) ?_
          repeat first | refine opsStep ?_ | refine codeStep ?_ | refine drawStep ?_
          refine optE_of (c := aIs (d.next[i]).1 (d.next[i]).2) (by simp [Value.cells, hia]) ?_
          repeat first | refine opsStep ?_ | refine codeStep ?_ | refine drawStep ?_
          refine guardE_of (by simp; omega) ?_
          repeat first | refine opsStep ?_ | refine codeStep ?_ | refine drawStep ?_
          refine optE_of (c := aIs (e.next[i]).1 (e.next[i]).2) (by simp [Value.cells, hib]) ?_
          repeat first | refine opsStep ?_ | refine codeStep ?_ | refine drawStep ?_
          refine .inl ⟨_, _, [], (r12_ints (d.next[i]).1 (e.next[i]).1 (d.next[i]).2 (e.next[i]).2 (by omega) (by omega)), RdsN_refl _, .inr rfl, none_need, ?_⟩
          repeat first | refine opsStep ?_ | refine codeStep ?_ | refine drawStep ?_
          refine ⟨by kernel_rfl, ?_⟩
          repeat first | refine opsStep ?_ | refine codeStep ?_ | refine drawStep ?_
          refine decB_split (fun h => ?_) (fun h => ?_)
          · repeat first | refine opsStep ?_ | refine codeStep ?_ | refine drawStep ?_
            exact finB (b' := false) (by kernel_rfl) (by
              have hne : ¬ (d.next[i]).2 = (e.next[i]).2 := by simpa using h
              rw [sameD_eq, decide_eq_false (show ¬ d.rows = e.rows from fun k => hne (by rw [← ga, ← gb]; simp only [k]))]; simp)
          · repeat first | refine opsStep ?_ | refine codeStep ?_ | refine drawStep ?_
            have heq : (d.next[i]).2 = (e.next[i]).2 := by simpa using h
            refine ⟨⟨i + 1, by omega, ?_⟩, (by show d.next.length - (i + 1) < d.next.length - i; omega), Ent.fr' ⟨(by kernel_rfl), (by kernel_rfl), inc_slot (i := i) (by omega), trivial⟩ (by kernel_rfl)⟩
            rw [List.take_succ_eq_append_getElem (by simpa [Den.rows] using hia), List.take_succ_eq_append_getElem (by simpa [Den.rows] using hib), hpre, ga, gb, heq]
        · repeat first | refine opsStep ?_ | refine codeStep ?_ | refine drawStep ?_
          have : i = d.next.length := by have := h; simp at this; omega
          exact finB (b' := true) (by kernel_rfl) (by
            have l1 : d.rows.length = d.next.length := by simp [Den.rows]
            have l2 : e.rows.length = d.next.length := by simp [Den.rows, hn']
            rw [List.take_of_length_le (by omega), List.take_of_length_le (by omega)] at hpre
            rw [sameD_eq, ht, ha, decide_eq_true hpre]; simp)

end Tab

/- A machine copied. -/
namespace Tab
open Go Go.Proofs
set_option maxRecDepth 10000
set_option linter.unusedVariables false
set_option linter.unusedSimpArgs false
set_option linter.unusedSectionVars false

def copyD (d : Den) : Den := ⟨.any, d.tracks, .any, d.accept, .any, d.rows.map fun r => (.any, r)⟩

end Tab

/- A machine over more tracks: its rows, in new memory. -/
namespace Tab
open Go Go.Proofs
set_option maxRecDepth 10000
set_option linter.unusedVariables false
set_option linter.unusedSimpArgs false
set_option linter.unusedSectionVars false

def ovRow (n : Nat) (pl : List Nat) (r : List Int) : List Int := (List.range (2 ^ n)).map fun a => r.getD (gatN a pl) 0

def ovHs (n i : Nat) : List AV := (List.range i).map fun j => .hs (6 + j) 0 0 n 1
def ovBlks (rows : List (List Int)) : List Blk := rows.map fun r => .cells 0 (r.map (.int .i64))
def ovH (d : Den) (names : List (List UInt8)) (k : Nat) (rows : List (List Int)) : List Blk :=
  [.cells 0 d.cells, .cells 0 [.sl .nil 0 [], .sl .nil 0 [], .sl .nil 0 []], .cells 0 (names.map .str), .cells 0 (d.accept.map .bool),
    .cells 0 [.hs 2 0 0 names.length 1, .hs 3 0 0 d.accept.length 1, .hs 5 rows.length 0 rows.length 1], .cells rows.length (ovHs k rows.length)] ++ ovBlks rows
theorem ovH_length (d names k rows) : (ovH d names k rows).length = 6 + rows.length := by simp [ovH, ovBlks]; omega

theorem track_over (kn kp : SK) (d : Den) (names : List (List UInt8)) (pl : List Nat) (q : Nat) (hq : 2 ^ names.length = q) (hd : DenOk d) (hn : names.length ≤ 6) (hp : pl.length ≤ 6) (hpl : ∀ p ∈ pl, p < 6) (hrow : ∀ r ∈ d.next, r.2.length = 2 ^ pl.length) :
    ACall Try.prog 105 [aDen d, aSs kn names, aIs kp (pl.map fun p : Nat => (p : Int))] [] fun o H' => o = .ret (.agg [.hs 2 0 0 names.length 1, .hs 3 0 0 d.accept.length 1, .hs 5 d.next.length 0 d.next.length 1]) ∧
      ∃ x, H' = [.cells 0 d.cells, x, .cells 0 (names.map .str), .cells 0 (d.accept.map .bool), .cells 0 [.hs 2 0 0 names.length 1, .hs 3 0 0 d.accept.length 1, .hs 5 d.next.length 0 d.next.length 1], .cells d.next.length (ovHs q d.next.length)]
        ++ ovBlks (d.rows.map (ovRow names.length pl)) := by
  have h1 := hd.tracks
  have h2 := hd.accept
  have h3 := hd.next
  have hb : IntKind.wrap .i64 (1 * 2 ^ (min (names.length : Int).toNat (IntKind.bits .i64))) = (q : Int) := by rw [← hq]; exact shl_one (k := names.length) (by omega)
  have hpow : q ≤ 64 := by rw [← hq]; exact Nat.pow_le_pow_right (by omega) hn
  have hrl : d.rows.length = d.next.length := by simp [Den.rows]
  refine ACall.of_sw 58 Try.func105 rfl Try.ntmps105 (by kernel_rfl) (Nat.le_of_ble_eq_true (by kernel_rfl)) ?_; refine SW.of_vc ?_
  repeat first | refine opsStep ?_ | refine codeStep ?_ | refine drawStep ?_
  refine SW.drawn rfl (by kernel_rfl) ?_
  repeat first | refine opsStep ?_ | refine codeStep ?_ | refine drawStep ?_
  refine .inr ⟨_, _, _, (slices_Clone_S_new kn names (by omega)), ?_⟩
  repeat first | refine opsStep ?_ | refine codeStep ?_ | refine drawStep ?_
  refine .inr ⟨_, _, _, (slices_Clone_B_new d.ak d.accept (by omega)), ?_⟩
  repeat first | refine opsStep ?_ | refine codeStep ?_ | refine drawStep ?_
  refine ⟨by kernel_rfl, ?_⟩
  repeat first | refine opsStep ?_ | refine codeStep ?_ | refine drawStep ?_
  refine loopE_of (ι := {i : Nat // i ≤ d.next.length})
    (fun i => (fr [(1, aSs kn names), (2, aIs kp (pl.map fun p : Nat => (p : Int))), (6, .ref 1 0 0), (7, .ref 4 0 0), (21, aRs d.nk d.next), (22, .int .i64 d.next.length), (23, .int .i64 i.1)], ovH d names q ((d.rows.take i.1).map (ovRow names.length pl))))
    (fun i => d.next.length - i.1) ⟨0, by omega⟩ ?_ ?_
  · refine ((Ent.fr' (l := [(1, aSs kn names), (2, aIs kp (pl.map fun p : Nat => (p : Int))), (6, .ref 1 0 0), (7, .ref 4 0 0), (21, aRs d.nk d.next), (22, .int .i64 d.next.length), (23, .int .i64 (0 : Nat))])
      (H' := [.cells 0 d.cells, .cells 0 [.sl .nil 0 [], .sl .nil 0 [], .sl .nil 0 []], .cells 0 (names.map .str), .cells 0 (d.accept.map .bool), .cells 0 [.hs 2 0 0 names.length 1, .hs 3 0 0 d.accept.length 1, .sl .nil 0 []]]) ⟨(by kernel_rfl), (by kernel_rfl), (by kernel_rfl), (by kernel_rfl), (by kernel_rfl), (by kernel_rfl), (by kernel_rfl), trivial⟩ (by kernel_rfl)).trans (Ent.nilCell 4 2 1 rfl rfl)).to rfl
  rintro ⟨i, hi⟩
  repeat first | refine opsStep ?_ | refine codeStep ?_ | refine drawStep ?_
  refine decB_dec (fun h => ?_) (fun h => ?_)
  · have hia : i < d.next.length := by have := h; simp at this; omega
    have hlr : i < d.rows.length := by omega
    have ga : d.rows[i] = (d.next[i]).2 := by simp [Den.rows]
    have hri := hrow _ (List.getElem_mem hia)
    obtain ⟨rs, hrs⟩ : ∃ rs, (d.rows.take i).map (ovRow names.length pl) = rs := ⟨_, rfl⟩
    have hrsl : rs.length = i := by rw [← hrs]; simp; omega
    have hnext : (d.rows.take (i + 1)).map (ovRow names.length pl) = rs ++ [ovRow names.length pl (d.next[i]).2] := by
      rw [List.take_succ_eq_append_getElem hlr, List.map_append, hrs, ga]; rfl
    repeat first | refine opsStep ?_ | refine codeStep ?_ | refine drawStep ?_
    refine guardE_of (by simp; omega) ?_
    repeat first | refine opsStep ?_ | refine codeStep ?_ | refine drawStep ?_
    refine optE_of (c := aIs (d.next[i]).1 (d.next[i]).2) (by simp [Value.cells, hia]) ?_
    repeat first | refine opsStep ?_ | refine codeStep ?_ | refine drawStep ?_
    refine guardE_of (by rw [hb]; exact ⟨by omega, by omega, by show (8 : Int) * (q : Int) ≤ 281474976710656; omega, by omega⟩) ?_
    repeat first | refine opsStep ?_ | refine codeStep ?_ | refine drawStep ?_
    refine loopE_of (ι := {a : Nat // a ≤ q})
      (fun a => (fr [(1, aSs kn names), (2, aIs kp (pl.map fun p : Nat => (p : Int))), (6, .ref 1 0 0), (7, .ref 4 0 0), (9, aIs (d.next[i]).1 (d.next[i]).2), (10, .hs (ovH d names q rs).length 0 0 q 1),
        (21, aRs d.nk d.next), (22, .int .i64 d.next.length), (23, .int .i64 i), (32, .int .i64 q), (33, .int .i64 a.1)],
        ovH d names q rs ++ [.cells 0 ((partL (fun a => (d.next[i]).2.getD (gatN a pl) 0) q a.1).map (.int .i64))]))
      (fun a => q - a.1) ⟨0, by omega⟩ (Ent.fr' ⟨(by kernel_rfl), (by kernel_rfl), (by kernel_rfl), (by kernel_rfl), (by kernel_rfl), ?_, (by kernel_rfl), (by kernel_rfl), (by kernel_rfl), ?_, (by kernel_rfl), trivial⟩ ?_) ?_
    · refine Eq.trans (b := .hs (ovH d names q ((d.rows.take i).map (ovRow names.length pl))).length 0 0 (IntKind.wrap .i64 (1 * 2 ^ (min (names.length : Int).toNat (IntKind.bits .i64)))).toNat 1) (by kernel_rfl) ?_
      rw [hb, hrs]; rfl
    · refine Eq.trans (b := .int .i64 ((IntKind.wrap .i64 (1 * 2 ^ (min (names.length : Int).toNat (IntKind.bits .i64)))).toNat : Nat)) (by kernel_rfl) ?_
      rw [hb]; rfl
    · refine Eq.trans (b := ovH d names q ((d.rows.take i).map (ovRow names.length pl)) ++ [.cells 0 (reps [.int .i64 0] (IntKind.wrap .i64 (1 * 2 ^ (min (names.length : Int).toNat (IntKind.bits .i64)))).toNat)]) (by kernel_rfl) ?_
      rw [hb, hrs, reps_one, partL_zero]; simp
    rintro ⟨a, ha⟩
    repeat first | refine opsStep ?_ | refine codeStep ?_ | refine drawStep ?_
    refine decB_dec (fun g => ?_) (fun g => ?_)
    · have haq : a < q := by have := g; simp at this; omega
      repeat first | refine opsStep ?_ | refine codeStep ?_ | refine drawStep ?_
      refine callP (bits_Gather kp a pl (by omega) hp hpl) ?_
      have hgl : gatN a pl < (d.next[i]).2.length := by rw [hri]; exact gatN_lt a pl
      repeat first | refine opsStep ?_ | refine codeStep ?_ | refine drawStep ?_
      refine guardE_of (by simp; omega) ?_
      repeat first | refine opsStep ?_ | refine codeStep ?_ | refine drawStep ?_
      refine optE_of (c := .int .i64 ((d.next[i]).2[gatN a pl])) (by simp [Value.cells, hgl]) ?_
      repeat first | refine opsStep ?_ | refine codeStep ?_ | refine drawStep ?_
      refine guardE_of (by simp; omega) ?_
      repeat first | refine opsStep ?_ | refine codeStep ?_ | refine drawStep ?_
      refine optE_of (get_last _ _) ?_
      refine guardE_of rfl ?_
      refine guardE_of ⟨rfl, by decide, by show 0 + a * 1 + 1 ≤ ((partL (fun a => (d.next[i]).2.getD (gatN a pl) 0) q a).map (AV.int .i64)).length; simp [partL_length]; omega⟩ ?_
      repeat first | refine opsStep ?_ | refine codeStep ?_ | refine drawStep ?_
      refine ⟨⟨a + 1, by omega⟩, (by show q - (a + 1) < q - a; omega), Ent.fr' ⟨(by kernel_rfl), (by kernel_rfl), (by kernel_rfl), (by kernel_rfl), (by kernel_rfl), (by kernel_rfl), (by kernel_rfl), (by kernel_rfl), (by kernel_rfl), (by kernel_rfl), inc_slot (i := a) (by omega), trivial⟩ ?_⟩
      refine Eq.trans (b := (ovH d names q rs ++ [Blk.cells 0 ((partL (fun a => (d.next[i]).2.getD (gatN a pl) 0) q a).map (.int .i64))]).set (ovH d names q rs).length (Blk.cells 0 (over ((partL (fun a => (d.next[i]).2.getD (gatN a pl) 0) q a).map (.int .i64)) (0 + a * 1) [.int .i64 ((d.next[i]).2[gatN a pl])]))) (by kernel_rfl) ?_
      show _ = ovH d names q rs ++ [Blk.cells 0 ((partL (fun a => (d.next[i]).2.getD (gatN a pl) 0) q (a + 1)).map (.int .i64))]
      rw [set_last, Nat.zero_add, Nat.mul_one, over_one (by simp [partL_length]; omega), ← partL_step, List.map_set]
      simp [List.getD_eq_getElem?_getD, hgl]
    · have haq : a = q := by have := g; simp at this; omega
      subst haq
      repeat first | refine opsStep ?_ | refine codeStep ?_ | refine drawStep ?_
      refine guardE_of ⟨rfl, by simp [ovHs]⟩ ?_
      refine guardE_of rfl ?_
      refine optE_of (get_last _ _) ?_
      refine guardE_of ⟨rfl, Nat.le_refl _⟩ ?_
      refine guardE_of ⟨by omega, by show (rs.length + 1) * 24 ≤ 140737488355328; omega⟩ ?_
      repeat first | refine opsStep ?_ | refine codeStep ?_ | refine drawStep ?_
      refine ⟨⟨i + 1, by omega⟩, (by show d.next.length - (i + 1) < d.next.length - i; omega), Ent.to (Ent.frD (X := [.cells 0 [.hs (ovH d names a rs).length 0 0 a 1]])
        (H' := [.cells 0 d.cells, .cells 0 [.sl .nil 0 [], .sl .nil 0 [], .sl .nil 0 []], .cells 0 (names.map .str), .cells 0 (d.accept.map .bool), .cells 0 [.hs 2 0 0 names.length 1, .hs 3 0 0 d.accept.length 1, .hs 5 (rs.length + 1) 0 (rs.length + 1) 1],
          .cells (rs.length + 1) (((ovHs a rs.length).drop 0).take (rs.length * 1) ++ [.hs (ovH d names a rs).length 0 0 a 1])] ++ (ovBlks rs ++ [.cells 0 ((partL (fun a => (d.next[i]).2.getD (gatN a pl) 0) a a).map (.int .i64))]))
        ⟨(by kernel_rfl), (by kernel_rfl), (by kernel_rfl), (by kernel_rfl), (by kernel_rfl), (by kernel_rfl), inc_slot (i := i) (by omega), trivial⟩ (by kernel_rfl) (Nat.zero_le _) ?_ ?_) ?_⟩
      · simp [frBel, AV.bel, aSs_bel, aIs_bel, aRs_bel]
      · simp only [ovBlks, blksBel_append, blksBel, blksBel_map, Blk.bel, bels_append, bels, bels_map, AV.bel, aSs_bel, cells_bel, ovH_length]
        refine ⟨⟨trivial, ⟨trivial, trivial, trivial, trivial⟩, ?_, ?_, ⟨?_, ?_, ?_, trivial⟩, ⟨bels_td ?_, ?_, trivial⟩, trivial⟩, ?_, ?_, trivial⟩
        all_goals first | (refine bels_map.2 fun j hj => ?_; have := List.mem_range.1 hj; simp only [AV.bel]; simp; omega) | (simp; done) | (simp; omega)
      · show _ = ovH d names a ((d.rows.take (i + 1)).map (ovRow names.length pl))
        rw [hnext, td_all (by simp [ovHs]), partL_full, ovH_length]
        have e1 : ovHs a rs.length ++ [.hs (6 + rs.length) 0 0 a 1] = ovHs a (rs.length + 1) := by simp [ovHs, List.range_succ]
        have e2 : ovBlks rs ++ [Blk.cells 0 (((List.range a).map fun a => (d.next[i]).2.getD (gatN a pl) 0).map (.int .i64))] = ovBlks (rs ++ [ovRow names.length pl (d.next[i]).2]) := by simp [ovBlks, ovRow, hq]
        rw [e1, e2]
        simp [ovH]
  · repeat first | refine opsStep ?_ | refine codeStep ?_ | refine drawStep ?_
    have : i = d.next.length := by have := h; simp at this; omega
    subst this
    refine finR (l := [(6, .ref 1 0 0)]) (H₁ := [.cells 0 d.cells, .cells 0 [.hs 2 0 0 names.length 1, .hs 3 0 0 d.accept.length 1, .hs 5 ((d.rows.take d.next.length).map (ovRow names.length pl)).length 0 ((d.rows.take d.next.length).map (ovRow names.length pl)).length 1], .cells 0 (names.map .str), .cells 0 (d.accept.map .bool),
      .cells 0 [.hs 2 0 0 names.length 1, .hs 3 0 0 d.accept.length 1, .hs 5 ((d.rows.take d.next.length).map (ovRow names.length pl)).length 0 ((d.rows.take d.next.length).map (ovRow names.length pl)).length 1], .cells ((d.rows.take d.next.length).map (ovRow names.length pl)).length (ovHs q ((d.rows.take d.next.length).map (ovRow names.length pl)).length)] ++ ovBlks ((d.rows.take d.next.length).map (ovRow names.length pl)))
      (v := .agg [.hs 2 0 0 names.length 1, .hs 3 0 0 d.accept.length 1, .hs 5 ((d.rows.take d.next.length).map (ovRow names.length pl)).length 0 ((d.rows.take d.next.length).map (ovRow names.length pl)).length 1]) ⟨(by kernel_rfl), trivial⟩ (by kernel_rfl) (Ent.refl _ _ _) (by kernel_rfl) ?_
    have hl : ((d.rows.take d.next.length).map (ovRow names.length pl)).length = d.next.length := by simp [hrl]
    rw [hl, List.take_of_length_le (by omega)]
    exact ⟨rfl, _, rfl⟩

end Tab

/- A machine over more tracks. -/
namespace Tab
open Go Go.Proofs
set_option maxRecDepth 10000
set_option linter.unusedVariables false
set_option linter.unusedSimpArgs false
set_option linter.unusedSectionVars false

def den0 : Den := ⟨.nil, [], .nil, [], .nil, []⟩
def inAll (ts names : List (List UInt8)) : Bool := ts.all fun s => decide (s ∈ names)
def placesOf (ts names : List (List UInt8)) : List Nat := ts.map (names.idxOf ·)
@[irreducible] def widenE (d : Den) (names : List (List UInt8)) : Int := if (rightS d && risesS names) = true then (if names.length ≤ 6 then (if inAll d.tracks names = true then 0 else 4) else 150) else 3
theorem widenE_shape {d names} (h : rightS d = false ∨ risesS names = false) : widenE d names = 3 := by
  rw [widenE, if_neg]; rcases h with h | h <;> simp [h]
theorem widenE_wide {d names} (h1 : rightS d = true) (h2 : risesS names = true) (h : ¬ names.length ≤ 6) : widenE d names = 150 := by
  rw [widenE, h1, h2, if_neg h]; rfl
theorem widenE_none {d names} (h1 : rightS d = true) (h2 : risesS names = true) (h : names.length ≤ 6) (h3 : inAll d.tracks names = false) : widenE d names = 4 := by
  rw [widenE, h1, h2, if_pos h, h3]; rfl
theorem widenE_ok {d names} (h1 : rightS d = true) (h2 : risesS names = true) (h : names.length ≤ 6) (h3 : inAll d.tracks names = true) : widenE d names = 0 := by
  rw [widenE, h1, h2, if_pos h, h3]; rfl

theorem widenE_of_ok {d names} (h : widenE d names = 0) : rightS d = true ∧ risesS names = true ∧ names.length ≤ 6 ∧ inAll d.tracks names = true := by
  cases h1 : rightS d with
  | false => rw [widenE_shape (.inl h1)] at h; omega
  | true =>
    cases h2 : risesS names with
    | false => rw [widenE_shape (.inr h2)] at h; omega
    | true =>
      by_cases h3 : names.length ≤ 6
      · cases h4 : inAll d.tracks names with
        | false => rw [widenE_none h1 h2 h3 h4] at h; omega
        | true => exact ⟨rfl, rfl, h3, rfl⟩
      · rw [widenE_wide h1 h2 h3] at h; omega

theorem rightS_parts {d : Den} (h : rightS d = true) : tracksS d.tracks d.accept.length = true ∧ d.next.length = d.accept.length ∧ ∀ r ∈ d.next, rowOk d.tracks.length d.accept.length r.2 = true := by
  simp only [rightS, Bool.and_eq_true, decide_eq_true_eq, List.all_eq_true] at h
  exact ⟨h.1.1, h.1.2, h.2⟩
theorem rowOk_parts {k n : Nat} {r : List Int} (h : rowOk k n r = true) : r.length = 2 ^ k ∧ ∀ x ∈ r, 0 ≤ x ∧ x < n := by
  simp only [rowOk, Bool.and_eq_true, decide_eq_true_eq, List.all_eq_true] at h
  exact h
theorem rows_len {d : Den} (h : rightS d = true) : ∀ r ∈ d.rows, r.length = 2 ^ d.tracks.length := by
  intro r hr
  obtain ⟨x, hx, rfl⟩ := List.mem_map.1 hr
  exact (rowOk_parts ((rightS_parts h).2.2 x hx)).1

def wdHeap (d : Den) (names : List (List UInt8)) (b0 b1 b2 b3 b4 b7 : Blk) : List Blk :=
  [b0, b1, b2, b3, b4, .cells 0 (names.map .str), .cells 0 (d.accept.map .bool), b7, .cells d.next.length ((List.range d.next.length).map fun j => .hs (9 + j) 0 0 (2 ^ names.length) 1)] ++ ovBlks (d.rows.map (ovRow names.length (placesOf d.tracks names)))
def wdRes (d : Den) (names : List (List UInt8)) : AV := .agg [.hs 5 0 0 names.length 1, .hs 6 0 0 d.accept.length 1, .hs 8 d.next.length 0 d.next.length 1]

theorem ovBlks_sh (k : Nat) (rs : List (List Int)) : (ovBlks rs).map (Blk.sh k) = ovBlks rs := by
  rw [ovBlks, List.map_map]
  refine List.map_congr_left fun r _ => ?_
  simp only [Function.comp, Blk.sh]
  rw [closeds_sh]
  exact closeds_iff.2 fun a ha => by obtain ⟨x, _, rfl⟩ := List.mem_map.1 ha; simp only [AV.closed]
theorem ovHs_sh (k n i : Nat) : shs k (ovHs n i) = (List.range i).map fun j => .hs (6 + j + k) 0 0 n 1 := by
  rw [shs_map, ovHs, List.map_map]
  rfl
theorem strs_sh (k : Nat) (l : List (List UInt8)) : shs k (l.map .str) = l.map .str := closeds_sh _ (closeds_iff.2 fun a ha => by obtain ⟨x, _, rfl⟩ := List.mem_map.1 ha; simp only [AV.closed])
theorem bools_sh (k : Nat) (l : List Bool) : shs k (l.map .bool) = l.map .bool := closeds_sh _ (closeds_iff.2 fun a ha => by obtain ⟨x, _, rfl⟩ := List.mem_map.1 ha; simp only [AV.closed])

theorem track_Widen (kn : SK) (d : Den) (names : List (List UInt8)) (hd : DenOk d) (hn : names.length * 16 ≤ 140737488351232) (hns : ∀ s ∈ names, s.length ≤ 140737488351232) :
    ACall Try.prog 67 [aDen d, aSs kn names] [] fun o H' => (widenE d names ≠ 0 ∧ o = .ret (.tup [aDen den0, .int .i64 (widenE d names)])) ∨
      (widenE d names = 0 ∧ o = .ret (.tup [wdRes d names, .int .i64 0]) ∧ ∃ b0 b1 b2 b3 b4 b7, H' = wdHeap d names b0 b1 b2 b3 b4 b7) := by
  have h1 := hd.tracks
  have h2 := hd.accept
  have h3 := hd.next
  refine ACall.of_sw 47 Try.func67 rfl Try.ntmps67 (by kernel_rfl) (Nat.le_of_ble_eq_true (by kernel_rfl)) ?_; refine SW.of_vc ?_
  repeat first | refine opsStep ?_ | refine codeStep ?_ | refine drawStep ?_
  refine callP (table_Right d hd) ?_
  repeat first | refine opsStep ?_ | refine codeStep ?_ | refine drawStep ?_
  refine decB_dec (fun hr => ?_) (fun hr => ?_)
  · have hr' : rightS d = false := by cases h : rightS d with | true => exact absurd (rightE_ok h) hr | false => rfl
    repeat first | refine opsStep ?_ | refine codeStep ?_ | refine drawStep ?_
    refine finR (l := [(4, .ref 1 0 0), (5, .int .i64 3)]) (H₁ := [.cells 0 d.cells, .cells 0 den0.cells]) (v := .tup [aDen den0, .int .i64 3]) ⟨(by kernel_rfl), (by kernel_rfl), trivial⟩ (by kernel_rfl) (Ent.refl _ _ _) (by kernel_rfl) ?_
    refine .inl ?_
    rw [widenE_shape (.inl hr')]
    exact ⟨by decide, rfl⟩
  · have hr' : rightS d = true := by cases h : rightS d with | true => rfl | false => exact absurd (fun e => by rw [rightE_bad h] at e; omega) hr
    repeat first | refine opsStep ?_ | refine codeStep ?_ | refine drawStep ?_
    refine callP (glyph_Rises kn names (by omega) (fun s hs => by have := hns s hs; omega)) ?_
    repeat first | refine opsStep ?_ | refine codeStep ?_ | refine drawStep ?_
    refine decB_split (fun h => ?_) (fun h => ?_)
    · repeat first | refine opsStep ?_ | refine codeStep ?_ | refine drawStep ?_
      refine finR (l := [(4, .ref 1 0 0), (5, .int .i64 3)]) (H₁ := [.cells 0 d.cells, .cells 0 den0.cells]) (v := .tup [aDen den0, .int .i64 3]) ⟨(by kernel_rfl), (by kernel_rfl), trivial⟩ (by kernel_rfl) (Ent.refl _ _ _) (by kernel_rfl) ?_
      refine .inl ?_
      rw [widenE_shape (.inr (by simpa using h))]
      exact ⟨by decide, rfl⟩
    · have hs' : risesS names = true := by simpa using h
      repeat first | refine opsStep ?_ | refine codeStep ?_ | refine drawStep ?_
      refine decB_dec (fun hl => ?_) (fun hl => ?_)
      · repeat first | refine opsStep ?_ | refine codeStep ?_ | refine drawStep ?_
        refine finR (l := [(4, .ref 1 0 0), (5, .int .i64 150)]) (H₁ := [.cells 0 d.cells, .cells 0 den0.cells]) (v := .tup [aDen den0, .int .i64 150]) ⟨(by kernel_rfl), (by kernel_rfl), trivial⟩ (by kernel_rfl) (Ent.refl _ _ _) (by kernel_rfl) ?_
        refine .inl ?_
        rw [widenE_wide hr' hs' (by omega)]
        exact ⟨by decide, rfl⟩
      · have hl' : names.length ≤ 6 := by omega
        obtain ⟨ht, hnn, hrows⟩ := rightS_parts hr'
        have hk := tracksS_le ht
        repeat first | refine opsStep ?_ | refine codeStep ?_ | refine drawStep ?_
        refine loopE_of (ι := {i : Nat // i ≤ d.tracks.length ∧ inAll (d.tracks.take i) names = true})
          (fun i => (fr [(1, aSs kn names), (2, .ref 0 0 0), (4, .ref 1 0 0), (6, .hs 2 i.1 0 i.1 1), (26, aSs d.tk d.tracks), (27, .int .i64 d.tracks.length), (28, .int .i64 i.1)],
            [.cells 0 d.cells, .cells 0 den0.cells, .cells i.1 (((d.tracks.take i.1).map fun s => ((names.idxOf s : Nat) : Int)).map (.int .i64))]))
          (fun i => d.tracks.length - i.1) ⟨0, by omega, by simp [inAll]⟩ ?_ ?_
        · exact ((Ent.fr' (l := [(1, aSs kn names), (2, .ref 0 0 0), (4, .ref 1 0 0), (6, .sl .nil 0 []), (26, aSs d.tk d.tracks), (27, .int .i64 d.tracks.length), (28, .int .i64 (0 : Nat))])
            (H' := [.cells 0 d.cells, .cells 0 den0.cells]) ⟨(by kernel_rfl), (by kernel_rfl), (by kernel_rfl), (by kernel_rfl), (by kernel_rfl), (by kernel_rfl), (by kernel_rfl), trivial⟩ (by kernel_rfl)).trans (Ent.nil 6 1 rfl)).trans (Ent.fr' ⟨(by kernel_rfl), (by kernel_rfl), (by kernel_rfl), (by kernel_rfl), (by kernel_rfl), (by kernel_rfl), (by kernel_rfl), trivial⟩ (by kernel_rfl))
        rintro ⟨i, hi, hpre⟩
        repeat first | refine opsStep ?_ | refine codeStep ?_ | refine drawStep ?_
        refine decB_dec (fun h => ?_) (fun h => ?_)
        · have hia : i < d.tracks.length := by have := h; simp at this; omega
          repeat first | refine opsStep ?_ | refine codeStep ?_ | refine drawStep ?_
          refine guardE_of (by simp; omega) ?_
          repeat first | refine opsStep ?_ | refine codeStep ?_ | refine drawStep ?_
          refine optE_of (c := .str d.tracks[i]) (by simp [Value.cells, hia]) ?_
          repeat first | refine opsStep ?_ | refine codeStep ?_ | refine drawStep ?_
          refine callP (glyph_Index kn names d.tracks[i] (by omega)) ?_
          repeat first | refine opsStep ?_ | refine codeStep ?_ | refine drawStep ?_
          refine decB_dec (fun hx => ?_) (fun hx => ?_)
          · repeat first | refine opsStep ?_ | refine codeStep ?_ | refine drawStep ?_
            refine finR (l := [(4, .ref 1 0 0), (5, .int .i64 4)]) (H₁ := [.cells 0 d.cells, .cells 0 den0.cells, .cells i (((d.tracks.take i).map fun s => ((names.idxOf s : Nat) : Int)).map (.int .i64))]) (v := .tup [aDen den0, .int .i64 4]) ⟨(by kernel_rfl), (by kernel_rfl), trivial⟩ (by kernel_rfl) (Ent.refl _ _ _) (by kernel_rfl) ?_
            refine .inl ?_
            rw [widenE_none hr' hs' hl' (by
              rw [← Bool.not_eq_true, inAll, List.all_eq_true]
              intro k
              have := k _ (List.getElem_mem hia)
              have hm : d.tracks[i] ∈ names := by simpa using this
              rw [idxS, if_pos (List.idxOf_lt_length_of_mem hm)] at hx
              omega)]
            exact ⟨by decide, rfl⟩
          · have hm : d.tracks[i] ∈ names := by
              rw [idxS] at hx
              split at hx
              · rename_i e; exact List.idxOf_lt_length_iff.1 e
              · omega
            have hix : idxS names d.tracks[i] = (names.idxOf d.tracks[i] : Nat) := by rw [idxS, if_pos (List.idxOf_lt_length_of_mem hm)]
            repeat first | refine opsStep ?_ | refine codeStep ?_ | refine drawStep ?_
            refine guardE_of ⟨rfl, by simp; omega⟩ ?_
            refine guardE_of rfl ?_
            refine guardE_of ⟨by omega, by show (i + 1) * 8 ≤ 140737488355328; omega⟩ ?_
            repeat first | refine opsStep ?_ | refine codeStep ?_ | refine drawStep ?_
            refine ⟨⟨i + 1, by omega, ?_⟩, (by show d.tracks.length - (i + 1) < d.tracks.length - i; omega), Ent.to (Ent.frD (X := [.cells 0 [.int .i64 (idxS names d.tracks[i])]])
              (H' := [.cells 0 d.cells, .cells 0 den0.cells, .cells (i + 1) (((((d.tracks.take i).map fun s => ((names.idxOf s : Nat) : Int)).map (AV.int .i64)).drop 0).take (i * 1) ++ [.int .i64 (idxS names d.tracks[i])])])
              ⟨(by kernel_rfl), (by kernel_rfl), (by kernel_rfl), (by kernel_rfl), (by kernel_rfl), (by kernel_rfl), inc_slot (i := i) (by omega), trivial⟩ (by kernel_rfl) (Nat.zero_le _) (by first | (simp [frBel, blksBel, Blk.bel, AV.bel, bels, bels_append, bels_map, aSs_bel, aIs_bel, aBs_bel, aRs_bel, aDen_bel, cells_bel]; done) | (simp only [List.drop_zero, ← List.map_take, ← List.map_drop, List.map_map, frBel, blksBel, Blk.bel, AV.bel, bels, bels_append, bels_map, aSs_bel, aIs_bel, aBs_bel, aRs_bel, aDen_bel, cells_bel]; simp [AV.bel, aSs_bel, aIs_bel, aBs_bel, aRs_bel, aDen_bel, cells_bel])) ?_) ?_⟩
            · rw [inAll, List.take_succ_eq_append_getElem hia, List.all_append, ← inAll, hpre]
              simp [hm]
            · exact ⟨cells_bel _ _, cells_bel _ _, (bels_append.2 ⟨bels_td (bels_map.2 fun _ _ => trivial), trivial, trivial⟩), trivial⟩
            · show _ = [Blk.cells 0 d.cells, .cells 0 den0.cells, .cells (i + 1) (((d.tracks.take (i + 1)).map fun s => ((names.idxOf s : Nat) : Int)).map (.int .i64))]
              rw [td_all (by simp; omega), hix, List.take_succ_eq_append_getElem hia, List.map_append, List.map_append]
              rfl
        · have : i = d.tracks.length := by have := h; simp at this; omega
          subst this
          rw [List.take_length] at hpre
          obtain ⟨pl, hpl⟩ : ∃ pl, placesOf d.tracks names = pl := ⟨_, rfl⟩
          have hplm : ((d.tracks.take d.tracks.length).map fun s => ((names.idxOf s : Nat) : Int)) = pl.map fun p : Nat => (p : Int) := by rw [← hpl, List.take_length]; simp [placesOf]
          have hpll : pl.length = d.tracks.length := by rw [← hpl]; simp [placesOf]
          refine VCode.ent (s' := fr [(1, aSs kn names), (2, .ref 0 0 0), (4, .ref 1 0 0), (6, aIs .any (pl.map fun p : Nat => (p : Int)))]) (H' := [.cells 0 d.cells, .cells 0 den0.cells, .fro d.tracks.length ((pl.map fun p : Nat => (p : Int)).map (.int .i64))]) ?_ ?_
          · refine (Ent.fr' (l := [(1, aSs kn names), (2, .ref 0 0 0), (4, .ref 1 0 0), (6, .hs 2 d.tracks.length 0 d.tracks.length 1)]) (H' := [.cells 0 d.cells, .cells 0 den0.cells, .cells d.tracks.length ((pl.map fun p : Nat => (p : Int)).map (.int .i64))]) ⟨(by kernel_rfl), (by kernel_rfl), (by kernel_rfl), (by kernel_rfl), trivial⟩ (by rw [← hplm]; kernel_rfl)).trans ?_
            refine (Ent.freeze (n := d.tracks.length) (g := d.tracks.length) (es := 1) (cs := (pl.map fun p : Nat => (p : Int)).map (.int .i64)) 6 (b := 2) rfl rfl (by simp [hpll])).trans (Ent.fr' (l := [(1, aSs kn names), (2, .ref 0 0 0), (4, .ref 1 0 0), (6, aIs .any (pl.map fun p : Nat => (p : Int)))]) ⟨(by kernel_rfl), (by kernel_rfl), (by kernel_rfl), Eq.trans (b := .sl .any d.tracks.length ((pl.map fun p : Nat => (p : Int)).map (.int .i64))) (by kernel_rfl) (by simp [aIs, hpll]), trivial⟩ (by kernel_rfl))
          repeat first | refine opsStep ?_ | refine codeStep ?_ | refine drawStep ?_
          refine callS (show closeds [aDen d, aSs kn names, aIs .any (pl.map fun p : Nat => (p : Int))] from by simp [closeds, aDen_closed, aSs_closed, aIs_closed]) (track_over kn .any d names pl (2 ^ names.length) rfl hd hl' (by omega) (fun p hp => ?_) (fun r hr => by rw [hpll]; exact (rowOk_parts (hrows r hr)).1)) (fun X h => by simp at h) ?_
          · rw [← hpl] at hp
            obtain ⟨s, hs, rfl⟩ := List.mem_map.1 hp
            have : s ∈ names := by have := List.all_eq_true.1 hpre s hs; simpa using this
            have := List.idxOf_lt_length_of_mem this
            omega
          rintro v X ⟨hv, x, hX⟩
          have hv := Out.ret.inj hv
          subst hv
          subst hX
          repeat first | refine opsStep ?_ | refine codeStep ?_ | refine drawStep ?_
          refine finR (l := [(4, .ref 1 0 0), (5, .int .i64 0)]) (H₁ := [.cells 0 d.cells, .cells 0 [.hs 5 0 0 names.length 1, .hs 6 0 0 d.accept.length 1, .hs 8 d.next.length 0 d.next.length 1], .fro d.tracks.length ((pl.map fun p : Nat => (p : Int)).map (.int .i64))] ++
            ([.cells 0 d.cells, x, .cells 0 (names.map .str), .cells 0 (d.accept.map .bool), .cells 0 [.hs 2 0 0 names.length 1, .hs 3 0 0 d.accept.length 1, .hs 5 d.next.length 0 d.next.length 1], .cells d.next.length (ovHs (2 ^ names.length) d.next.length)]
        ++ ovBlks (d.rows.map (ovRow names.length pl))).map (Blk.sh 3)) (v := .tup [wdRes d names, .int .i64 0]) ⟨(by kernel_rfl), (by kernel_rfl), trivial⟩ (by kernel_rfl) (Ent.refl _ _ _) (by kernel_rfl) ?_
          refine .inr ⟨widenE_ok hr' hs' hl' hpre, rfl, .cells 0 d.cells, .cells 0 [.hs 5 0 0 names.length 1, .hs 6 0 0 d.accept.length 1, .hs 8 d.next.length 0 d.next.length 1], .fro d.tracks.length ((pl.map fun p : Nat => (p : Int)).map (.int .i64)), .cells 0 (shs 3 d.cells), x.sh 3, .cells 0 [.hs 5 0 0 names.length 1, .hs 6 0 0 d.accept.length 1, .hs 8 d.next.length 0 d.next.length 1], ?_⟩
          rw [wdHeap, hpl, List.map_append, ovBlks_sh]
          simp only [List.map_cons, List.map_nil, Blk.sh, strs_sh, bools_sh, ovHs_sh]
          simp only [show ∀ j, 6 + j + 3 = 9 + j from fun j => by omega]
          rfl

end Tab

/- A machine's run over a word: plain, and the reference's. -/
namespace Tab
open Go Go.Proofs
set_option maxRecDepth 10000
set_option linter.unusedVariables false
set_option linter.unusedSimpArgs false
set_option linter.unusedSectionVars false

def stepN (rows : List (List Int)) (q a : Nat) : Nat := ((rows.getD q []).getD a 0).toNat
def runN (rows : List (List Int)) (q : Nat) (w : List Nat) : Nat := w.foldl (stepN rows) q

theorem stepN_ok {d : Den} (hr : rightS d = true) {q a : Nat} (hq : q < d.accept.length) (ha : a < 2 ^ d.tracks.length) :
    ∃ (h1 : q < d.next.length) (h2 : a < (d.next[q]).2.length), (d.next[q]).2[a] = (stepN d.rows q a : Int) ∧ stepN d.rows q a < d.accept.length := by
  obtain ⟨_, hn, hrows⟩ := rightS_parts hr
  have h1 : q < d.next.length := by omega
  obtain ⟨l1, l2⟩ := rowOk_parts (hrows _ (List.getElem_mem h1))
  have h2 : a < (d.next[q]).2.length := by rw [l1]; exact ha
  have h3 := l2 _ (List.getElem_mem h2)
  have e : stepN d.rows q a = ((d.next[q]).2[a]).toNat := by
    simp [stepN, Den.rows, List.getD_eq_getElem?_getD, h1, h2]
  refine ⟨h1, h2, ?_, ?_⟩
  · rw [e]; omega
  · rw [e]; omega
theorem runN_ok {d : Den} (hr : rightS d = true) : ∀ (w : List Nat) {q : Nat}, q < d.accept.length → (∀ a ∈ w, a < 2 ^ d.tracks.length) → runN d.rows q w < d.accept.length
  | [], _, hq, _ => hq
  | a :: w, q, hq, h => by
    obtain ⟨_, _, _, h3⟩ := stepN_ok hr hq (h a (by simp))
    exact runN_ok hr w h3 fun x hx => h x (by simp [hx])

theorem r12_Run (k : SK) (d : Den) (hd : DenOk d) (hr : rightS d = true) (q : Nat) (hq : q < d.accept.length) (w : List Nat) (hwl : w.length < 2^60) (hw : ∀ a ∈ w, a < 2 ^ d.tracks.length) :
    Pure Try.prog 70 [aDen d, .int .i64 q, aIs k (w.map fun a : Nat => (a : Int))] (.int .i64 (runN d.rows q w : Nat)) := by
  have h3 := hd.next
  refine Pure.of_sw 26 Try.func70 rfl Try.ntmps70 (by kernel_rfl) (Nat.le_of_ble_eq_true (by kernel_rfl)) (by simp [closeds, AV.closed, aSs_closed, aIs_closed, aBs_closed, aRs_closed, aDen_closed]) (by simp [AV.closed, closeds, aSs_closed, aIs_closed, aBs_closed, aRs_closed, aDen_closed]) ?_; refine SW.of_vc ?_
  repeat first | refine opsStep ?_ | refine codeStep ?_ | refine drawStep ?_
  refine loopE_of (ι := {i : Nat // i ≤ w.length})
    (fun i => (fr [(1, .int .i64 (runN d.rows q (w.take i.1) : Nat)), (2, aIs k (w.map fun a : Nat => (a : Int))), (3, .ref 0 0 0), (7, .int .i64 i.1)], [.cells 0 d.cells]))
    (fun i => w.length - i.1) ⟨0, by omega⟩ (Ent.fr' ⟨(by kernel_rfl), (by kernel_rfl), (by kernel_rfl), (by kernel_rfl), trivial⟩ (by kernel_rfl)) ?_
  rintro ⟨i, hi⟩
  repeat first | refine opsStep ?_ | refine codeStep ?_ | refine drawStep ?_
  refine decB_dec (fun h => ?_) (fun h => ?_)
  · have hia : i < w.length := by have := h; simp at this; omega
    have hqi := runN_ok hr (w.take i) hq fun a ha => hw a (List.mem_of_mem_take ha)
    have hai := hw _ (List.getElem_mem hia)
    obtain ⟨g1, g2, g3, g4⟩ := stepN_ok hr hqi hai
    have hnx : runN d.rows q (w.take (i + 1)) = stepN d.rows (runN d.rows q (w.take i)) w[i] := by
      rw [List.take_succ_eq_append_getElem hia, runN, List.foldl_append]; rfl
    have hrow := hd.rows _ (List.getElem_mem g1)
    refine VCode.ent (Ent.fr' (l := [(1, .int .i64 (runN d.rows q (w.take i) : Nat)), (2, aIs k (w.map fun a : Nat => (a : Int))), (3, .ref 0 0 0), (7, .int .i64 i)]) (H' := [.cells 0 d.cells]) ⟨(by kernel_rfl), (by kernel_rfl), (by kernel_rfl), (by kernel_rfl), trivial⟩ (by kernel_rfl)) ?_
    generalize runN d.rows q (w.take i) = qi at *
    repeat first | refine opsStep ?_ | refine codeStep ?_ | refine drawStep ?_
    refine SW.drawn rfl (by kernel_rfl) ?_
    repeat first | refine opsStep ?_ | refine codeStep ?_ | refine drawStep ?_
    refine guardE_of (by simp; omega) ?_
    repeat first | refine opsStep ?_ | refine codeStep ?_ | refine drawStep ?_
    refine optE_of (c := aIs (d.next[qi]).1 (d.next[qi]).2) (by simp [Value.cells, g1]) ?_
    repeat first | refine opsStep ?_ | refine codeStep ?_ | refine drawStep ?_
    refine guardE_of (by simp; omega) ?_
    repeat first | refine opsStep ?_ | refine codeStep ?_ | refine drawStep ?_
    refine optE_of (c := .int .i64 (w[i] : Nat)) (by simp [Value.cells, hia]) ?_
    repeat first | refine opsStep ?_ | refine codeStep ?_ | refine drawStep ?_
    refine guardE_of (by simp; omega) ?_
    repeat first | refine opsStep ?_ | refine codeStep ?_ | refine drawStep ?_
    refine optE_of (c := .int .i64 (stepN d.rows qi w[i] : Nat)) (by simp [Value.cells, g2, g3]) ?_
    repeat first | refine opsStep ?_ | refine codeStep ?_ | refine drawStep ?_
    refine ⟨by kernel_rfl, ?_⟩
    repeat first | refine opsStep ?_ | refine codeStep ?_ | refine drawStep ?_
    refine ⟨⟨i + 1, by omega⟩, (by show w.length - (i + 1) < w.length - i; omega), Ent.fr' ⟨?_, (by kernel_rfl), (by kernel_rfl), inc_slot (i := i) (by omega), trivial⟩ (by kernel_rfl)⟩
    show AV.int .i64 (stepN d.rows qi w[i] : Nat) = AV.int .i64 (runN d.rows q (w.take (i + 1)) : Nat)
    rw [hnx]
  · repeat first | refine opsStep ?_ | refine codeStep ?_ | refine drawStep ?_
    have : i = w.length := by have := h; simp at this; omega
    subst this
    have hf : w.take w.length = w := List.take_length
    exact finV (v' := .int .i64 (runN d.rows q (w.take w.length) : Nat)) (by kernel_rfl) (by rw [hf])

def takesB (d : Den) (w : List Nat) : Bool := d.accept.getD (runN d.rows 0 w) false
theorem right_pos {d : Den} (hr : rightS d = true) : 0 < d.accept.length := by
  obtain ⟨h, _, _⟩ := rightS_parts hr
  simp only [tracksS, Bool.and_eq_true, decide_eq_true_eq] at h
  omega
theorem r12_Takes (k : SK) (d : Den) (hd : DenOk d) (hr : rightS d = true) (w : List Nat) (hwl : w.length < 2^60) (hw : ∀ a ∈ w, a < 2 ^ d.tracks.length) :
    Pure Try.prog 29 [aDen d, aIs k (w.map fun a : Nat => (a : Int))] (.bool (takesB d w)) := by
  have h2 := hd.accept
  have hp := right_pos hr
  have hrun := r12_Run k d hd hr 0 hp w hwl hw
  have hok := runN_ok hr w hp hw
  have ht : d.accept[runN d.rows 0 w]? = some (takesB d w) := by simp [takesB, List.getD_eq_getElem?_getD, hok]
  generalize takesB d w = b at *
  generalize runN d.rows 0 w = r at *
  refine Pure.of_sw 12 Try.func29 rfl Try.ntmps29 (by kernel_rfl) (Nat.le_of_ble_eq_true (by kernel_rfl)) (by simp [closeds, AV.closed, aSs_closed, aIs_closed, aBs_closed, aRs_closed, aDen_closed]) (by simp [AV.closed, closeds, aSs_closed, aIs_closed, aBs_closed, aRs_closed, aDen_closed]) ?_; refine SW.of_vc ?_
  repeat first | refine opsStep ?_ | refine codeStep ?_ | refine drawStep ?_
  refine SW.drawn rfl (by kernel_rfl) ?_
  repeat first | refine opsStep ?_ | refine codeStep ?_ | refine drawStep ?_
  refine .inl ⟨_, _, [], hrun, RdsN_refl _, .inr rfl, none_need, ?_⟩
  repeat first | refine opsStep ?_ | refine codeStep ?_ | refine drawStep ?_
  refine guardE_of (by simp; omega) ?_
  repeat first | refine opsStep ?_ | refine codeStep ?_ | refine drawStep ?_
  refine optE_of (c := .bool b) (by simp [Value.cells, ht]) ?_
  repeat first | refine opsStep ?_ | refine codeStep ?_ | refine drawStep ?_
  refine ⟨by kernel_rfl, ?_⟩
  repeat first | refine opsStep ?_ | refine codeStep ?_ | refine drawStep ?_
  exact finB (b' := b) (by kernel_rfl) rfl

end Tab

/- Rows as cubes: plain. -/
namespace Tab
open Go
set_option maxRecDepth 10000
set_option linter.unusedVariables false
set_option linter.unusedSimpArgs false
set_option linter.unusedSectionVars false

abbrev Cb := Int × Int × Int
def cubR : Nat → List Int → Nat → Nat → List Cb
  | 0, r, m, b => [((m : Int), (b : Int), r.getD 0 0)]
  | k + 1, r, m, b => if r.take (2 ^ k) = r.drop (2 ^ k) then cubR k (r.take (2 ^ k)) m b else cubR k (r.take (2 ^ k)) (m + 2 ^ k) b ++ cubR k (r.drop (2 ^ k)) (m + 2 ^ k) (b + 2 ^ k)
theorem cubR_len : ∀ (k : Nat) (r : List Int) (m b : Nat), (cubR k r m b).length ≤ 2 ^ k ∧ 1 ≤ (cubR k r m b).length
  | 0, r, m, b => by simp [cubR]
  | k + 1, r, m, b => by
    rw [cubR]
    have hp : 2 ^ (k + 1) = 2 ^ k + 2 ^ k := by rw [Nat.pow_succ]; omega
    split
    · obtain ⟨h1, h2⟩ := cubR_len k (r.take (2 ^ k)) m b
      omega
    · obtain ⟨h1, h2⟩ := cubR_len k (r.take (2 ^ k)) (m + 2 ^ k) b
      obtain ⟨h3, h4⟩ := cubR_len k (r.drop (2 ^ k)) (m + 2 ^ k) (b + 2 ^ k)
      rw [List.length_append]
      omega

def andI (a b : Int) : Int := IntKind.wrap .i64 ((BitVec.ofInt 64 a &&& BitVec.ofInt 64 b).toNat : Nat)
def orI (a b : Int) : Int := IntKind.wrap .i64 ((BitVec.ofInt 64 a ||| BitVec.ofInt 64 b).toNat : Nat)
theorem orI_nat {a b : Nat} (ha : a < 2 ^ 62) (hb : b < 2 ^ 62) : orI a b = ((a ||| b : Nat) : Int) := by
  have h : a ||| b < 2 ^ 62 := Nat.or_lt_two_pow ha hb
  rw [orI, BitVec.toNat_or, BitVec.ofInt_natCast, BitVec.ofInt_natCast, BitVec.toNat_ofNat, BitVec.toNat_ofNat, Nat.mod_eq_of_lt (by omega), Nat.mod_eq_of_lt (by omega), IntWalk.i64_in _ (by omega)]
theorem or_add {m k : Nat} (h : 2 ^ (k + 1) ∣ m) : m ||| 2 ^ k = m + 2 ^ k := by
  obtain ⟨a, rfl⟩ := h
  exact (Nat.two_pow_add_eq_or_of_lt (Nat.pow_lt_pow_right (by omega) (by omega)) a).symm

def hitC (i : Int) (c : Cb) : Bool := decide (andI i c.1 = c.2.1)
/-- Where a letter leads. -/
def atC (cs : List Cb) (i : Int) : Option Int := (cs.find? (hitC i)).map fun c => c.2.2
def rowC (cs : List Cb) (k : Nat) : List Int := (List.range (2 ^ k)).map fun i : Nat => (atC cs i).getD 0
/-- Are they a row's cubes? -/
def cubesOk (cs : List Cb) (k : Nat) : Bool := decide (cs.length ≤ 2 ^ k) && ((List.range (2 ^ k)).all fun i : Nat => (atC cs i).isSome) && ((rowC cs k).all fun x => decide (0 ≤ x)) && decide (cubR k (rowC cs k) 0 0 = cs)
theorem rowC_length (cs k) : (rowC cs k).length = 2 ^ k := by simp [rowC]
theorem rowC_get {cs : List Cb} {k i : Nat} (h : i < 2 ^ k) : (rowC cs k)[i]? = some ((atC cs i).getD 0) := by simp [rowC, h]

theorem atC_find {cs : List Cb} {i : Int} {j : Nat} (hj : j < cs.length) (hn : ∀ j' (h' : j' < j), hitC i (cs[j']'(by omega)) = false) (h : hitC i cs[j] = true) : atC cs i = some (cs[j]).2.2 := by
  rw [atC]
  have : cs.find? (hitC i) = some cs[j] := by
    rw [List.find?_eq_some_iff_getElem]
    exact ⟨h, j, hj, rfl, fun j' h' => by simp [hn j' h']⟩
  rw [this]; rfl
theorem atC_none {cs : List Cb} {i : Int} (hn : ∀ j (h : j < cs.length), hitC i cs[j] = false) : atC cs i = none := by
  rw [atC]
  have : cs.find? (hitC i) = none := by
    rw [List.find?_eq_none]
    intro c hc
    obtain ⟨j, hj, rfl⟩ := List.getElem_of_mem hc
    simp [hn j hj]
  rw [this]; rfl

structure Aut where
  tk : SK
  tracks : List (List UInt8)
  ak : SK
  accept : List Bool
  sk : SK
  starts : List Int
  ck : SK
  arena : List Cb
def Aut.st (a : Aut) (q : Nat) : Nat := (a.starts.getD q 0).toNat
def Aut.row (a : Aut) (q : Nat) : List Cb := (a.arena.drop (a.st q)).take (a.st (q + 1) - a.st q)
def sortedI : List Int → Bool
  | a :: b :: l => decide (a ≤ b) && sortedI (b :: l)
  | _ => true
/-- The frame of a table: what is checked ahead of its rows. -/
def frameS (a : Aut) : Bool := tracksS a.tracks a.accept.length && decide (a.starts.length = a.accept.length + 1) && decide (a.starts.getD 0 0 = 0) && decide (a.starts.getD a.accept.length 0 = a.arena.length) && sortedI a.starts
def rowOkS (a : Aut) (q : Nat) : Bool := decide ((a.row q).length ≤ 32) && cubesOk (a.row q) a.tracks.length && ((rowC (a.row q) a.tracks.length).all fun x => decide (x < a.accept.length))
def checkS (a : Aut) : Bool := frameS a && (List.range a.accept.length).all (rowOkS a)
@[irreducible] def unpE (a : Aut) : Int := if checkS a = true then 0 else 3
@[irreducible] def unpD (a : Aut) : Den := if checkS a = true then ⟨.any, a.tracks, .any, a.accept, .any, (List.range a.accept.length).map fun q => (.any, rowC (a.row q) a.tracks.length)⟩ else den0
theorem unpE_zero {a : Aut} : unpE a = 0 ↔ checkS a = true := by
  rw [unpE]; split <;> simp_all
theorem unpE_bad {a : Aut} (h : checkS a = false) : unpE a = 3 := by rw [unpE, h]; rfl
theorem unpD_ok {a : Aut} (h : checkS a = true) : unpD a = ⟨.any, a.tracks, .any, a.accept, .any, (List.range a.accept.length).map fun q => (.any, rowC (a.row q) a.tracks.length)⟩ := by rw [unpD, if_pos h]
theorem unpD_bad {a : Aut} (h : checkS a = false) : unpD a = den0 := by rw [unpD, h]; rfl

theorem sorted_get : ∀ {l : List Int}, sortedI l = true → ∀ i (h : i + 1 < l.length), l[i] ≤ l[i + 1]
  | [], _, i, h => by simp at h
  | [a], _, i, h => by simp at h
  | a :: b :: l, hs, i, h => by
    simp only [sortedI, Bool.and_eq_true, decide_eq_true_eq] at hs
    cases i with
    | zero => exact hs.1
    | succ i => exact sorted_get hs.2 i (by simpa using h)
theorem sorted_of : ∀ {l : List Int}, (∀ i (h : i + 1 < l.length), l[i] ≤ l[i + 1]) → sortedI l = true
  | [], _ => rfl
  | [a], _ => rfl
  | a :: b :: l, hs => by
    simp only [sortedI, Bool.and_eq_true, decide_eq_true_eq]
    exact ⟨hs 0 (by simp), sorted_of fun i h => hs (i + 1) (by simpa using h)⟩
theorem sorted_le {l : List Int} (hs : sortedI l = true) : ∀ {j i : Nat} (hj : j < l.length) (hij : i ≤ j), l[i]'(by omega) ≤ l[j]
  | 0, i, hj, hij => by have : i = 0 := by omega
                        subst this; omega
  | j + 1, i, hj, hij => by
    by_cases e : i = j + 1
    · subst e; omega
    · have h1 := sorted_le hs (j := j) (i := i) (by omega) (by omega)
      have h2 := sorted_get hs j hj
      omega
structure FrameOk (a : Aut) : Prop where
  tracks : tracksS a.tracks a.accept.length = true
  len : a.starts.length = a.accept.length + 1
  zero : a.starts.getD 0 0 = 0
  last : a.starts.getD a.accept.length 0 = a.arena.length
  sorted : sortedI a.starts = true
theorem frameS_iff {a : Aut} : frameS a = true ↔ FrameOk a := by
  simp only [frameS, Bool.and_eq_true, decide_eq_true_eq]
  exact ⟨fun ⟨⟨⟨⟨h1, h2⟩, h3⟩, h4⟩, h5⟩ => ⟨h1, h2, h3, h4, h5⟩, fun h => ⟨⟨⟨⟨h.1, h.2⟩, h.3⟩, h.4⟩, h.5⟩⟩
theorem FrameOk.get {a : Aut} (h : FrameOk a) {q : Nat} (hq : q ≤ a.accept.length) : a.starts[q]? = some (a.st q : Int) ∧ a.st q ≤ a.arena.length := by
  have hl := h.len
  have e : ∀ i, i < a.starts.length → a.starts.getD i 0 = a.starts[i]! := fun i hi => by simp [List.getD_eq_getElem?_getD, hi]
  have hz : a.starts[0]'(by omega) = 0 := by have := h.zero; rw [List.getD_eq_getElem?_getD, List.getElem?_eq_getElem (by omega)] at this; simpa using this
  have hL : a.starts[a.accept.length]'(by omega) = a.arena.length := by have := h.last; rw [List.getD_eq_getElem?_getD, List.getElem?_eq_getElem (by omega)] at this; simpa using this
  have h1 := sorted_le h.sorted (j := q) (i := 0) (by omega) (by omega)
  have h2 := sorted_le h.sorted (j := a.accept.length) (i := q) (by omega) hq
  have h3 : a.starts.getD q 0 = a.starts[q]'(by omega) := by rw [List.getD_eq_getElem?_getD, List.getElem?_eq_getElem (by omega)]; rfl
  refine ⟨?_, ?_⟩
  · rw [List.getElem?_eq_getElem (by omega), Aut.st, h3]; congr 1; omega
  · rw [Aut.st, h3]; omega
theorem FrameOk.le {a : Aut} (h : FrameOk a) {q : Nat} (hq : q < a.accept.length) : a.st q ≤ a.st (q + 1) := by
  have hl := h.len
  have h1 := sorted_get h.sorted q (by omega)
  obtain ⟨g1, _⟩ := h.get (q := q) (by omega)
  obtain ⟨g2, _⟩ := h.get (q := q + 1) (by omega)
  rw [List.getElem?_eq_getElem (by omega), Option.some.injEq] at g1 g2
  rw [g1, g2] at h1
  omega
theorem unpD_right {a : Aut} (h : checkS a = true) : rightS (unpD a) = true ∧ (unpD a).tracks = a.tracks ∧ (unpD a).accept = a.accept := by
  rw [unpD_ok h]
  refine ⟨?_, rfl, rfl⟩
  simp only [checkS, Bool.and_eq_true, List.all_eq_true, List.mem_range] at h
  obtain ⟨h1, h2⟩ := h
  have hf := frameS_iff.1 h1
  rw [rightS]
  simp only [Bool.and_eq_true, decide_eq_true_eq, List.all_eq_true, List.length_map, List.length_range, List.mem_map, List.mem_range]
  refine ⟨⟨hf.tracks, trivial⟩, ?_⟩
  rintro r ⟨q, hq, rfl⟩
  have hr := h2 q hq
  simp only [rowOkS, Bool.and_eq_true, decide_eq_true_eq, List.all_eq_true] at hr
  obtain ⟨⟨_, h4⟩, h5⟩ := hr
  simp only [cubesOk, Bool.and_eq_true, decide_eq_true_eq, List.all_eq_true] at h4
  rw [rowOk]
  simp only [Bool.and_eq_true, decide_eq_true_eq, List.all_eq_true]
  refine ⟨rowC_length _ _, fun x hx => ⟨h4.1.2 x hx, h5 x hx⟩⟩

end Tab

/- Lists compared, sorted; where a letter leads; cubes out of a row. -/
namespace Tab
open Go Go.Proofs
set_option maxRecDepth 10000
set_option linter.unusedVariables false
set_option linter.unusedSimpArgs false
set_option linter.unusedSectionVars false

def cb3 (c : Cb) : List AV := [.int .i64 c.1, .int .i64 c.2.1, .int .i64 c.2.2]
def cc3 (L : List Cb) : List AV := L.flatMap cb3
def aCs (k : SK) (l : List Cb) : AV := .sl k l.length (cc3 l)
def okI (x : Int) : Prop := -(2 ^ 63) ≤ x ∧ x < 2 ^ 63
def okC (c : Cb) : Prop := okI c.1 ∧ okI c.2.1 ∧ okI c.2.2
theorem cc3_length : ∀ L, (cc3 L).length = L.length * 3
  | [] => rfl
  | p :: L => by have := cc3_length L; simp only [cc3, cb3, List.flatMap_cons, List.length_append, List.length_cons, List.length_nil] at this ⊢; omega
theorem cc3_append (L M : List Cb) : cc3 (L ++ M) = cc3 L ++ cc3 M := by simp [cc3]
theorem cc3_drop : ∀ (L : List Cb) (i : Nat), (cc3 L).drop (i * 3) = cc3 (L.drop i)
  | L, 0 => by simp
  | [], i + 1 => by simp [cc3]
  | c :: L, i + 1 => by
    rw [show (i + 1) * 3 = i * 3 + 3 by omega, List.drop_succ_cons, ← cc3_drop L i]
    simp [cc3, cb3]
theorem cc3_take : ∀ (L : List Cb) (i : Nat), (cc3 L).take (i * 3) = cc3 (L.take i)
  | L, 0 => by simp [cc3]
  | [], i + 1 => by simp [cc3]
  | c :: L, i + 1 => by
    rw [show (i + 1) * 3 = i * 3 + 3 by omega, List.take_succ_cons]
    have := cc3_take L i
    simp only [cc3, cb3, List.flatMap_cons, List.cons_append, List.nil_append, List.take_succ_cons] at this ⊢
    rw [this]
theorem cc3_get {L : List Cb} {i : Nat} {c : Cb} (h : L[i]? = some c) : ((cc3 L).drop (i * 3)).take 3 = cb3 c ∧ 3 ≤ ((cc3 L).drop (i * 3)).length := by
  obtain ⟨h1, h2⟩ := List.getElem?_eq_some_iff.1 h
  have e : L.drop i = c :: L.drop (i + 1) := by rw [← h2]; exact List.drop_eq_getElem_cons h1
  rw [cc3_drop, e]
  simp [cc3, cb3]
theorem cb3_closed (c : Cb) : closeds (cb3 c) := by simp [cb3, closeds, AV.closed]
theorem cc3_closed (L : List Cb) : closeds (cc3 L) := by
  rw [closeds_iff]
  intro a ha
  obtain ⟨p, _, hp⟩ := List.mem_flatMap.1 ha
  exact closeds_iff.1 (cb3_closed p) a hp
theorem aCs_closed (k l) : (aCs k l).closed := cc3_closed l
def Aut.cells (a : Aut) : List AV := [aSs a.tk a.tracks, aBs a.ak a.accept, aIs a.sk a.starts, aCs a.ck a.arena]
def aAut (a : Aut) : AV := .agg a.cells
theorem aAut_closed (a : Aut) : (aAut a).closed := by simp [aAut, Aut.cells, AV.closed, closeds, aSs_closed, aBs_closed, aIs_closed, aCs_closed]
@[simp] theorem aCs_bel (n k l) : (aCs k l).bel n := AV.closed_bel _ (aCs_closed k l)
@[simp] theorem aAut_bel (n a) : (aAut a).bel n := AV.closed_bel _ (aAut_closed a)
theorem ldAgg {cs xs : List AV} {n : Nat} {k : Eff → Prop} (h : cs.take n = xs) (hl : n ≤ cs.length) (hk : k { v := .agg xs }) : guardE (n ≤ cs.length) (k { v := .agg (cs.take n) }) := by subst h; exact guardE_of hl hk

theorem lits3 {a b c : Int} (ha : okI a) (hb : okI b) (hc : okI c) (n : Nat) : Try.prog.keyLits (n + 2) 92 [.int .i64 a, .int .i64 b, .int .i64 c] = some [.int .i64 a, .int .i64 b, .int .i64 c] := by
  have hi : Try.prog.underlying 3 = some (.int .i64) := (by kernel_rfl)
  have hc1 : Try.prog.cellsOf 3 = 1 := (by kernel_rfl)
  have hcC : Try.prog.cellsOf 92 = 3 := (by kernel_rfl)
  have hu : Try.prog.underlying 92 = some (.struct #[{ name := "Mask", type := 3, offset := 0, embedded := false, tag := "", pkgPath := "", byteOffset := 0 }, { name := "Bits", type := 3, offset := 1, embedded := false, tag := "", pkgPath := "", byteOffset := 8 }, { name := "To", type := 3, offset := 2, embedded := false, tag := "", pkgPath := "", byteOffset := 16 }]) := (by kernel_rfl)
  have hw : ∀ x : Int, okI x → (Lit.int .i64 x).wf = true := fun x h => by
    obtain ⟨h1, h2⟩ := h
    simp only [Lit.wf, Bool.and_eq_true, decide_eq_true_eq, show IntKind.i64.min = -9223372036854775808 from rfl, show IntKind.i64.max = 9223372036854775807 from rfl]
    omega
  have e1 : ∀ (n : Nat) (x : Int), okI x → Try.prog.keyLits (n + 1) 3 [.int .i64 x] = some [.int .i64 x] := fun n x h => by
    unfold Program.keyLits
    rw [hi]
    exact if_pos ⟨rfl, hw x h⟩
  unfold Program.keyLits
  rw [hu]
  simp only
  rw [if_pos ⟨by rw [hcC]; rfl, (by kernel_rfl)⟩]
  simp [hc1, e1 n a ha, e1 n b hb, e1 n c hc]
theorem eqlC {c c' : Cb} (h : okC c) (h' : okC c') : EqlE Try.prog 92 (cb3 c) (cb3 c') (decide (c = c')) := by
  have hu : Try.prog.underlying 92 = some (.struct #[{ name := "Mask", type := 3, offset := 0, embedded := false, tag := "", pkgPath := "", byteOffset := 0 }, { name := "Bits", type := 3, offset := 1, embedded := false, tag := "", pkgPath := "", byteOffset := 8 }, { name := "To", type := 3, offset := 2, embedded := false, tag := "", pkgPath := "", byteOffset := 16 }]) := (by kernel_rfl)
  have hcC : Try.prog.cellsOf 92 = 3 := (by kernel_rfl)
  have hf : ∀ x y z : Int, Value.formed Try.prog 92 (.agg #[.int .i64 x, .int .i64 y, .int .i64 z]) = true := fun x y z => by simp only [Value.formed, hu, hcC]; rfl
  obtain ⟨a, b, c⟩ := c
  obtain ⟨a', b', c'⟩ := c'
  refine .mk (xs := [.int .i64 a, .int .i64 b, .int .i64 c]) (ys := [.int .i64 a', .int .i64 b', .int .i64 c']) (la := [.int .i64 a, .int .i64 b, .int .i64 c]) (lb := [.int .i64 a', .int .i64 b', .int .i64 c']) (D := 0 + 2) (D' := 0 + 2) (m := 2) ?_ rfl rfl (lits3 h.1 h.2.1 h.2.2 0) (lits3 h'.1 h'.2.1 h'.2.2 0) (by kernel_rfl) (by decide) (hf a b c) (hf a' b' c') (by kernel_rfl)
  rw [decide_eq_true_eq]
  simp

theorem slices_Equal_I (k k' : SK) (a b : List Int) (ha : a.length < 2^62) (hb : b.length < 2^62) : Pure Try.prog 167 [aIs k a, aIs k' b] (.bool (decide (a = b))) := by
  refine Pure.of_sw 26 Try.func167 rfl Try.ntmps167 (by kernel_rfl) (Nat.le_of_ble_eq_true (by kernel_rfl)) (by simp [closeds, AV.closed, aSs_closed, aIs_closed, aBs_closed, aRs_closed, aDen_closed]) (by simp [AV.closed, closeds, aSs_closed, aIs_closed, aBs_closed, aRs_closed, aDen_closed]) ?_; refine SW.of_vc ?_
  repeat first | refine opsStep ?_ | refine codeStep ?_ | refine drawStep ?_
  refine decB_split (fun h => ?_) (fun h => ?_)
  · repeat first | refine opsStep ?_ | refine codeStep ?_ | refine drawStep ?_
    exact finB rfl (by simp at h; simp; intro e; exact h (by rw [e]))
  · repeat first | refine opsStep ?_ | refine codeStep ?_ | refine drawStep ?_
    have hl : a.length = b.length := by simp at h; omega
    refine loopE_of (ι := {i : Nat // i ≤ a.length ∧ a.take i = b.take i}) (fun i => (fr [(0, aIs k a), (1, aIs k' b), (12, .int .i64 a.length), (13, .int .i64 i.1)], [])) (fun i => a.length - i.1) ⟨0, by omega, by simp⟩ (Ent.fr' ⟨(by kernel_rfl), (by kernel_rfl), (by kernel_rfl), (by kernel_rfl), trivial⟩ (by kernel_rfl)) ?_
    rintro ⟨i, hi, hpre⟩
    repeat first | refine opsStep ?_ | refine codeStep ?_ | refine drawStep ?_
    refine decB_split (fun h => ?_) (fun h => ?_)
    · have hia : i < a.length := by simpa using h
      repeat first | refine opsStep ?_ | refine codeStep ?_ | refine drawStep ?_
      refine SW.drawn rfl (by kernel_rfl) ?_
      repeat first | refine opsStep ?_ | refine codeStep ?_ | refine drawStep ?_
      refine guardE_of (by simp; omega) ?_
      repeat first | refine opsStep ?_ | refine codeStep ?_ | refine drawStep ?_
      refine optE_of (c := .int .i64 a[i]) (by simp [Value.cells, hia]) ?_
      repeat first | refine opsStep ?_ | refine codeStep ?_ | refine drawStep ?_
      refine guardE_of (by simp; omega) ?_
      repeat first | refine opsStep ?_ | refine codeStep ?_ | refine drawStep ?_
      refine optE_of (c := .int .i64 b[i]) (by simp [Value.cells, hl ▸ hia]) ?_
      repeat first | refine opsStep ?_ | refine codeStep ?_ | refine drawStep ?_
      refine ⟨by kernel_rfl, ?_⟩
      repeat first | refine opsStep ?_ | refine codeStep ?_ | refine drawStep ?_
      refine decB_split (fun h => ?_) (fun h => ?_)
      · repeat first | refine opsStep ?_ | refine codeStep ?_ | refine drawStep ?_
        exact finB rfl (by simp at h; simp; rintro rfl; exact h rfl)
      · repeat first | refine opsStep ?_ | refine codeStep ?_ | refine drawStep ?_
        refine ⟨⟨i + 1, by omega, ?_⟩, (by show a.length - (i + 1) < a.length - i; omega), Ent.fr' ⟨(by kernel_rfl), (by kernel_rfl), (by kernel_rfl), inc_slot (i := i) (by omega), trivial⟩ (by kernel_rfl)⟩
        rw [List.take_succ_eq_append_getElem hia, List.take_succ_eq_append_getElem (hl ▸ hia), hpre]
        simp at h; rw [h]
    · repeat first | refine opsStep ?_ | refine codeStep ?_ | refine drawStep ?_
      have : i = a.length := by simp at h; omega
      exact finB rfl (by subst this; rw [List.take_length, hl, List.take_length] at hpre; simpa using hpre)

theorem slices_Equal_C (k k' : SK) (a b : List Cb) (ha : a.length < 2^60) (hb : b.length < 2^60) (oa : ∀ c ∈ a, okC c) (ob : ∀ c ∈ b, okC c) : Pure Try.prog 112 [aCs k a, aCs k' b] (.bool (decide (a = b))) := by
  refine Pure.of_sw 26 Try.func112 rfl Try.ntmps112 (by kernel_rfl) (Nat.le_of_ble_eq_true (by kernel_rfl)) (by simp [closeds, AV.closed, aSs_closed, aIs_closed, aBs_closed, aRs_closed, aDen_closed, aCs_closed, aAut_closed]) (by simp [AV.closed, closeds, aSs_closed, aIs_closed, aBs_closed, aRs_closed, aDen_closed, aCs_closed, aAut_closed]) ?_; refine SW.of_vc ?_
  repeat first | refine opsStep ?_ | refine codeStep ?_ | refine drawStep ?_
  refine decB_split (fun h => ?_) (fun h => ?_)
  · repeat first | refine opsStep ?_ | refine codeStep ?_ | refine drawStep ?_
    exact finB rfl (by simp at h; simp; intro e; exact h (by rw [e]))
  · repeat first | refine opsStep ?_ | refine codeStep ?_ | refine drawStep ?_
    have hl : a.length = b.length := by simp at h; omega
    refine loopE_of (ι := {i : Nat // i ≤ a.length ∧ a.take i = b.take i}) (fun i => (fr [(0, aCs k a), (1, aCs k' b), (12, .int .i64 a.length), (13, .int .i64 i.1)], [])) (fun i => a.length - i.1) ⟨0, by omega, by simp⟩ (Ent.fr' ⟨(by kernel_rfl), (by kernel_rfl), (by kernel_rfl), (by kernel_rfl), trivial⟩ (by kernel_rfl)) ?_
    rintro ⟨i, hi, hpre⟩
    repeat first | refine opsStep ?_ | refine codeStep ?_ | refine drawStep ?_
    refine decB_split (fun h => ?_) (fun h => ?_)
    · have hia : i < a.length := by simpa using h
      obtain ⟨g1, g2⟩ := cc3_get (List.getElem?_eq_getElem hia)
      obtain ⟨g3, g4⟩ := cc3_get (List.getElem?_eq_getElem (show i < b.length by omega))
      have he : EqlE Try.prog 92 (((cc3 a).drop (i * 3)).take 3) (((cc3 b).drop (i * 3)).take 3) (decide (a[i] = b[i])) := by rw [g1, g3]; exact eqlC (oa _ (List.getElem_mem hia)) (ob _ (List.getElem_mem (show i < b.length by omega)))
      repeat first | refine opsStep ?_ | refine codeStep ?_ | refine drawStep ?_
      refine SW.drawn rfl (by kernel_rfl) ?_
      repeat first | refine opsStep ?_ | refine codeStep ?_ | refine drawStep ?_
      refine guardE_of (by simp; omega) ?_
      repeat first | refine opsStep ?_ | refine codeStep ?_ | refine drawStep ?_
      refine guardE_of g2 ?_
      repeat first | refine opsStep ?_ | refine codeStep ?_ | refine drawStep ?_
      refine guardE_of (by simp; omega) ?_
      repeat first | refine opsStep ?_ | refine codeStep ?_ | refine drawStep ?_
      refine guardE_of g4 ?_
      repeat first | refine opsStep ?_ | refine codeStep ?_ | refine drawStep ?_
      refine ⟨_, he, ?_⟩
      repeat first | refine opsStep ?_ | refine codeStep ?_ | refine drawStep ?_
      refine ⟨by kernel_rfl, ?_⟩
      repeat first | refine opsStep ?_ | refine codeStep ?_ | refine drawStep ?_
      refine decB_split (fun h => ?_) (fun h => ?_)
      · repeat first | refine opsStep ?_ | refine codeStep ?_ | refine drawStep ?_
        exact finB rfl (by simp at h; simp; rintro rfl; exact h rfl)
      · repeat first | refine opsStep ?_ | refine codeStep ?_ | refine drawStep ?_
        refine ⟨⟨i + 1, by omega, ?_⟩, (by show a.length - (i + 1) < a.length - i; omega), Ent.fr' ⟨(by kernel_rfl), (by kernel_rfl), (by kernel_rfl), inc_slot (i := i) (by omega), trivial⟩ (by kernel_rfl)⟩
        rw [List.take_succ_eq_append_getElem hia, List.take_succ_eq_append_getElem (hl ▸ hia), hpre]
        simp at h; rw [h]
    · repeat first | refine opsStep ?_ | refine codeStep ?_ | refine drawStep ?_
      have : i = a.length := by simp at h; omega
      exact finB rfl (by subst this; rw [List.take_length, hl, List.take_length] at hpre; simpa using hpre)

theorem cmp_isNaN_I (x : Int) : Pure Try.prog 106 [.int .i64 x] (.bool false) := by
  refine Pure.of_sw 6 Try.func106 rfl Try.ntmps106 (by kernel_rfl) (Nat.le_of_ble_eq_true (by kernel_rfl)) (by simp [closeds, AV.closed, aSs_closed, aIs_closed, aBs_closed, aRs_closed, aDen_closed]) (by simp [AV.closed, closeds, aSs_closed, aIs_closed, aBs_closed, aRs_closed, aDen_closed]) ?_; refine SW.of_vc ?_
  repeat first | refine opsStep ?_ | refine codeStep ?_ | refine drawStep ?_
  exact finB (b' := decide (x ≠ x)) (by kernel_rfl) (by simp)
theorem cmp_Less_I (x y : Int) : Pure Try.prog 142 [.int .i64 x, .int .i64 y] (.bool (decide (x < y))) := by
  refine Pure.of_sw 17 Try.func142 rfl Try.ntmps142 (by kernel_rfl) (Nat.le_of_ble_eq_true (by kernel_rfl)) (by simp [closeds, AV.closed, aSs_closed, aIs_closed, aBs_closed, aRs_closed, aDen_closed]) (by simp [AV.closed, closeds, aSs_closed, aIs_closed, aBs_closed, aRs_closed, aDen_closed]) ?_; refine SW.of_vc ?_
  repeat first | refine opsStep ?_ | refine codeStep ?_ | refine drawStep ?_
  refine callP (cmp_isNaN_I x) ?_
  repeat first | refine opsStep ?_ | refine codeStep ?_ | refine drawStep ?_
  exact finB (b' := decide (x < y)) (by kernel_rfl) rfl

theorem slices_IsSorted_I (k : SK) (l : List Int) (hl : l.length < 2^60) : Pure Try.prog 108 [aIs k l] (.bool (sortedI l)) := by
  refine Pure.of_sw 21 Try.func108 rfl Try.ntmps108 (by kernel_rfl) (Nat.le_of_ble_eq_true (by kernel_rfl)) (by simp [closeds, AV.closed, aSs_closed, aIs_closed, aBs_closed, aRs_closed, aDen_closed]) (by simp [AV.closed, closeds, aSs_closed, aIs_closed, aBs_closed, aRs_closed, aDen_closed]) ?_; refine SW.of_vc ?_
  repeat first | refine opsStep ?_ | refine codeStep ?_ | refine drawStep ?_
  refine loopE_of (ι := {j : Nat // j ≤ l.length ∧ ∀ i, j ≤ i + 1 → ∀ h : i + 1 < l.length, l[i] ≤ l[i + 1]}) (fun j => (fr [(0, aIs k l), (3, .int .i64 ((j.1 : Int) - 1))], [])) (fun j => j.1) ⟨l.length, by omega, fun i h h' => by omega⟩ (Ent.fr' ⟨(by kernel_rfl), dec_slot' (by omega), trivial⟩ (by kernel_rfl)) ?_
  rintro ⟨j, hj, hpre⟩
  repeat first | refine opsStep ?_ | refine codeStep ?_ | refine drawStep ?_
  refine decB_dec (fun h => ?_) (fun h => ?_)
  · have hj2 : 2 ≤ j := by have := h; simp at this; omega
    have hws : IntKind.wrap .i64 ((j : Int) - 1 - 1) = ((j - 2 : Nat) : Int) := by rw [IntWalk.i64_in _ (by omega)]; omega
    have hLs := cmp_Less_I l[j - 1] l[j - 2]
    repeat first | refine opsStep ?_ | refine codeStep ?_ | refine drawStep ?_
    refine SW.drawn rfl (by kernel_rfl) ?_
    repeat first | refine opsStep ?_ | refine codeStep ?_ | refine drawStep ?_
    refine guardE_of (by simp; omega) ?_
    repeat first | refine opsStep ?_ | refine codeStep ?_ | refine drawStep ?_
    refine optE_of (c := .int .i64 l[j - 1]) (by rw [show ((j : Int) - 1).toNat = j - 1 by omega]; simp [Value.cells, show j - 1 < l.length by omega]) ?_
    repeat first | refine opsStep ?_ | refine codeStep ?_ | refine drawStep ?_
    refine guardE_of (by rw [hws]; omega) ?_
    repeat first | refine opsStep ?_ | refine codeStep ?_ | refine drawStep ?_
    refine optE_of (c := .int .i64 l[j - 2]) (by rw [hws]; simp [Value.cells, show j - 2 < l.length by omega]) ?_
    repeat first | refine opsStep ?_ | refine codeStep ?_ | refine drawStep ?_
    refine .inl ⟨_, _, [], hLs, RdsN_refl _, .inr rfl, none_need, ?_⟩
    repeat first | refine opsStep ?_ | refine codeStep ?_ | refine drawStep ?_
    refine ⟨by kernel_rfl, ?_⟩
    repeat first | refine opsStep ?_ | refine codeStep ?_ | refine drawStep ?_
    refine decB_dec (fun h2 => ?_) (fun h2 => ?_)
    · repeat first | refine opsStep ?_ | refine codeStep ?_ | refine drawStep ?_
      refine finB (b' := false) (by kernel_rfl) ?_
      cases hs : sortedI l with
      | false => rfl
      | true =>
        have := sorted_get hs (j - 2) (by omega)
        simp only [show j - 2 + 1 = j - 1 by omega] at this
        omega
    · repeat first | refine opsStep ?_ | refine codeStep ?_ | refine drawStep ?_
      refine ⟨⟨j - 1, by omega, fun i hi h' => ?_⟩, (by show j - 1 < j; omega), Ent.fr' ⟨(by kernel_rfl), ?_, trivial⟩ (by kernel_rfl)⟩
      · by_cases e : j ≤ i + 1
        · exact hpre i e h'
        · have e : i = j - 2 := by omega
          subst e
          simp only [show j - 2 + 1 = j - 1 by omega]
          omega
      · show AV.int .i64 (IntKind.wrap .i64 ((j : Int) - 1 - 1)) = AV.int .i64 (((j - 1 : Nat) : Int) - 1)
        rw [hws]; congr 1; omega
  · repeat first | refine opsStep ?_ | refine codeStep ?_ | refine drawStep ?_
    have : j ≤ 1 := by have := h; simp at this; omega
    exact finB (b' := true) (by kernel_rfl) (sorted_of fun i h => hpre i (by omega) h).symm

theorem row_At (k : SK) (cs : List Cb) (i : Int) (hl : cs.length < 2^60) : Pure Try.prog 110 [aCs k cs, .int .i64 i] (.tup [.int .i64 ((atC cs i).getD 0), .bool (atC cs i).isSome]) := by
  refine Pure.of_sw 24 Try.func110 rfl Try.ntmps110 (by kernel_rfl) (Nat.le_of_ble_eq_true (by kernel_rfl)) (by simp [closeds, AV.closed, aSs_closed, aIs_closed, aBs_closed, aRs_closed, aDen_closed, aCs_closed, aAut_closed]) (by simp [AV.closed, closeds, aSs_closed, aIs_closed, aBs_closed, aRs_closed, aDen_closed, aCs_closed, aAut_closed]) ?_; refine SW.of_vc ?_
  repeat first | refine opsStep ?_ | refine codeStep ?_ | refine drawStep ?_
  refine loopE_of (ι := {j : Nat // j ≤ cs.length ∧ ∀ j' (h : j' < cs.length), j' < j → hitC i cs[j'] = false}) (fun j => (fr [(1, .int .i64 i), (8, aCs k cs), (9, .int .i64 cs.length), (10, .int .i64 j.1)], [])) (fun j => cs.length - j.1) ⟨0, by omega, fun _ _ h => by omega⟩ (Ent.fr' ⟨(by kernel_rfl), (by kernel_rfl), (by kernel_rfl), (by kernel_rfl), trivial⟩ (by kernel_rfl)) ?_
  rintro ⟨j, hj, hpre⟩
  repeat first | refine opsStep ?_ | refine codeStep ?_ | refine drawStep ?_
  refine decB_dec (fun h => ?_) (fun h => ?_)
  · have hja : j < cs.length := by have := h; simp at this; omega
    obtain ⟨g1, g2⟩ := cc3_get (List.getElem?_eq_getElem hja)
    repeat first | refine opsStep ?_ | refine codeStep ?_ | refine drawStep ?_
    refine guardE_of (by simp; omega) ?_
    repeat first | refine opsStep ?_ | refine codeStep ?_ | refine drawStep ?_
    refine guardE_of g2 ?_
    repeat first | refine opsStep ?_ | refine codeStep ?_ | refine drawStep ?_
    refine guardE_of ⟨by show (((cc3 cs).drop (j * 3)).take 3).length = 3; rw [g1]; rfl, by decide, by decide⟩ ?_
    iterate 1 refine opsStep ?_
    refine VCode.ent (Ent.fr' (l := [(1, .int .i64 i), (8, aCs k cs), (9, .int .i64 cs.length), (10, .int .i64 j), (7, .ref 0 0 0)]) (H' := [.cells 0 (cb3 cs[j])]) ⟨(by kernel_rfl), (by kernel_rfl), (by kernel_rfl), (by kernel_rfl), (by kernel_rfl), trivial⟩ (Eq.trans (b := [.cells 0 (over [.int .i64 0, .int .i64 0, .int .i64 0] 0 (((cc3 cs).drop (j * 3)).take 3))]) (by kernel_rfl) (by rw [g1]; rfl))) ?_
    repeat first | refine opsStep ?_ | refine codeStep ?_ | refine drawStep ?_
    refine decB_dec (fun hh => ?_) (fun hh => ?_)
    · have hh : hitC i cs[j] = true := decide_eq_true hh
      repeat first | refine opsStep ?_ | refine codeStep ?_ | refine drawStep ?_
      exact finV (v' := .tup [.int .i64 (cs[j]).2.2, .bool true]) (by kernel_rfl) (by rw [atC_find hja (fun j' h' => hpre j' (by omega) h') hh]; rfl)
    · have hh : hitC i cs[j] = false := decide_eq_false hh
      repeat first | refine opsStep ?_ | refine codeStep ?_ | refine drawStep ?_
      refine ⟨⟨j + 1, by omega, fun j' h' hlt => ?_⟩, (by show cs.length - (j + 1) < cs.length - j; omega), Ent.frD (X := [.cells 0 (cb3 cs[j])]) ⟨(by kernel_rfl), (by kernel_rfl), (by kernel_rfl), inc_slot (i := j) (by omega), trivial⟩ (by kernel_rfl) (Nat.le_of_ble_eq_true (by kernel_rfl)) (by first | (simp [frBel, blksBel, Blk.bel, AV.bel, bels, bels_append, bels_map, aSs_bel, aIs_bel, aBs_bel, aRs_bel, aDen_bel, cells_bel]; done) | (simp only [List.drop_zero, ← List.map_take, ← List.map_drop, List.map_map, frBel, blksBel, Blk.bel, AV.bel, bels, bels_append, bels_map, aSs_bel, aIs_bel, aBs_bel, aRs_bel, aDen_bel, cells_bel]; simp [AV.bel, aSs_bel, aIs_bel, aBs_bel, aRs_bel, aDen_bel, cells_bel])) (by first | (simp [frBel, blksBel, Blk.bel, AV.bel, bels, bels_append, bels_map, aSs_bel, aIs_bel, aBs_bel, aRs_bel, aDen_bel, cells_bel]; done) | (simp only [List.drop_zero, ← List.map_take, ← List.map_drop, List.map_map, frBel, blksBel, Blk.bel, AV.bel, bels, bels_append, bels_map, aSs_bel, aIs_bel, aBs_bel, aRs_bel, aDen_bel, cells_bel]; simp [AV.bel, aSs_bel, aIs_bel, aBs_bel, aRs_bel, aDen_bel, cells_bel]))⟩
      by_cases e : j' = j
      · subst e; exact hh
      · exact hpre j' h' (by omega)
  · repeat first | refine opsStep ?_ | refine codeStep ?_ | refine drawStep ?_
    have : j = cs.length := by have := h; simp at this; omega
    exact finV (v' := .tup [.int .i64 0, .bool false]) (by kernel_rfl) (by rw [atC_none fun j' h' => hpre j' h' (by omega)]; rfl)

end Tab

/- Places in a list of numbers. -/
namespace Tab
open Go Go.Proofs
set_option maxRecDepth 10000
set_option linter.unusedVariables false
set_option linter.unusedSimpArgs false
set_option linter.unusedSectionVars false

def idxI (l : List Int) (s : Int) : Int := if l.idxOf s < l.length then (l.idxOf s : Int) else -1
theorem idxI_hit {l : List Int} {s : Int} {i : Nat} (hi : i < l.length) (hn : s ∉ l.take i) (h : l[i] = s) : idxI l s = i := by
  have e : l = l.take i ++ l[i] :: l.drop (i + 1) := by simp
  have : l.idxOf s = i := by
    rw [e, List.idxOf_append, if_neg hn, h, List.idxOf_cons_self]
    simp; omega
  rw [idxI, this, if_pos hi]
theorem idxI_miss {l : List Int} {s : Int} (h : s ∉ l) : idxI l s = -1 := by
  rw [idxI, List.idxOf_eq_length h, if_neg (by omega)]

theorem slices_Index_I (k : SK) (l : List Int) (s : Int) (hl : l.length < 2^62) : Pure Try.prog 114 [aIs k l, .int .i64 s] (.int .i64 (idxI l s)) := by
  refine Pure.of_sw 19 Try.func114 rfl Try.ntmps114 (by kernel_rfl) (Nat.le_of_ble_eq_true (by kernel_rfl)) (by simp [closeds, AV.closed, aSs_closed, aIs_closed, aBs_closed, aRs_closed, aDen_closed]) (by simp [AV.closed, closeds, aSs_closed, aIs_closed, aBs_closed, aRs_closed, aDen_closed]) ?_; refine SW.of_vc ?_
  repeat first | refine opsStep ?_ | refine codeStep ?_ | refine drawStep ?_
  refine loopE_of (ι := {i : Nat // i ≤ l.length ∧ s ∉ l.take i}) (fun i => (fr [(0, aIs k l), (1, .int .i64 s), (7, .int .i64 l.length), (8, .int .i64 i.1)], [])) (fun i => l.length - i.1) ⟨0, by omega, by simp⟩ (Ent.fr' ⟨(by kernel_rfl), (by kernel_rfl), (by kernel_rfl), (by kernel_rfl), trivial⟩ (by kernel_rfl)) ?_
  rintro ⟨i, hi, hpre⟩
  repeat first | refine opsStep ?_ | refine codeStep ?_ | refine drawStep ?_
  refine decB_dec (fun h => ?_) (fun h => ?_)
  · have hia : i < l.length := by simpa using h
    repeat first | refine opsStep ?_ | refine codeStep ?_ | refine drawStep ?_
    refine guardE_of (by simp; omega) ?_
    repeat first | refine opsStep ?_ | refine codeStep ?_ | refine drawStep ?_
    refine optE_of (c := .int .i64 l[i]) (by simp [Value.cells, hia]) ?_
    repeat first | refine opsStep ?_ | refine codeStep ?_ | refine drawStep ?_
    refine decB_dec (fun h => ?_) (fun h => ?_)
    · repeat first | refine opsStep ?_ | refine codeStep ?_ | refine drawStep ?_
      exact finV (v' := .int .i64 i) (by kernel_rfl) (by rw [idxI_hit hia hpre h.symm])
    · repeat first | refine opsStep ?_ | refine codeStep ?_ | refine drawStep ?_
      refine ⟨⟨i + 1, by omega, ?_⟩, (by show l.length - (i + 1) < l.length - i; omega), Ent.fr' ⟨(by kernel_rfl), (by kernel_rfl), (by kernel_rfl), inc_slot (i := i) (by omega), trivial⟩ (by kernel_rfl)⟩
      rw [List.take_succ_eq_append_getElem hia]
      exact fun e => (List.mem_append.1 e).elim hpre (fun e => h (List.mem_singleton.1 e))
  · repeat first | refine opsStep ?_ | refine codeStep ?_ | refine drawStep ?_
    have : i = l.length := by simp at h; omega
    exact finV (v' := .int .i64 (-1)) (by kernel_rfl) (by subst this; rw [List.take_length] at hpre; rw [idxI_miss hpre])

end Tab

/- A machine over more tracks, as a value. -/
namespace Tab
open Go Go.Proofs
set_option maxRecDepth 10000
set_option linter.unusedVariables false
set_option linter.unusedSimpArgs false
set_option linter.unusedSectionVars false

def widenD (d : Den) (names : List (List UInt8)) : Den := ⟨.any, names, .any, d.accept, .any, (d.rows.map (ovRow names.length (placesOf d.tracks names))).map fun r => (.any, r)⟩
@[irreducible] def widenR (d : Den) (names : List (List UInt8)) : Den := if widenE d names = 0 then widenD d names else den0
theorem widenR_ok {d names} (h : widenE d names = 0) : widenR d names = widenD d names := by rw [widenR, if_pos h]
theorem widenR_bad {d names} (h : widenE d names ≠ 0) : widenR d names = den0 := by rw [widenR, if_neg h]

theorem ovRow_length (n pl r) : (ovRow n pl r).length = 2 ^ n := by simp [ovRow]

theorem rd_row {H : List Blk} {b n : Nat} {r : List Int} (hb : H[b]? = some (.cells 0 (r.map (.int .i64)))) (hn : r.length = n) : Rd H (.hs b 0 0 n 1) (aIs .any r) := by
  rw [aIs, hn]
  exact Rd.whole hb (by simp [hn])

theorem wd_read (d : Den) (names : List (List UInt8)) (b0 b1 b2 b3 b4 b7 : Blk) : Rd (wdHeap d names b0 b1 b2 b3 b4 b7) (wdRes d names) (aDen (widenD d names)) := by
  have hl : d.rows.length = d.next.length := by simp [Den.rows]
  refine Rd.agg (.cons ?_ (.cons ?_ (.cons ?_ .nil)))
  · exact Rd.whole (b := 5) (g := 0) (cs := names.map .str) rfl (by simp)
  · exact Rd.whole (b := 6) (g := 0) (cs := d.accept.map .bool) rfl (by simp)
  · have e : aRs .any (widenD d names).next = .sl .any d.next.length ((d.rows.map (ovRow names.length (placesOf d.tracks names))).map (aIs .any)) := by
      simp [aRs, widenD, hl, Function.comp_def]
    have e : aRs (widenD d names).nk (widenD d names).next = .sl .any d.next.length ((d.rows.map (ovRow names.length (placesOf d.tracks names))).map (aIs .any)) := e
    rw [e]
    refine .hs (b := 8) (cs := (List.range d.next.length).map fun j => .hs (9 + j) 0 0 (2 ^ names.length) 1) rfl rfl (by simp) ?_
    rw [List.drop_zero, List.take_of_length_le (by simp)]
    refine Rds.of_get (by simp [hl]) fun i a a' ha ha' => ?_
    rw [List.getElem?_map, Option.map_eq_some_iff] at ha ha'
    obtain ⟨j, hj, rfl⟩ := ha
    obtain ⟨r, hr, rfl⟩ := ha'
    have hj' := List.getElem?_eq_some_iff.1 hj
    obtain ⟨hj1, hj2⟩ := hj'
    simp only [List.getElem_range] at hj2
    subst hj2
    refine rd_row ?_ ?_
    · rw [wdHeap, List.getElem?_append_right (by simp)]
      simp only [List.length_cons, List.length_nil, ovBlks, List.getElem?_map]
      rw [show 9 + i - (0 + 1 + 1 + 1 + 1 + 1 + 1 + 1 + 1 + 1) = i by omega]
      rw [List.getElem?_map] at hr
      rw [hr]; rfl
    · rw [List.getElem?_map, Option.map_eq_some_iff] at hr
      obtain ⟨x, _, rfl⟩ := hr
      exact ovRow_length _ _ _

theorem rd_den {H : List Blk} {a b c base n ga gb gc N M K : Nat} {names : List (List UInt8)} {acc : List Bool} {rows : List (List Int)} (h1 : H[a]? = some (.cells ga (names.map .str))) (h2 : H[b]? = some (.cells gb (acc.map .bool)))
    (h3 : H[c]? = some (.cells gc ((List.range rows.length).map fun j => .hs (base + j) 0 0 n 1))) (h4 : ∀ j r, rows[j]? = some r → H[base + j]? = some (.cells 0 (r.map (.int .i64))) ∧ r.length = n) (hN : N = names.length) (hM : M = acc.length) (hK : K = rows.length) :
    Rd H (.agg [.hs a ga 0 N 1, .hs b gb 0 M 1, .hs c gc 0 K 1]) (aDen ⟨.any, names, .any, acc, .any, rows.map fun r => (.any, r)⟩) := by
  subst hN hM hK
  refine Rd.agg (.cons ?_ (.cons ?_ (.cons ?_ .nil)))
  · exact Rd.whole (cs := names.map .str) h1 (by simp)
  · exact Rd.whole (cs := acc.map .bool) h2 (by simp)
  · have e : aRs .any (rows.map fun r => (SK.any, r)) = .sl .any rows.length (rows.map (aIs .any)) := by simp [aRs, Function.comp_def]
    show Rd H _ (aRs .any (rows.map fun r => (SK.any, r)))
    rw [e]
    refine .hs h3 rfl (by simp) ?_
    rw [List.drop_zero, List.take_of_length_le (by simp)]
    refine Rds.of_get (by simp) fun i a a' ha ha' => ?_
    rw [List.getElem?_map, Option.map_eq_some_iff] at ha ha'
    obtain ⟨j, hj, rfl⟩ := ha
    obtain ⟨r, hr, rfl⟩ := ha'
    obtain ⟨hj1, hj2⟩ := List.getElem?_eq_some_iff.1 hj
    simp only [List.getElem_range] at hj2
    subst hj2
    obtain ⟨k1, k2⟩ := h4 i r hr
    exact rd_row k1 k2

theorem track_Widen_pure (kn : SK) (d : Den) (names : List (List UInt8)) (hd : DenOk d) (hn : names.length * 16 ≤ 140737488351232) (hns : ∀ s ∈ names, s.length ≤ 140737488351232) :
    Pure Try.prog 67 [aDen d, aSs kn names] (.tup [aDen (widenR d names), .int .i64 (widenE d names)]) := by
  refine Pure.of_read (by simp [closeds, aDen_closed, aSs_closed]) (by simp [AV.closed, closeds, aDen_closed]) (track_Widen kn d names hd hn hns) ?_
  rintro o H' (⟨h, rfl⟩ | ⟨h, rfl, b0, b1, b2, b3, b4, b7, rfl⟩)
  · exact ⟨_, rfl, by rw [widenR_bad h]; exact .refl _⟩
  · refine ⟨_, rfl, ?_⟩
    rw [widenR_ok h, h]
    exact Rd.tup (.cons (wd_read d names b0 b1 b2 b3 b4 b7) (.cons (.refl _) .nil))

end Tab

/- Lists of numbers as slices. -/
namespace Tab
open Go
set_option maxRecDepth 10000
set_option linter.unusedVariables false
set_option linter.unusedSimpArgs false
set_option linter.unusedSectionVars false

def iW (w : List Nat) : List AV := (w.map fun n : Nat => (n : Int)).map (.int .i64)
theorem iW_snoc (w : List Nat) (a : Nat) : iW (w ++ [a]) = iW w ++ [.int .i64 (a : Int)] := by simp [iW]
theorem iW_length (w : List Nat) : (iW w).length = w.length := by simp [iW]
theorem iW_rn (f w) : rns f (iW w) = iW w := ints_rn f .i64 _
theorem iW_bel (n w) : bels n (iW w) := by rw [iW, bels_map]; intro x _; simp [AV.bel]
theorem iW_closed (w : List Nat) : closeds (iW w) := aIs_closed .any (w.map fun n : Nat => (n : Int))
theorem iW_set (M : List Nat) (q v : Nat) : (iW M).set q (.int .i64 (v : Nat)) = iW (M.set q v) := by
  simp [iW, List.map_set]

end Tab

/- Rows: right, their leaves, Pack, Unpack, Right. -/
namespace Tab
open Go Go.Proofs
set_option maxRecDepth 10000
set_option linter.unusedVariables false
set_option linter.unusedSimpArgs false
set_option linter.unusedSectionVars false

theorem row_right (k : SK) (r : List Int) (K : Nat) (hK : K ≤ 6) (hl : r.length = 2 ^ K) : Pure Try.prog 143 [aIs k r] (.bool (r.all fun x => decide (0 ≤ x))) := by
  have hp : 0 < 2 ^ K := Nat.two_pow_pos _
  have hb : 2 ^ K ≤ 2 ^ 6 := Nat.pow_le_pow_right (by omega) hK
  match r, hl with
  | [], hl => simp at hl; omega
  | a :: l, hl =>
  have hm := slices_Min k a l (by simp at hl; omega)
  have hz : ((a :: l).all fun x => decide (0 ≤ x)) = decide (minL a l ≥ 0) := by
    have := minL_lt l a
    rw [Bool.eq_iff_iff, List.all_eq_true, decide_eq_true_eq]
    constructor
    · intro h
      have : ¬ minL a l < 0 := fun k => by
        obtain ⟨x, hx, h2⟩ := this.1 k
        have := h x hx
        simp at this; omega
      omega
    · intro h x hx
      rw [decide_eq_true_eq]
      have : ¬ x < 0 := fun k => by have := this.2 ⟨x, hx, k⟩; omega
      omega
  rw [hz]
  generalize minL a l = m at *
  have he : ∀ N, (a :: l).length = N → aIs k (a :: l) = .sl k N ((a :: l).map (.int .i64)) := fun N h => by rw [aIs, h]
  have hc : K = 0 ∨ K = 1 ∨ K = 2 ∨ K = 3 ∨ K = 4 ∨ K = 5 ∨ K = 6 := by omega
  rcases hc with rfl | rfl | rfl | rfl | rfl | rfl | rfl
  · have hN : (a :: l).length = 1 := hl
    rw [he 1 hN] at hm
    refine Pure.of_sw 24 Try.func143 rfl Try.ntmps143 (by kernel_rfl) (Nat.le_of_ble_eq_true (by kernel_rfl)) (by simp [closeds, AV.closed, aSs_closed, aIs_closed, aBs_closed, aRs_closed, aDen_closed]) (by simp [AV.closed, closeds, aSs_closed, aIs_closed, aBs_closed, aRs_closed, aDen_closed]) ?_; refine SW.of_vc ?_
    refine VCode.ent (Ent.fr' (l := [(0, .sl k 1 ((a :: l).map (.int .i64)))]) (H' := []) ⟨he 1 hN, trivial⟩ (by kernel_rfl)) ?_
    repeat first | refine opsStep ?_ | refine codeStep ?_ | refine drawStep ?_
    refine callP hm ?_
    repeat first | refine opsStep ?_ | refine codeStep ?_ | refine drawStep ?_
    exact finB (b' := decide (m ≥ 0)) (by kernel_rfl) rfl
  · have hN : (a :: l).length = 2 := hl
    rw [he 2 hN] at hm
    refine Pure.of_sw 24 Try.func143 rfl Try.ntmps143 (by kernel_rfl) (Nat.le_of_ble_eq_true (by kernel_rfl)) (by simp [closeds, AV.closed, aSs_closed, aIs_closed, aBs_closed, aRs_closed, aDen_closed]) (by simp [AV.closed, closeds, aSs_closed, aIs_closed, aBs_closed, aRs_closed, aDen_closed]) ?_; refine SW.of_vc ?_
    refine VCode.ent (Ent.fr' (l := [(0, .sl k 2 ((a :: l).map (.int .i64)))]) (H' := []) ⟨he 2 hN, trivial⟩ (by kernel_rfl)) ?_
    repeat first | refine opsStep ?_ | refine codeStep ?_ | refine drawStep ?_
    refine callP hm ?_
    repeat first | refine opsStep ?_ | refine codeStep ?_ | refine drawStep ?_
    exact finB (b' := decide (m ≥ 0)) (by kernel_rfl) rfl
  · have hN : (a :: l).length = 4 := hl
    rw [he 4 hN] at hm
    refine Pure.of_sw 24 Try.func143 rfl Try.ntmps143 (by kernel_rfl) (Nat.le_of_ble_eq_true (by kernel_rfl)) (by simp [closeds, AV.closed, aSs_closed, aIs_closed, aBs_closed, aRs_closed, aDen_closed]) (by simp [AV.closed, closeds, aSs_closed, aIs_closed, aBs_closed, aRs_closed, aDen_closed]) ?_; refine SW.of_vc ?_
    refine VCode.ent (Ent.fr' (l := [(0, .sl k 4 ((a :: l).map (.int .i64)))]) (H' := []) ⟨he 4 hN, trivial⟩ (by kernel_rfl)) ?_
    repeat first | refine opsStep ?_ | refine codeStep ?_ | refine drawStep ?_
    refine callP hm ?_
    repeat first | refine opsStep ?_ | refine codeStep ?_ | refine drawStep ?_
    exact finB (b' := decide (m ≥ 0)) (by kernel_rfl) rfl
  · have hN : (a :: l).length = 8 := hl
    rw [he 8 hN] at hm
    refine Pure.of_sw 24 Try.func143 rfl Try.ntmps143 (by kernel_rfl) (Nat.le_of_ble_eq_true (by kernel_rfl)) (by simp [closeds, AV.closed, aSs_closed, aIs_closed, aBs_closed, aRs_closed, aDen_closed]) (by simp [AV.closed, closeds, aSs_closed, aIs_closed, aBs_closed, aRs_closed, aDen_closed]) ?_; refine SW.of_vc ?_
    refine VCode.ent (Ent.fr' (l := [(0, .sl k 8 ((a :: l).map (.int .i64)))]) (H' := []) ⟨he 8 hN, trivial⟩ (by kernel_rfl)) ?_
    repeat first | refine opsStep ?_ | refine codeStep ?_ | refine drawStep ?_
    refine callP hm ?_
    repeat first | refine opsStep ?_ | refine codeStep ?_ | refine drawStep ?_
    exact finB (b' := decide (m ≥ 0)) (by kernel_rfl) rfl
  · have hN : (a :: l).length = 16 := hl
    rw [he 16 hN] at hm
    refine Pure.of_sw 24 Try.func143 rfl Try.ntmps143 (by kernel_rfl) (Nat.le_of_ble_eq_true (by kernel_rfl)) (by simp [closeds, AV.closed, aSs_closed, aIs_closed, aBs_closed, aRs_closed, aDen_closed]) (by simp [AV.closed, closeds, aSs_closed, aIs_closed, aBs_closed, aRs_closed, aDen_closed]) ?_; refine SW.of_vc ?_
    refine VCode.ent (Ent.fr' (l := [(0, .sl k 16 ((a :: l).map (.int .i64)))]) (H' := []) ⟨he 16 hN, trivial⟩ (by kernel_rfl)) ?_
    repeat first | refine opsStep ?_ | refine codeStep ?_ | refine drawStep ?_
    refine callP hm ?_
    repeat first | refine opsStep ?_ | refine codeStep ?_ | refine drawStep ?_
    exact finB (b' := decide (m ≥ 0)) (by kernel_rfl) rfl
  · have hN : (a :: l).length = 32 := hl
    rw [he 32 hN] at hm
    refine Pure.of_sw 24 Try.func143 rfl Try.ntmps143 (by kernel_rfl) (Nat.le_of_ble_eq_true (by kernel_rfl)) (by simp [closeds, AV.closed, aSs_closed, aIs_closed, aBs_closed, aRs_closed, aDen_closed]) (by simp [AV.closed, closeds, aSs_closed, aIs_closed, aBs_closed, aRs_closed, aDen_closed]) ?_; refine SW.of_vc ?_
    refine VCode.ent (Ent.fr' (l := [(0, .sl k 32 ((a :: l).map (.int .i64)))]) (H' := []) ⟨he 32 hN, trivial⟩ (by kernel_rfl)) ?_
    repeat first | refine opsStep ?_ | refine codeStep ?_ | refine drawStep ?_
    refine callP hm ?_
    repeat first | refine opsStep ?_ | refine codeStep ?_ | refine drawStep ?_
    exact finB (b' := decide (m ≥ 0)) (by kernel_rfl) rfl
  · have hN : (a :: l).length = 64 := hl
    rw [he 64 hN] at hm
    refine Pure.of_sw 24 Try.func143 rfl Try.ntmps143 (by kernel_rfl) (Nat.le_of_ble_eq_true (by kernel_rfl)) (by simp [closeds, AV.closed, aSs_closed, aIs_closed, aBs_closed, aRs_closed, aDen_closed]) (by simp [AV.closed, closeds, aSs_closed, aIs_closed, aBs_closed, aRs_closed, aDen_closed]) ?_; refine SW.of_vc ?_
    refine VCode.ent (Ent.fr' (l := [(0, .sl k 64 ((a :: l).map (.int .i64)))]) (H' := []) ⟨he 64 hN, trivial⟩ (by kernel_rfl)) ?_
    repeat first | refine opsStep ?_ | refine codeStep ?_ | refine drawStep ?_
    refine callP hm ?_
    repeat first | refine opsStep ?_ | refine codeStep ?_ | refine drawStep ?_
    exact finB (b' := decide (m ≥ 0)) (by kernel_rfl) rfl

theorem row_leaf (c : Cb) (L : List Cb) (hL : L.length < 2^40) : ACall Try.prog 145 [.agg (cb3 c), .ref 0 0 0] [Blk.cells 0 [.hs 1 (L).length 0 (L).length 3], .cells (L).length (cc3 (L))] fun o H' => o = .ret (.tup []) ∧ H' = [Blk.cells 0 [.hs 1 (L ++ [c]).length 0 (L ++ [c]).length 3], .cells (L ++ [c]).length (cc3 (L ++ [c]))] := by
  have hl : (L ++ [c]).length = L.length + 1 := by simp
  have hcc : (cc3 L).length = L.length * 3 := cc3_length L
  refine ACall.of_sw 7 Try.func145 rfl Try.ntmps145 (by kernel_rfl) (Nat.le_of_ble_eq_true (by kernel_rfl)) ?_; refine SW.of_vc ?_
  repeat first | refine opsStep ?_ | refine codeStep ?_ | refine drawStep ?_
  refine guardE_of ⟨rfl, by show 0 + L.length * 3 ≤ (cc3 L).length; omega⟩ ?_
  repeat first | refine opsStep ?_ | refine codeStep ?_ | refine drawStep ?_
  refine guardE_of rfl ?_
  repeat first | refine opsStep ?_ | refine codeStep ?_ | refine drawStep ?_
  refine guardE_of ⟨by omega, by show (L.length + 1) * 24 ≤ 140737488355328; omega⟩ ?_
  repeat first | refine opsStep ?_ | refine codeStep ?_ | refine drawStep ?_
  refine finR (l := []) (H₁ := [Blk.cells 0 [.hs 1 (L ++ [c]).length 0 (L ++ [c]).length 3], .cells (L ++ [c]).length (cc3 (L ++ [c]))] ++ [.cells 0 (cb3 c), .cells 0 (cb3 c)]) (v := .tup []) trivial (Eq.trans (b := [.cells 0 [.hs 1 (L.length + 1) 0 (L.length + 1) 3], .cells (L.length + 1) (((cc3 L).drop 0).take (L.length * 3) ++ cb3 c), .cells 0 (cb3 c), .cells 0 (cb3 c)]) (by kernel_rfl) ?_) (Ent.drop (Nat.le_of_ble_eq_true (by kernel_rfl)) trivial ?_) (by kernel_rfl) ⟨rfl, rfl⟩
  · rw [hl, List.drop_zero, List.take_of_length_le (by omega), cc3_append]; simp [cc3]
  · simp [blksBel, Blk.bel, bels, AV.bel, closeds_bel _ (cc3_closed _)]

theorem or_pow {m k : Nat} (h : 2 ^ (k + 1) ∣ m) (hm : m ≤ 1000) (hk : k ≤ 6) : AV.int .i64 (orI m ((2 ^ k : Nat) : Int)) = AV.int .i64 ((m + 2 ^ k : Nat) : Int) := by
  have hb : 2 ^ k ≤ 2 ^ 6 := Nat.pow_le_pow_right (by omega) hk
  rw [orI_nat (by omega) (by omega), or_add h]

theorem row_leaves : ∀ (K : Nat), K ≤ 6 → ∀ (kk : SK) (r : List Int) (m b : Nat) (L : List Cb), r.length = 2 ^ K → 2 ^ K ∣ m → 2 ^ K ∣ b → m + 64 * K ≤ 1000 → b + 64 * K ≤ 1000 → L.length + 2 ^ K ≤ 2 ^ 40 →
    ACall Try.prog 144 [aIs kk r, .int .i64 m, .int .i64 b, .fn (.func 145) [] [.ref 0 0 0]] [Blk.cells 0 [.hs 1 (L).length 0 (L).length 3], .cells (L).length (cc3 (L))] fun o H' => o = .ret (.tup []) ∧ H' = [Blk.cells 0 [.hs 1 (L ++ cubR K r m b).length 0 (L ++ cubR K r m b).length 3], .cells (L ++ cubR K r m b).length (cc3 (L ++ cubR K r m b))]
  | 0, _, kk, r, m, b, L, hr, _, _, _, _, hL => by
    obtain ⟨x, rfl⟩ : ∃ x, r = [x] := by
      match r, hr with
      | [x], _ => exact ⟨x, rfl⟩
    have hlf := row_leaf ((m : Int), (b : Int), x) L (by omega)
    refine ACall.of_sw 58 Try.func144 rfl Try.ntmps144 (by kernel_rfl) (Nat.le_of_ble_eq_true (by kernel_rfl)) ?_; refine SW.of_vc ?_
    iterate 2 refine codeStep ?_
    iterate 5 refine opsStep ?_
    refine VCode.ent (Ent.fr' (l := [(0, aIs kk [x]), (1, .int .i64 m), (2, .int .i64 b), (3, .fn (.func 145) [] [.ref 0 0 0]), (8, .int .i64 0)]) (H' := [Blk.cells 0 [.hs 1 (L).length 0 (L).length 3], .cells (L).length (cc3 (L))]) ⟨(by kernel_rfl), (by kernel_rfl), (by kernel_rfl), (by kernel_rfl), (by kernel_rfl), trivial⟩ (by kernel_rfl)) ?_
    repeat first | refine opsStep ?_ | refine codeStep ?_ | refine drawStep ?_
    refine callH hlf ?_
    repeat first | refine opsStep ?_ | refine codeStep ?_ | refine drawStep ?_
    exact finR (l := []) (H₁ := [Blk.cells 0 [.hs 1 (L ++ [((m : Int), (b : Int), x)]).length 0 (L ++ [((m : Int), (b : Int), x)]).length 3], .cells (L ++ [((m : Int), (b : Int), x)]).length (cc3 (L ++ [((m : Int), (b : Int), x)]))]) (v := .tup []) trivial (by kernel_rfl) (Ent.refl _ _ _) (by kernel_rfl) ⟨rfl, rfl⟩
  | K + 1, hK, kk, r, m, b, L, hr, hdm, hdb, hm, hb, hL => by
    have hp : 2 ^ (K + 1) = 2 ^ K + 2 ^ K := by rw [Nat.pow_succ]; omega
    have hq : 2 ^ K ≤ 2 ^ 6 := Nat.pow_le_pow_right (by omega) (by omega)
    have hpos : 0 < 2 ^ K := Nat.two_pow_pos _
    have om := or_pow hdm (by omega) (show K ≤ 6 by omega)
    have ob := or_pow hdb (by omega) (show K ≤ 6 by omega)
    have hd : 2 ^ K ∣ 2 ^ (K + 1) := ⟨2, by omega⟩
    have i0 := row_leaves K (by omega) kk.cut (r.take (2 ^ K)) m b L (by simp; omega) (Nat.dvd_trans hd hdm) (Nat.dvd_trans hd hdb) (by omega) (by omega) (by omega)
    have hln := cubR_len K (r.take (2 ^ K)) (m + 2 ^ K) b
    have i1 := row_leaves K (by omega) kk.cut (r.take (2 ^ K)) (m + 2 ^ K) b L (by simp; omega) (Nat.dvd_add (Nat.dvd_trans hd hdm) (Nat.dvd_refl _)) (Nat.dvd_trans hd hdb) (by omega) (by omega) (by omega)
    have i2 := row_leaves K (by omega) kk.cut (r.drop (2 ^ K)) (m + 2 ^ K) (b + 2 ^ K) (L ++ cubR K (r.take (2 ^ K)) (m + 2 ^ K) b) (by simp; omega) (Nat.dvd_add (Nat.dvd_trans hd hdm) (Nat.dvd_refl _)) (Nat.dvd_add (Nat.dvd_trans hd hdb) (Nat.dvd_refl _)) (by omega) (by omega) (by rw [List.length_append]; omega)
    rw [← om] at i1 i2
    rw [← ob] at i2
    have hEq := slices_Equal_I kk.cut kk.cut (r.take (2 ^ K)) (r.drop (2 ^ K)) (by simp; omega) (by simp; omega)
    have hcub : cubR (K + 1) r m b = if r.take (2 ^ K) = r.drop (2 ^ K) then cubR K (r.take (2 ^ K)) m b else cubR K (r.take (2 ^ K)) (m + 2 ^ K) b ++ cubR K (r.drop (2 ^ K)) (m + 2 ^ K) (b + 2 ^ K) := rfl
    generalize cubR (K + 1) r m b = C at *
    generalize cubR K (r.take (2 ^ K)) (m + 2 ^ K) b = C1 at *
    generalize cubR K (r.drop (2 ^ K)) (m + 2 ^ K) (b + 2 ^ K) = C2 at *
    generalize cubR K (r.take (2 ^ K)) m b = C0 at *
    generalize 2 ^ K = h at *
    have e1 : aIs kk.cut (r.take h) = .sl kk.cut ((h : Int).toNat - (0 : Int).toNat) (((r.map (AV.int .i64)).drop ((0 : Int).toNat * 1)).take (((h : Int).toNat - (0 : Int).toNat) * 1)) := by
      rw [aIs]; simp; omega
    have e2 : aIs kk.cut (r.drop h) = .sl kk.cut ((r.length : Int).toNat - (h : Int).toNat) (((r.map (AV.int .i64)).drop ((h : Int).toNat * 1)).take (((r.length : Int).toNat - (h : Int).toNat) * 1)) := by
      rw [aIs]; simp; rw [List.take_of_length_le (by simp)]
    rw [e1, e2] at hEq
    rw [e1] at i0 i1
    rw [e2] at i2
    have hw : IntKind.wrap .i64 ((r.length : Int).tdiv 2) = (h : Int) := by
      rw [show (r.length : Int) = 2 * (h : Int) by omega, Int.mul_tdiv_cancel_left _ (by decide), IntWalk.i64_in _ (by omega)]
    refine ACall.of_sw 58 Try.func144 rfl Try.ntmps144 (by kernel_rfl) (Nat.le_of_ble_eq_true (by kernel_rfl)) ?_; refine SW.of_vc ?_
    iterate 2 refine codeStep ?_
    iterate 5 refine opsStep ?_
    refine VCode.ent (Ent.fr' (l := [(0, aIs kk r), (1, .int .i64 m), (2, .int .i64 b), (3, .fn (.func 145) [] [.ref 0 0 0]), (8, .int .i64 h)]) (H' := [Blk.cells 0 [.hs 1 (L).length 0 (L).length 3], .cells (L).length (cc3 (L))]) ⟨(by kernel_rfl), (by kernel_rfl), (by kernel_rfl), (by kernel_rfl), congrArg (AV.int .i64) hw, trivial⟩ (by kernel_rfl)) ?_
    repeat first | refine opsStep ?_ | refine codeStep ?_ | refine drawStep ?_
    refine decB_dec (fun h0 => ?_) (fun h0 => ?_)
    · exact absurd h0 (by omega)
    repeat first | refine opsStep ?_ | refine codeStep ?_ | refine drawStep ?_
    refine SW.drawn rfl (by kernel_rfl) ?_
    repeat first | refine opsStep ?_ | refine codeStep ?_ | refine drawStep ?_
    refine guardE_of (by simp; omega) ?_
    repeat first | refine opsStep ?_ | refine codeStep ?_ | refine drawStep ?_
    refine guardE_of (by simp; omega) ?_
    repeat first | refine opsStep ?_ | refine codeStep ?_ | refine drawStep ?_
    refine .inl ⟨_, _, [], hEq, RdsN_refl _, .inr rfl, none_need, ?_⟩
    repeat first | refine opsStep ?_ | refine codeStep ?_ | refine drawStep ?_
    refine ⟨by kernel_rfl, ?_⟩
    repeat first | refine opsStep ?_ | refine codeStep ?_ | refine drawStep ?_
    refine decB_dec (fun heq => ?_) (fun heq => ?_)
    · repeat first | refine opsStep ?_ | refine codeStep ?_ | refine drawStep ?_
      refine guardE_of (by simp; omega) ?_
      repeat first | refine opsStep ?_ | refine codeStep ?_ | refine drawStep ?_
      refine callH i0 ?_
      repeat first | refine opsStep ?_ | refine codeStep ?_ | refine drawStep ?_
      refine finR (l := []) (H₁ := [Blk.cells 0 [.hs 1 (L ++ C0).length 0 (L ++ C0).length 3], .cells (L ++ C0).length (cc3 (L ++ C0))]) (v := .tup []) trivial (by kernel_rfl) (Ent.refl _ _ _) (by kernel_rfl) ⟨rfl, ?_⟩
      rw [hcub, if_pos heq]
    · repeat first | refine opsStep ?_ | refine codeStep ?_ | refine drawStep ?_
      refine guardE_of (by simp; omega) ?_
      repeat first | refine opsStep ?_ | refine codeStep ?_ | refine drawStep ?_
      refine callH i1 ?_
      repeat first | refine opsStep ?_ | refine codeStep ?_ | refine drawStep ?_
      refine guardE_of (by simp; omega) ?_
      repeat first | refine opsStep ?_ | refine codeStep ?_ | refine drawStep ?_
      refine callH i2 ?_
      repeat first | refine opsStep ?_ | refine codeStep ?_ | refine drawStep ?_
      refine finR (l := []) (H₁ := [Blk.cells 0 [.hs 1 ((L ++ C1) ++ C2).length 0 ((L ++ C1) ++ C2).length 3], .cells ((L ++ C1) ++ C2).length (cc3 ((L ++ C1) ++ C2))]) (v := .tup []) trivial (by kernel_rfl) (Ent.refl _ _ _) (by kernel_rfl) ⟨rfl, ?_⟩
      rw [hcub, if_neg heq, List.append_assoc]

end Tab

/- Rows: Pack, Unpack, Right. -/
namespace Tab
open Go Go.Proofs
set_option maxRecDepth 10000
set_option linter.unusedVariables false
set_option linter.unusedSimpArgs false
set_option linter.unusedSectionVars false

theorem ints_cl (l : List Int) : closeds (l.map (.int .i64)) := aIs_closed .any l
theorem cubR_ok : ∀ (K : Nat), K ≤ 6 → ∀ (r : List Int) (m b : Nat), (∀ x ∈ r, okI x) → m + 64 * K ≤ 1000 → b + 64 * K ≤ 1000 → ∀ c ∈ cubR K r m b, okC c
  | 0, _, r, m, b, hr, hm, hb, c, hc => by
    simp only [cubR, List.mem_singleton] at hc
    subst hc
    refine ⟨⟨by show -(2 ^ 63) ≤ (m : Int); omega, by show (m : Int) < 2 ^ 63; omega⟩, ⟨by show -(2 ^ 63) ≤ (b : Int); omega, by show (b : Int) < 2 ^ 63; omega⟩, ?_⟩
    show okI (r.getD 0 0)
    cases r with
    | nil => exact ⟨by decide, by decide⟩
    | cons x r => exact hr x (by simp)
  | K + 1, hK, r, m, b, hr, hm, hb, c, hc => by
    have hq : 2 ^ K ≤ 2 ^ 6 := Nat.pow_le_pow_right (by omega) (by omega)
    have ht : ∀ x ∈ r.take (2 ^ K), okI x := fun x h => hr x (List.mem_of_mem_take h)
    have hd : ∀ x ∈ r.drop (2 ^ K), okI x := fun x h => hr x (List.mem_of_mem_drop h)
    rw [cubR] at hc
    split at hc
    · exact cubR_ok K (by omega) _ m b ht (by omega) (by omega) c hc
    · rcases List.mem_append.1 hc with hc | hc
      · exact cubR_ok K (by omega) _ _ b ht (by omega) (by omega) c hc
      · exact cubR_ok K (by omega) _ _ _ hd (by omega) (by omega) c hc
theorem atC_ok {cs : List Cb} (h : ∀ c ∈ cs, okC c) (i : Int) : okI ((atC cs i).getD 0) := by
  rw [atC]
  cases e : cs.find? (hitC i) with
  | none => exact ⟨by decide, by decide⟩
  | some c => exact (h c (List.mem_of_find?_eq_some e)).2.2
theorem rowC_ok {cs : List Cb} (h : ∀ c ∈ cs, okC c) (k : Nat) : ∀ x ∈ rowC cs k, okI x := by
  intro x hx
  obtain ⟨i, _, rfl⟩ := List.mem_map.1 hx
  exact atC_ok h i

theorem row_Pack_bad (k : SK) (r : List Int) (K : Nat) (hK : K ≤ 6) (hl : r.length = 2 ^ K) (h : (r.all fun x => decide (0 ≤ x)) = false) : Pure Try.prog 111 [aIs k r] (.tup [.sl .nil 0 [], .int .i64 3]) := by
  have hr := row_right k r K hK hl
  rw [h] at hr
  refine Pure.of_sw 12 Try.func111 rfl Try.ntmps111 (by kernel_rfl) (Nat.le_of_ble_eq_true (by kernel_rfl)) (by simp [closeds, AV.closed, aSs_closed, aIs_closed, aBs_closed, aRs_closed, aDen_closed]) (by simp [AV.closed, closeds, aSs_closed, aIs_closed, aBs_closed, aRs_closed, aDen_closed]) ?_; refine SW.of_vc ?_
  repeat first | refine opsStep ?_ | refine codeStep ?_ | refine drawStep ?_
  refine callP hr ?_
  repeat first | refine opsStep ?_ | refine codeStep ?_ | refine drawStep ?_
  exact finV (v' := .tup [.sl .nil 0 [], .int .i64 3]) (by kernel_rfl) rfl
theorem row_Pack_ok (k : SK) (r : List Int) (K : Nat) (hK : K ≤ 6) (hl : r.length = 2 ^ K) (h : (r.all fun x => decide (0 ≤ x)) = true) : Pure Try.prog 111 [aIs k r] (.tup [aCs .any (cubR K r 0 0), .int .i64 0]) := by
  have hr := row_right k r K hK hl
  rw [h] at hr
  have hq : 2 ^ K ≤ 2 ^ 6 := Nat.pow_le_pow_right (by omega) (by omega)
  have hlv := row_leaves K hK k r 0 0 [] hl (Nat.dvd_zero _) (Nat.dvd_zero _) (by omega) (by omega) (by simp; omega)
  rw [List.nil_append] at hlv
  generalize cubR K r 0 0 = C at *
  refine Pure.of_read (by simp [closeds, aIs_closed]) (by simp [AV.closed, closeds, aCs_closed]) (R := fun o H' => o = .ret (.tup [.hs 1 C.length 0 C.length 3, .int .i64 0]) ∧ H' = [Blk.cells 0 [.hs 1 (C).length 0 (C).length 3], .cells (C).length (cc3 (C))]) ?_ ?_
  · refine ACall.of_sw 12 Try.func111 rfl Try.ntmps111 (by kernel_rfl) (Nat.le_of_ble_eq_true (by kernel_rfl)) ?_; refine SW.of_vc ?_
    refine codeStep ?_
    refine codeStep ?_
    iterate 3 refine opsStep ?_
    refine VCode.upto (fr [(0, aIs k r)]) [] ?_ ?_
    · repeat first | refine opsStep ?_ | refine codeStep ?_ | refine drawStep ?_
      refine callP hr ?_
      repeat first | refine opsStep ?_ | refine codeStep ?_ | refine drawStep ?_
      show Ent _ _ _ _ _
      exact Ent.fr' ⟨(by kernel_rfl), trivial⟩ (by kernel_rfl)
    refine VCode.upto (fr [(0, aIs k r), (4, .ref 0 0 0)]) [.cells 0 [.hs 1 0 0 0 3], .cells 0 []] ?_ ?_
    · repeat first | refine opsStep ?_ | refine codeStep ?_ | refine drawStep ?_
      show Ent _ _ _ _ _
      exact ((Ent.fr' (l := [(0, aIs k r), (4, .ref 0 0 0)]) (H' := [.cells 0 [.sl .nil 0 []]]) ⟨(by kernel_rfl), (by kernel_rfl), trivial⟩ (by kernel_rfl)).trans (Ent.nilCell 0 0 3 rfl rfl)).to rfl
    repeat first | refine opsStep ?_ | refine codeStep ?_ | refine drawStep ?_
    refine callH hlv ?_
    repeat first | refine opsStep ?_ | refine codeStep ?_ | refine drawStep ?_
    exact finR (l := [(2, .hs 1 C.length 0 C.length 3), (3, .int .i64 0)]) (H₁ := [Blk.cells 0 [.hs 1 (C).length 0 (C).length 3], .cells (C).length (cc3 (C))]) (v := .tup [.hs 1 C.length 0 C.length 3, .int .i64 0]) ⟨(by kernel_rfl), (by kernel_rfl), trivial⟩ (by kernel_rfl) (Ent.refl _ _ _) (by kernel_rfl) ⟨rfl, rfl⟩
  · rintro o H' ⟨rfl, rfl⟩
    exact ⟨_, rfl, .tup (.cons (Rd.whole rfl (cc3_length C).symm) (.cons (.refl _) .nil))⟩

def rowU (cs : List Cb) (k : Nat) : AV := if cubesOk cs k = true then .tup [aIs .any (rowC cs k), .int .i64 0] else .tup [.sl .nil 0 [], .int .i64 3]
theorem cubesOk_iff {cs k} : cubesOk cs k = true ↔ cs.length ≤ 2 ^ k ∧ (∀ i : Nat, i < 2 ^ k → (atC cs i).isSome = true) ∧ ((rowC cs k).all fun x => decide (0 ≤ x)) = true ∧ cubR k (rowC cs k) 0 0 = cs := by
  simp only [cubesOk, Bool.and_eq_true, decide_eq_true_eq, List.all_eq_true, List.mem_range]
  exact ⟨fun ⟨⟨⟨h1, h2⟩, h3⟩, h4⟩ => ⟨h1, h2, h3, h4⟩, fun ⟨h1, h2, h3, h4⟩ => ⟨⟨⟨h1, h2⟩, h3⟩, h4⟩⟩

theorem row_Unpack (kc : SK) (cs : List Cb) (k : Nat) (hk : k ≤ 6) (hl : cs.length < 2^40) (ho : ∀ c ∈ cs, okC c) : Pure Try.prog 76 [aCs kc cs, .int .i64 k] (rowU cs k) := by
  have hq : 2 ^ k ≤ 2 ^ 6 := Nat.pow_le_pow_right (by omega) (by omega)
  have hb := shl_one (k := k) (by omega)
  have hat := fun i : Nat => row_At kc cs i (by omega)
  have hrl := rowC_length cs k
  have hio := cubesOk_iff (cs := cs) (k := k)
  have hpb := row_Pack_bad .any (rowC cs k) k hk hrl
  have hpo := row_Pack_ok .any (rowC cs k) k hk hrl
  have hE := slices_Equal_C .any kc (cubR k (rowC cs k) 0 0) cs (by have := (cubR_len k (rowC cs k) 0 0).1; omega) (by omega) (cubR_ok k hk _ 0 0 (rowC_ok ho k) (by omega) (by omega)) ho
  have hfull : partL (fun i => (atC cs i).getD 0) (2 ^ k) (2 ^ k) = rowC cs k := partL_full _ _
  have hR : aIs .any (rowC cs k) = .sl .any (2 ^ k) ((rowC cs k).map (.int .i64)) := by rw [aIs, hrl]
  have hv : rowU cs k = if cubesOk cs k = true then .tup [.sl .any (2 ^ k) ((rowC cs k).map (.int .i64)), .int .i64 0] else .tup [.sl .nil 0 [], .int .i64 3] := by rw [rowU, hR]
  rw [hR] at hpb hpo
  rw [hv]
  generalize cubR k (rowC cs k) 0 0 = C at *
  generalize rowC cs k = r at *
  generalize cubesOk cs k = ok at *
  generalize 2 ^ k = q at *
  refine Pure.of_read (by simp [closeds, aCs_closed, AV.closed]) (by split <;> simp [AV.closed, closeds, ints_cl]) (R := fun o H' => (ok = false ∧ o = .ret (.tup [.sl .nil 0 [], .int .i64 3])) ∨ (ok = true ∧ o = .ret (.tup [.hs 0 0 0 q 1, .int .i64 0]) ∧ H' = [.fro 0 (r.map (.int .i64))])) ?_ ?_
  · refine ACall.of_sw 59 Try.func76 rfl Try.ntmps76 (by kernel_rfl) (Nat.le_of_ble_eq_true (by kernel_rfl)) ?_; refine SW.of_vc ?_
    repeat first | refine opsStep ?_ | refine codeStep ?_ | refine drawStep ?_
    refine decB_dec (fun h => ?_) (fun h => ?_)
    · exact absurd h (by omega)
    repeat first | refine opsStep ?_ | refine codeStep ?_ | refine drawStep ?_
    refine decB_dec (fun h => ?_) (fun h => ?_)
    · repeat first | refine opsStep ?_ | refine codeStep ?_ | refine drawStep ?_
      refine finR (l := [(4, .sl .nil 0 []), (5, .int .i64 3)]) (H₁ := []) (v := .tup [.sl .nil 0 [], .int .i64 3]) ⟨(by kernel_rfl), (by kernel_rfl), trivial⟩ (by kernel_rfl) (Ent.refl _ _ _) (by kernel_rfl) (.inl ⟨?_, rfl⟩)
      rw [← Bool.not_eq_true, hio]
      rintro ⟨h1, _⟩
      rw [hb] at h; omega
    have hcl : cs.length ≤ q := by rw [hb] at h; omega
    repeat first | refine opsStep ?_ | refine codeStep ?_ | refine drawStep ?_
    refine guardE_of (by rw [hb]; exact ⟨by omega, by omega, by show (8 : Int) * (q : Int) ≤ 281474976710656; omega, by omega⟩) ?_
    repeat first | refine opsStep ?_ | refine codeStep ?_ | refine drawStep ?_
    refine loopE_of (ι := {a : Nat // a ≤ q ∧ ∀ i : Nat, i < a → (atC cs i).isSome = true})
      (fun a => (fr [(0, aCs kc cs), (7, .hs 0 0 0 q 1), (28, .int .i64 q), (29, .int .i64 a.1)], [.cells 0 ((partL (fun i => (atC cs i).getD 0) q a.1).map (.int .i64))]))
      (fun a => q - a.1) ⟨0, by omega, fun _ h => by omega⟩ (Ent.fr' ⟨(by kernel_rfl), ?_, ?_, (by kernel_rfl), trivial⟩ ?_) ?_
    · refine Eq.trans (b := .hs 0 0 0 (IntKind.wrap .i64 (1 * 2 ^ (min (k : Int).toNat (IntKind.bits .i64)))).toNat 1) (by kernel_rfl) ?_
      rw [hb]; rfl
    · refine Eq.trans (b := .int .i64 ((IntKind.wrap .i64 (1 * 2 ^ (min (k : Int).toNat (IntKind.bits .i64)))).toNat : Nat)) (by kernel_rfl) ?_
      rw [hb]; rfl
    · refine Eq.trans (b := [.cells 0 (reps [.int .i64 0] (IntKind.wrap .i64 (1 * 2 ^ (min (k : Int).toNat (IntKind.bits .i64)))).toNat)]) (by kernel_rfl) ?_
      rw [hb, reps_one, partL_zero]; simp
    rintro ⟨a, ha, hsome⟩
    repeat first | refine opsStep ?_ | refine codeStep ?_ | refine drawStep ?_
    refine decB_dec (fun g => ?_) (fun g => ?_)
    · have haq : a < q := by have := g; simp at this; omega
      have hat := hat a
      cases hx : atC cs a with
      | none =>
        rw [hx] at hat
        repeat first | refine opsStep ?_ | refine codeStep ?_ | refine drawStep ?_
        refine callP hat ?_
        repeat first | refine opsStep ?_ | refine codeStep ?_ | refine drawStep ?_
        refine finR (l := [(4, .sl .nil 0 []), (5, .int .i64 3)]) (H₁ := [.cells 0 ((partL (fun i => (atC cs i).getD 0) q a).map (.int .i64))]) (v := .tup [.sl .nil 0 [], .int .i64 3]) ⟨(by kernel_rfl), (by kernel_rfl), trivial⟩ (by kernel_rfl) (Ent.refl _ _ _) (by kernel_rfl) (.inl ⟨?_, rfl⟩)
        rw [← Bool.not_eq_true, hio]
        rintro ⟨_, h2, _⟩
        have := h2 a haq
        rw [hx] at this; simp at this
      | some x =>
        rw [hx] at hat
        repeat first | refine opsStep ?_ | refine codeStep ?_ | refine drawStep ?_
        refine callP hat ?_
        repeat first | refine opsStep ?_ | refine codeStep ?_ | refine drawStep ?_
        refine guardE_of (by simp; omega) ?_
        repeat first | refine opsStep ?_ | refine codeStep ?_ | refine drawStep ?_
        refine guardE_of ⟨rfl, by decide, by show 0 + a * 1 + 1 ≤ ((partL (fun i => (atC cs i).getD 0) q a).map (AV.int .i64)).length; simp [partL_length]; omega⟩ ?_
        repeat first | refine opsStep ?_ | refine codeStep ?_ | refine drawStep ?_
        refine ⟨⟨a + 1, by omega, fun i hi => ?_⟩, (by show q - (a + 1) < q - a; omega), Ent.fr' ⟨(by kernel_rfl), (by kernel_rfl), (by kernel_rfl), inc_slot (i := a) (by omega), trivial⟩ ?_⟩
        · by_cases e : i = a
          · subst e; rw [hx]; rfl
          · exact hsome i (by omega)
        · refine Eq.trans (b := [Blk.cells 0 (over ((partL (fun i => (atC cs i).getD 0) q a).map (.int .i64)) (0 + a * 1) [.int .i64 x])]) (by kernel_rfl) ?_
          show _ = [Blk.cells 0 ((partL (fun i => (atC cs i).getD 0) q (a + 1)).map (.int .i64))]
          rw [Nat.zero_add, Nat.mul_one, over_one (by simp [partL_length]; omega), ← partL_step, List.map_set, hx]
          rfl
    · have haq : a = q := by have := g; simp at this; omega
      subst haq
      rw [hfull]
      cases hp : r.all fun x => decide (0 ≤ x) with
      | false =>
        repeat first | refine opsStep ?_ | refine codeStep ?_ | refine drawStep ?_
        refine callZ 0 (g := 0) (cs := r.map (.int .i64)) (by kernel_rfl) (hpb hp) (.hs (b := 0) (g := 0) rfl (by simp [hrl]) .nil) ?_
        repeat first | refine opsStep ?_ | refine codeStep ?_ | refine drawStep ?_
        refine finR (l := [(4, .sl .nil 0 []), (5, .int .i64 3)]) (H₁ := [.fro 0 (r.map (.int .i64))]) (v := .tup [.sl .nil 0 [], .int .i64 3]) ⟨(by kernel_rfl), (by kernel_rfl), trivial⟩ (by kernel_rfl) (Ent.refl _ _ _) (by kernel_rfl) (.inl ⟨?_, rfl⟩)
        rw [← Bool.not_eq_true, hio]
        rintro ⟨_, _, h3, _⟩
        rw [hp] at h3; simp at h3
      | true =>
        repeat first | refine opsStep ?_ | refine codeStep ?_ | refine drawStep ?_
        refine callZ 0 (g := 0) (cs := r.map (.int .i64)) (by kernel_rfl) (hpo hp) (.hs (b := 0) (g := 0) rfl (by simp [hrl]) .nil) ?_
        repeat first | refine opsStep ?_ | refine codeStep ?_ | refine drawStep ?_
        by_cases he : C = cs
        · rw [decide_eq_true he] at hE
          refine callP hE ?_
          repeat first | refine opsStep ?_ | refine codeStep ?_ | refine drawStep ?_
          refine finR (l := [(4, .hs 0 0 0 a 1), (5, .int .i64 0)]) (H₁ := [.fro 0 (r.map (.int .i64))]) (v := .tup [.hs 0 0 0 a 1, .int .i64 0]) ⟨(by kernel_rfl), (by kernel_rfl), trivial⟩ (by kernel_rfl) (Ent.refl _ _ _) (by kernel_rfl) (.inr ⟨hio.2 ⟨hcl, hsome, hp, he⟩, rfl, rfl⟩)
        · rw [decide_eq_false he] at hE
          refine callP hE ?_
          repeat first | refine opsStep ?_ | refine codeStep ?_ | refine drawStep ?_
          refine finR (l := [(4, .sl .nil 0 []), (5, .int .i64 3)]) (H₁ := [.fro 0 (r.map (.int .i64))]) (v := .tup [.sl .nil 0 [], .int .i64 3]) ⟨(by kernel_rfl), (by kernel_rfl), trivial⟩ (by kernel_rfl) (Ent.refl _ _ _) (by kernel_rfl) (.inl ⟨?_, rfl⟩)
          rw [← Bool.not_eq_true, hio]
          rintro ⟨_, _, _, h4⟩
          exact he h4
  · rintro o H' (⟨h, rfl⟩ | ⟨h, rfl, rfl⟩)
    · exact ⟨_, rfl, by rw [h]; exact .refl _⟩
    · refine ⟨_, rfl, ?_⟩
      rw [h]
      exact .tup (.cons (Rd.frozen rfl (by simp [hrl])) (.cons (.refl _) .nil))

end Tab

/- Tables: rowOf, Check, Unpack. -/
namespace Tab
open Go Go.Proofs
set_option maxRecDepth 10000
set_option linter.unusedVariables false
set_option linter.unusedSimpArgs false
set_option linter.unusedSectionVars false

theorem rowU_ok {cs k} (h : cubesOk cs k = true) : rowU cs k = .tup [aIs .any (rowC cs k), .int .i64 0] := by rw [rowU, if_pos h]
theorem rowU_bad {cs k} (h : cubesOk cs k = false) : rowU cs k = .tup [.sl .nil 0 [], .int .i64 3] := by rw [rowU, h]; rfl
theorem row_Right (kc : SK) (cs : List Cb) (k n : Nat) (hk : k ≤ 6) (hl : cs.length < 2^40) (ho : ∀ c ∈ cs, okC c) : Pure Try.prog 109 [aCs kc cs, .int .i64 k, .int .i64 n] (.bool (cubesOk cs k && (rowC cs k).all fun x => decide (x < n))) := by
  have hu := row_Unpack kc cs k hk hl ho
  have hq : 2 ^ k ≤ 2 ^ 6 := Nat.pow_le_pow_right (by omega) (by omega)
  have hp : 0 < 2 ^ k := Nat.two_pow_pos _
  have hrl := rowC_length cs k
  cases hc : cubesOk cs k with
  | false =>
    rw [rowU_bad hc] at hu
    refine Pure.of_sw 23 Try.func109 rfl Try.ntmps109 (by kernel_rfl) (Nat.le_of_ble_eq_true (by kernel_rfl)) (by simp [closeds, AV.closed, aSs_closed, aIs_closed, aBs_closed, aRs_closed, aDen_closed, aCs_closed, aAut_closed]) (by simp [AV.closed, closeds, aSs_closed, aIs_closed, aBs_closed, aRs_closed, aDen_closed, aCs_closed, aAut_closed]) ?_; refine SW.of_vc ?_
    repeat first | refine opsStep ?_ | refine codeStep ?_ | refine drawStep ?_
    refine callP hu ?_
    repeat first | refine opsStep ?_ | refine codeStep ?_ | refine drawStep ?_
    exact finB (b' := false) (by kernel_rfl) (by simp)
  | true =>
    rw [rowU_ok hc] at hu
    obtain ⟨x, l, hr⟩ : ∃ x l, rowC cs k = x :: l := by
      cases e : rowC cs k with
      | nil => rw [e] at hrl; simp at hrl; omega
      | cons x l => exact ⟨x, l, rfl⟩
    rw [hr] at hu hrl ⊢
    have hm := slices_Max .any x l (by simp at hrl; omega)
    have hz : ((x :: l).all fun y => decide (y < (n : Int))) = decide (maxL x l < (n : Int)) := by
      have := maxL_ge n l x
      rw [Bool.eq_iff_iff, List.all_eq_true, decide_eq_true_eq]
      constructor
      · intro h
        have : ¬ (n : Int) ≤ maxL x l := fun k => by
          obtain ⟨y, hy, h2⟩ := this.1 k
          have := h y hy
          simp at this; omega
        omega
      · intro h y hy
        rw [decide_eq_true_eq]
        have : ¬ (n : Int) ≤ y := fun k => by have := this.2 ⟨y, hy, k⟩; omega
        omega
    rw [hz]
    generalize maxL x l = m at *
    refine Pure.of_sw 23 Try.func109 rfl Try.ntmps109 (by kernel_rfl) (Nat.le_of_ble_eq_true (by kernel_rfl)) (by simp [closeds, AV.closed, aSs_closed, aIs_closed, aBs_closed, aRs_closed, aDen_closed, aCs_closed, aAut_closed]) (by simp [AV.closed, closeds, aSs_closed, aIs_closed, aBs_closed, aRs_closed, aDen_closed, aCs_closed, aAut_closed]) ?_; refine SW.of_vc ?_
    repeat first | refine opsStep ?_ | refine codeStep ?_ | refine drawStep ?_
    refine callP hu ?_
    repeat first | refine opsStep ?_ | refine codeStep ?_ | refine drawStep ?_
    refine callP hm ?_
    repeat first | refine opsStep ?_ | refine codeStep ?_ | refine drawStep ?_
    exact finB (b' := decide (m < (n : Int))) (by kernel_rfl) (by simp)

structure AutOk (a : Aut) : Prop where
  tracks : a.tracks.length * 16 ≤ 140737488351232
  names : ∀ s ∈ a.tracks, s.length ≤ 140737488351232
  accept : a.accept.length ≤ 140737488351232
  starts : a.starts.length * 8 ≤ 140737488351232
  arena : a.arena.length * 24 ≤ 140737488351232
  cubes : ∀ c ∈ a.arena, okC c

theorem table_rowOf (a : Aut) (q : Nat) (hq : q < 2^60) (h1 : a.starts[q]? = some (a.st q : Int)) (h2 : a.starts[q + 1]? = some (a.st (q + 1) : Int)) (h3 : a.st q ≤ a.st (q + 1)) (h4 : a.st (q + 1) ≤ a.arena.length) :
    Pure Try.prog 77 [aAut a, .int .i64 q] (aCs a.ck.cut (a.row q)) := by
  have l1 := (List.getElem?_eq_some_iff.1 h1).1
  have l2 := (List.getElem?_eq_some_iff.1 h2).1
  have hw : IntKind.wrap .i64 ((q : Int) + 1) = ((q + 1 : Nat) : Int) := by rw [IntWalk.i64_in _ (by omega)]; simp
  have hrow : aCs a.ck.cut (a.row q) = .sl a.ck.cut ((a.st (q + 1) : Int).toNat - (a.st q : Int).toNat) (((cc3 a.arena).drop ((a.st q : Int).toNat * 3)).take (((a.st (q + 1) : Int).toNat - (a.st q : Int).toNat) * 3)) := by
    rw [Int.toNat_natCast, Int.toNat_natCast, cc3_drop, cc3_take, aCs, Aut.row]
    congr 1
    simp; omega
  generalize a.st q = x at *
  generalize a.st (q + 1) = y at *
  refine Pure.of_sw 19 Try.func77 rfl Try.ntmps77 (by kernel_rfl) (Nat.le_of_ble_eq_true (by kernel_rfl)) (by simp [closeds, AV.closed, aSs_closed, aIs_closed, aBs_closed, aRs_closed, aDen_closed, aCs_closed, aAut_closed]) (by simp [AV.closed, closeds, aSs_closed, aIs_closed, aBs_closed, aRs_closed, aDen_closed, aCs_closed, aAut_closed]) ?_; refine SW.of_vc ?_
  repeat first | refine opsStep ?_ | refine codeStep ?_ | refine drawStep ?_
  refine SW.drawn rfl (by kernel_rfl) ?_
  repeat first | refine opsStep ?_ | refine codeStep ?_ | refine drawStep ?_
  refine guardE_of (by simp; omega) ?_
  repeat first | refine opsStep ?_ | refine codeStep ?_ | refine drawStep ?_
  refine optE_of (c := .int .i64 (x : Nat)) (by simp [Value.cells, h1]) ?_
  repeat first | refine opsStep ?_ | refine codeStep ?_ | refine drawStep ?_
  refine guardE_of (by rw [hw]; simp; omega) ?_
  repeat first | refine opsStep ?_ | refine codeStep ?_ | refine drawStep ?_
  refine optE_of (c := .int .i64 (y : Nat)) (by rw [hw]; simp [Value.cells, h2]) ?_
  repeat first | refine opsStep ?_ | refine codeStep ?_ | refine drawStep ?_
  refine guardE_of (by simp; omega) ?_
  repeat first | refine opsStep ?_ | refine codeStep ?_ | refine drawStep ?_
  refine ⟨by kernel_rfl, ?_⟩
  repeat first | refine opsStep ?_ | refine codeStep ?_ | refine drawStep ?_
  exact finV (by kernel_rfl) hrow.symm

theorem frameS_bad {a : Aut} (h : frameS a = false) : unpE a = 3 := unpE_bad (by rw [checkS, h]; rfl)
theorem rows_bad {a : Aut} {q : Nat} (hq : q < a.accept.length) (h : rowOkS a q = false) : unpE a = 3 := unpE_bad (by
  rw [checkS, ← Bool.not_eq_true, Bool.and_eq_true, List.all_eq_true]
  rintro ⟨_, k⟩
  have := k q (List.mem_range.2 hq)
  rw [h] at this; simp at this)
theorem row_cubes {a : Aut} (ha : AutOk a) (q : Nat) : (a.row q).length < 2 ^ 40 ∨ (a.row q).length ≥ 2 ^ 40 := by omega
theorem row_mem {a : Aut} {q : Nat} : ∀ c ∈ a.row q, c ∈ a.arena := fun c hc => List.mem_of_mem_drop (List.mem_of_mem_take hc)

theorem table_Check (a : Aut) (ha : AutOk a) : Pure Try.prog 74 [aAut a] (.int .i64 (unpE a)) := by
  have h1 := ha.tracks
  have h2 := ha.accept
  have h3 := ha.starts
  have h4 := ha.arena
  have hT := table_tracks a.tk a.tracks a.accept.length (by omega) (fun s hs => by have := ha.names s hs; omega)
  have hS := slices_IsSorted_I a.sk a.starts (by omega)
  have hfb : ∀ h : frameS a = false, unpE a = 3 := frameS_bad
  have hrb : ∀ q, q < a.accept.length → rowOkS a q = false → unpE a = 3 := fun q => rows_bad
  have hgood : checkS a = true → unpE a = 0 := unpE_zero.2
  generalize unpE a = E at *
  have hw : IntKind.wrap .i64 ((a.accept.length : Int) + 1) = ((a.accept.length + 1 : Nat) : Int) := by rw [IntWalk.i64_in _ (by omega)]; simp
  refine Pure.of_sw 66 Try.func74 rfl Try.ntmps74 (by kernel_rfl) (Nat.le_of_ble_eq_true (by kernel_rfl)) (by simp [closeds, AV.closed, aSs_closed, aIs_closed, aBs_closed, aRs_closed, aDen_closed, aCs_closed, aAut_closed]) (by simp [AV.closed, closeds, aSs_closed, aIs_closed, aBs_closed, aRs_closed, aDen_closed, aCs_closed, aAut_closed]) ?_; refine SW.of_vc ?_
  repeat first | refine opsStep ?_ | refine codeStep ?_ | refine drawStep ?_
  refine SW.drawn rfl (by kernel_rfl) ?_
  repeat first | refine opsStep ?_ | refine codeStep ?_ | refine drawStep ?_
  refine .inl ⟨_, _, [], hT, RdsN_refl _, .inr rfl, none_need, ?_⟩
  cases ht : tracksS a.tracks a.accept.length with
  | false =>
    repeat first | refine opsStep ?_ | refine codeStep ?_ | refine drawStep ?_
    refine ⟨by kernel_rfl, ?_⟩
    repeat first | refine opsStep ?_ | refine codeStep ?_ | refine drawStep ?_
    exact finV (v' := .int .i64 3) (by kernel_rfl) (by rw [hfb (by rw [frameS, ht]; rfl)])
  | true =>
    have k6 := (tracksS_parts ht).1
    have kp := (tracksS_parts ht).2.2.1
    have k256 := (tracksS_parts ht).2.2.2
    repeat first | refine opsStep ?_ | refine codeStep ?_ | refine drawStep ?_
    refine decB_dec (fun hl => ?_) (fun hl => ?_)
    · repeat first | refine opsStep ?_ | refine codeStep ?_ | refine drawStep ?_
      refine ⟨by kernel_rfl, ?_⟩
      repeat first | refine opsStep ?_ | refine codeStep ?_ | refine drawStep ?_
      exact finV (v' := .int .i64 3) (by kernel_rfl) (by rw [hfb (by rw [frameS, decide_eq_false (show ¬ a.starts.length = a.accept.length + 1 by rw [hw] at hl; omega)]; simp)])
    have hl : a.starts.length = a.accept.length + 1 := by rw [hw] at hl; omega
    obtain ⟨z0, hz0⟩ : ∃ z, a.starts[0]? = some z := ⟨_, List.getElem?_eq_getElem (show 0 < a.starts.length by omega)⟩
    obtain ⟨zn, hzn⟩ : ∃ z, a.starts[a.accept.length]? = some z := ⟨_, List.getElem?_eq_getElem (show a.accept.length < a.starts.length by omega)⟩
    have g0 : a.starts.getD 0 0 = z0 := by rw [List.getD_eq_getElem?_getD, hz0]; rfl
    have gn : a.starts.getD a.accept.length 0 = zn := by rw [List.getD_eq_getElem?_getD, hzn]; rfl
    repeat first | refine opsStep ?_ | refine codeStep ?_ | refine drawStep ?_
    refine guardE_of (by simp; omega) ?_
    repeat first | refine opsStep ?_ | refine codeStep ?_ | refine drawStep ?_
    refine optE_of (c := .int .i64 z0) (by simp [Value.cells, hz0]) ?_
    repeat first | refine opsStep ?_ | refine codeStep ?_ | refine drawStep ?_
    refine decB_dec (fun h0 => ?_) (fun h0 => ?_)
    · repeat first | refine opsStep ?_ | refine codeStep ?_ | refine drawStep ?_
      refine ⟨by kernel_rfl, ?_⟩
      repeat first | refine opsStep ?_ | refine codeStep ?_ | refine drawStep ?_
      exact finV (v' := .int .i64 3) (by kernel_rfl) (by rw [hfb (by rw [frameS, g0, decide_eq_false h0]; simp)])
    have h0 : z0 = 0 := Decidable.of_not_not h0
    repeat first | refine opsStep ?_ | refine codeStep ?_ | refine drawStep ?_
    refine guardE_of (by simp; omega) ?_
    repeat first | refine opsStep ?_ | refine codeStep ?_ | refine drawStep ?_
    refine optE_of (c := .int .i64 zn) (by simp [Value.cells, hzn]) ?_
    repeat first | refine opsStep ?_ | refine codeStep ?_ | refine drawStep ?_
    refine decB_dec (fun hn => ?_) (fun hn => ?_)
    · repeat first | refine opsStep ?_ | refine codeStep ?_ | refine drawStep ?_
      refine ⟨by kernel_rfl, ?_⟩
      repeat first | refine opsStep ?_ | refine codeStep ?_ | refine drawStep ?_
      exact finV (v' := .int .i64 3) (by kernel_rfl) (by rw [hfb (by rw [frameS, gn, decide_eq_false hn]; simp)])
    have hn : zn = a.arena.length := Decidable.of_not_not hn
    repeat first | refine opsStep ?_ | refine codeStep ?_ | refine drawStep ?_
    refine .inl ⟨_, _, [], hS, RdsN_refl _, .inr rfl, none_need, ?_⟩
    cases hs : sortedI a.starts with
    | false =>
      repeat first | refine opsStep ?_ | refine codeStep ?_ | refine drawStep ?_
      refine ⟨by kernel_rfl, ?_⟩
      repeat first | refine opsStep ?_ | refine codeStep ?_ | refine drawStep ?_
      exact finV (v' := .int .i64 3) (by kernel_rfl) (by rw [hfb (by rw [frameS, hs]; simp)])
    | true =>
      have hf : FrameOk a := ⟨ht, hl, by rw [g0, h0], by rw [gn, hn], hs⟩
      repeat first | refine opsStep ?_ | refine codeStep ?_ | refine drawStep ?_
      refine ⟨by kernel_rfl, ?_⟩
      repeat first | refine opsStep ?_ | refine codeStep ?_ | refine drawStep ?_
      refine loopE_of (ι := {q : Nat // q ≤ a.accept.length ∧ ∀ i, i < q → rowOkS a i = true})
        (fun q => (fr [(1, .ref 0 0 0), (3, .int .i64 a.accept.length), (46, .int .i64 a.accept.length), (47, .int .i64 q.1)], [.cells 0 a.cells])) (fun q => a.accept.length - q.1) ⟨0, by omega, fun _ h => by omega⟩ (Ent.fr' ⟨(by kernel_rfl), (by kernel_rfl), (by kernel_rfl), (by kernel_rfl), trivial⟩ (by kernel_rfl)) ?_
      rintro ⟨q, hq, hpre⟩
      repeat first | refine opsStep ?_ | refine codeStep ?_ | refine drawStep ?_
      refine decB_dec (fun h => ?_) (fun h => ?_)
      · have hqa : q < a.accept.length := by have := h; simp at this; omega
        obtain ⟨p1, p2⟩ := hf.get (q := q) (by omega)
        obtain ⟨p3, p4⟩ := hf.get (q := q + 1) (by omega)
        have hro := table_rowOf a q (by omega) p1 p3 (hf.le hqa) p4
        have hrl : (a.row q).length < 2 ^ 60 := by
          have : (a.row q).length ≤ a.arena.length := by simp [Aut.row]; omega
          omega
        have hRt := fun h => row_Right a.ck.cut (a.row q) a.tracks.length a.accept.length (by omega) h fun c hc => ha.cubes c (row_mem c hc)
        have hrow : rowOkS a q = (decide ((a.row q).length ≤ 32) && (cubesOk (a.row q) a.tracks.length && (rowC (a.row q) a.tracks.length).all fun x => decide (x < a.accept.length))) := by rw [rowOkS, Bool.and_assoc]
        have hrb := hrb q hqa
        generalize a.row q = cs at *
        repeat first | refine opsStep ?_ | refine codeStep ?_ | refine drawStep ?_
        refine callP hro ?_
        repeat first | refine opsStep ?_ | refine codeStep ?_ | refine drawStep ?_
        refine decB_dec (fun h32 => ?_) (fun h32 => ?_)
        · repeat first | refine opsStep ?_ | refine codeStep ?_ | refine drawStep ?_
          exact finV (v' := .int .i64 3) (by kernel_rfl) (by rw [hrb (by rw [hrow, decide_eq_false (show ¬ cs.length ≤ 32 by omega)]; rfl)])
        have h32 : cs.length ≤ 32 := by omega
        have hRt := hRt (by omega)
        rw [decide_eq_true h32, Bool.true_and] at hrow
        rw [← hrow] at hRt
        cases hb : rowOkS a q with
        | false =>
          rw [hb] at hRt
          repeat first | refine opsStep ?_ | refine codeStep ?_ | refine drawStep ?_
          refine callP hRt ?_
          repeat first | refine opsStep ?_ | refine codeStep ?_ | refine drawStep ?_
          exact finV (v' := .int .i64 3) (by kernel_rfl) (by rw [hrb hb])
        | true =>
          rw [hb] at hRt
          repeat first | refine opsStep ?_ | refine codeStep ?_ | refine drawStep ?_
          refine callP hRt ?_
          repeat first | refine opsStep ?_ | refine codeStep ?_ | refine drawStep ?_
          refine ⟨⟨q + 1, by omega, fun i hi => ?_⟩, (by show a.accept.length - (q + 1) < a.accept.length - q; omega), Ent.fr' ⟨(by kernel_rfl), (by kernel_rfl), (by kernel_rfl), inc_slot (i := q) (by omega), trivial⟩ (by kernel_rfl)⟩
          by_cases e : i = q
          · subst e; exact hb
          · exact hpre i (by omega)
      · have hqa : q = a.accept.length := by have := h; simp at this; omega
        repeat first | refine opsStep ?_ | refine codeStep ?_ | refine drawStep ?_
        exact finV (v' := .int .i64 0) (by kernel_rfl) (by
          rw [hgood (by
            rw [checkS, frameS_iff.2 hf, Bool.true_and, List.all_eq_true]
            intro i hi
            exact hpre i (by have := List.mem_range.1 hi; omega))])

end Tab

/- tabardref11: half, same, Cubes, Tracks, Row, Pack. -/
namespace Tab
open Go Go.Proofs
set_option maxRecDepth 10000
set_option linter.unusedVariables false
set_option linter.unusedSimpArgs false
set_option linter.unusedSectionVars false

theorem r11_half (k : SK) (r : List Int) (h d : Nat) (hr : r.length = 2 * h) (hl : h < 2^40) (hd : d ≤ 1) : Pure Try.prog 121 [aIs k r, .int .i64 d] (aIs .any ((r.drop (d * h)).take h)) := by
  have hw : IntKind.wrap .i64 ((r.length : Int).tdiv 2) = (h : Int) := by
    rw [show (r.length : Int) = 2 * (h : Int) by omega, Int.mul_tdiv_cancel_left _ (by decide), IntWalk.i64_in _ (by omega)]
  have hdh : d * h ≤ h := by rcases (show d = 0 ∨ d = 1 by omega) with rfl | rfl <;> omega
  have hmul : IntKind.wrap .i64 ((d : Int) * (h : Int)) = ((d * h : Nat) : Int) := by rw [IntWalk.i64_in _ (by rw [← Int.natCast_mul]; omega)]; simp
  have hlt : ∀ i, i < h → d * h + i < r.length := fun i hi => by omega
  generalize d * h = o at *
  refine Pure.of_sw 28 Try.func121 rfl Try.ntmps121 (by kernel_rfl) (Nat.le_of_ble_eq_true (by kernel_rfl)) (by simp [closeds, AV.closed, aSs_closed, aIs_closed, aBs_closed, aRs_closed, aDen_closed]) (by simp [AV.closed, closeds, aSs_closed, aIs_closed, aBs_closed, aRs_closed, aDen_closed]) ?_; refine SW.of_vc ?_
  repeat first | refine opsStep ?_ | refine codeStep ?_ | refine drawStep ?_
  refine loopE_of (ι := {i : Nat // i ≤ h}) (fun i => (fr [(0, aIs k r), (1, .int .i64 d), (5, .hs 0 i.1 0 i.1 1), (6, .int .i64 h), (7, .int .i64 i.1)], [.cells i.1 (((r.drop o).take i.1).map (.int .i64))])) (fun i => h - i.1) ⟨0, by omega⟩
    (((Ent.fr' (l := [(0, aIs k r), (1, .int .i64 d), (5, .sl .nil 0 []), (6, .int .i64 h), (7, .int .i64 (0 : Nat))]) (H' := []) ⟨(by kernel_rfl), (by kernel_rfl), (by kernel_rfl), congrArg (AV.int .i64) hw, (by kernel_rfl), trivial⟩ (by kernel_rfl)).trans (Ent.nil 5 1 rfl)).trans (Ent.fr' ⟨(by kernel_rfl), (by kernel_rfl), (by kernel_rfl), (by kernel_rfl), (by kernel_rfl), trivial⟩ (by kernel_rfl))) ?_
  rintro ⟨i, hi⟩
  repeat first | refine opsStep ?_ | refine codeStep ?_ | refine drawStep ?_
  refine decB_dec (fun g => ?_) (fun g => ?_)
  · have hih : i < h := by have := g; simp at this; omega
    have hio := hlt i hih
    have hadd : IntKind.wrap .i64 (IntKind.wrap .i64 ((d : Int) * (h : Int)) + (i : Int)) = ((o + i : Nat) : Int) := by rw [hmul, IntWalk.i64_in _ (by omega)]; simp
    have hsn : (r.drop o).take (i + 1) = (r.drop o).take i ++ [r[o + i]] := by
      rw [List.take_add_one, List.getElem?_drop, List.getElem?_eq_getElem hio]; rfl
    have hln : ((r.drop o).take i).length = i := by simp; omega
    generalize (r.drop o).take i = l at *
    repeat first | refine opsStep ?_ | refine codeStep ?_ | refine drawStep ?_
    refine guardE_of (by rw [hadd]; simp; omega) ?_
    repeat first | refine opsStep ?_ | refine codeStep ?_ | refine drawStep ?_
    refine optE_of (c := .int .i64 r[o + i]) (by rw [hadd, Int.toNat_natCast]; simp [Value.cells, hio]) ?_
    repeat first | refine opsStep ?_ | refine codeStep ?_ | refine drawStep ?_
    refine guardE_of ⟨rfl, by simp [hln]⟩ ?_
    repeat first | refine opsStep ?_ | refine codeStep ?_ | refine drawStep ?_
    refine guardE_of rfl ?_
    repeat first | refine opsStep ?_ | refine codeStep ?_ | refine drawStep ?_
    refine guardE_of ⟨by omega, by show (i + 1) * 8 ≤ 140737488355328; omega⟩ ?_
    repeat first | refine opsStep ?_ | refine codeStep ?_ | refine drawStep ?_
    refine ⟨⟨i + 1, by omega⟩, (by show h - (i + 1) < h - i; omega), Ent.frD (X := [.cells 0 [.int .i64 r[o + i]]]) ⟨(by kernel_rfl), (by kernel_rfl), (by kernel_rfl), (by kernel_rfl), inc_slot (i := i) (by omega), trivial⟩ ?_ (Nat.le_of_ble_eq_true (by kernel_rfl)) (by first | (simp [frBel, blksBel, Blk.bel, AV.bel, bels, bels_append, bels_map, aSs_bel, aIs_bel, aBs_bel, aRs_bel, aDen_bel, cells_bel]; done) | (simp only [List.drop_zero, ← List.map_take, ← List.map_drop, List.map_map, frBel, blksBel, Blk.bel, AV.bel, bels, bels_append, bels_map, aSs_bel, aIs_bel, aBs_bel, aRs_bel, aDen_bel, cells_bel]; simp [AV.bel, aSs_bel, aIs_bel, aBs_bel, aRs_bel, aDen_bel, cells_bel])) ?_⟩
    · refine Eq.trans (b := [Blk.cells (i + 1) (((l.map (AV.int .i64)).drop 0).take (i * 1) ++ [.int .i64 r[o + i]]), .cells 0 [.int .i64 r[o + i]]]) (by kernel_rfl) ?_
      show _ = [Blk.cells (i + 1) (((r.drop o).take (i + 1)).map (.int .i64)), .cells 0 [.int .i64 r[o + i]]]
      rw [hsn, List.drop_zero, List.take_of_length_le (by simp [hln]), List.map_append]
      rfl
    · exact ⟨bels_map.2 fun x _ => by simp [AV.bel], trivial⟩
  · have hih : i = h := by have := g; simp at this; omega
    subst hih
    have hln : ((r.drop o).take i).length = i := by
      have h1 : o + i ≤ r.length := by
        by_cases h0 : i = 0
        · subst h0; omega
        · have := hlt (i - 1) (by omega); omega
      simp; omega
    have er : aIs .any ((r.drop o).take i) = .sl .any i (((r.drop o).take i).map (.int .i64)) := by rw [aIs, hln]
    rw [er]
    repeat first | refine opsStep ?_ | refine codeStep ?_ | refine drawStep ?_
    exact finFrz 4 (b := 0) (g := i) (es := 1) (by kernel_rfl) (by kernel_rfl) (by rw [List.length_map, hln, Nat.mul_one]) (by kernel_rfl)

theorem r11_same (k k' : SK) (a b : List Int) (hl : a.length = b.length) (ha : a.length < 2^60) : Pure Try.prog 122 [aIs k a, aIs k' b] (.bool (decide (a = b))) := by
  refine Pure.of_sw 21 Try.func122 rfl Try.ntmps122 (by kernel_rfl) (Nat.le_of_ble_eq_true (by kernel_rfl)) (by simp [closeds, AV.closed, aSs_closed, aIs_closed, aBs_closed, aRs_closed, aDen_closed]) (by simp [AV.closed, closeds, aSs_closed, aIs_closed, aBs_closed, aRs_closed, aDen_closed]) ?_; refine SW.of_vc ?_
  repeat first | refine opsStep ?_ | refine codeStep ?_ | refine drawStep ?_
  refine loopE_of (ι := {i : Nat // i ≤ a.length ∧ a.take i = b.take i}) (fun i => (fr [(0, aIs k a), (1, aIs k' b), (5, .int .i64 i.1)], [])) (fun i => a.length - i.1) ⟨0, by omega, by simp⟩ (Ent.fr' ⟨(by kernel_rfl), (by kernel_rfl), (by kernel_rfl), trivial⟩ (by kernel_rfl)) ?_
  rintro ⟨i, hi, hpre⟩
  repeat first | refine opsStep ?_ | refine codeStep ?_ | refine drawStep ?_
  refine decB_split (fun h => ?_) (fun h => ?_)
  · have hia : i < a.length := by simpa using h
    repeat first | refine opsStep ?_ | refine codeStep ?_ | refine drawStep ?_
    refine SW.drawn rfl (by kernel_rfl) ?_
    repeat first | refine opsStep ?_ | refine codeStep ?_ | refine drawStep ?_
    refine guardE_of (by simp; omega) ?_
    repeat first | refine opsStep ?_ | refine codeStep ?_ | refine drawStep ?_
    refine optE_of (c := .int .i64 a[i]) (by simp [Value.cells, hia]) ?_
    repeat first | refine opsStep ?_ | refine codeStep ?_ | refine drawStep ?_
    refine guardE_of (by simp; omega) ?_
    repeat first | refine opsStep ?_ | refine codeStep ?_ | refine drawStep ?_
    refine optE_of (c := .int .i64 b[i]) (by simp [Value.cells, hl ▸ hia]) ?_
    repeat first | refine opsStep ?_ | refine codeStep ?_ | refine drawStep ?_
    refine ⟨by kernel_rfl, ?_⟩
    repeat first | refine opsStep ?_ | refine codeStep ?_ | refine drawStep ?_
    refine decB_split (fun h => ?_) (fun h => ?_)
    · repeat first | refine opsStep ?_ | refine codeStep ?_ | refine drawStep ?_
      exact finB rfl (by simp at h; simp; rintro rfl; exact h rfl)
    · repeat first | refine opsStep ?_ | refine codeStep ?_ | refine drawStep ?_
      refine ⟨⟨i + 1, by omega, ?_⟩, (by show a.length - (i + 1) < a.length - i; omega), Ent.fr' ⟨(by kernel_rfl), (by kernel_rfl), inc_slot (i := i) (by omega), trivial⟩ (by kernel_rfl)⟩
      rw [List.take_succ_eq_append_getElem hia, List.take_succ_eq_append_getElem (hl ▸ hia), hpre]
      simp at h; rw [h]
  · repeat first | refine opsStep ?_ | refine codeStep ?_ | refine drawStep ?_
    have : i = a.length := by simp at h; omega
    exact finB rfl (by subst this; rw [List.take_length, hl, List.take_length] at hpre; simpa using hpre)

theorem add_pow {m k : Nat} (hm : m ≤ 1000) (hk : k ≤ 6) : AV.int .i64 (IntKind.wrap .i64 ((m : Int) + ((2 ^ k : Nat) : Int))) = AV.int .i64 ((m + 2 ^ k : Nat) : Int) := by
  have hb : 2 ^ k ≤ 2 ^ 6 := Nat.pow_le_pow_right (by omega) hk
  generalize 2 ^ k = q at *
  rw [IntWalk.i64_in _ (by omega)]; simp

theorem r11_Cubes : ∀ (K : Nat), K ≤ 6 → ∀ (kk : SK) (r : List Int) (m b : Nat), r.length = 2 ^ K → m + 64 * K ≤ 1000 → b + 64 * K ≤ 1000 →
    PureNew Try.prog 94 [aIs kk r, .int .i64 m, .int .i64 b] (cubR K r m b).length 3 (cc3 (cubR K r m b))
  | 0, _, kk, r, m, b, hr, _, _ => by
    obtain ⟨x, rfl⟩ : ∃ x, r = [x] := by
      match r, hr with
      | [x], _ => exact ⟨x, rfl⟩
    refine ⟨by simp [closeds, aIs_closed, AV.closed], cc3_closed _, ?_⟩
    refine ACall.of_sw 50 Try.func94 rfl Try.ntmps94 (by kernel_rfl) (Nat.le_of_ble_eq_true (by kernel_rfl)) ?_; refine SW.of_vc ?_
    repeat first | refine opsStep ?_ | refine codeStep ?_ | refine drawStep ?_
    exact finR (l := [(6, .hs 0 0 0 1 3)]) (H₁ := [.cells 0 [.int .i64 (m : Int), .int .i64 (b : Int), .int .i64 x]]) (v := .hs 0 0 0 1 3) ⟨(by kernel_rfl), trivial⟩ (by kernel_rfl) (Ent.refl _ _ _) (by kernel_rfl) ⟨0, rfl, rfl⟩
  | K + 1, hK, kk, r, m, b, hr, hm, hb => by
    have hp : 2 ^ (K + 1) = 2 ^ K + 2 ^ K := by rw [Nat.pow_succ]; omega
    have hq : 2 ^ K ≤ 2 ^ 6 := Nat.pow_le_pow_right (by omega) (by omega)
    have hpos : 0 < 2 ^ K := Nat.two_pow_pos _
    have om := add_pow (m := m) (k := K) (by omega) (by omega)
    have ob := add_pow (m := b) (k := K) (by omega) (by omega)
    have hl0 : (r.take (2 ^ K)).length = 2 ^ K := by simp; omega
    have hl1 : (r.drop (2 ^ K)).length = 2 ^ K := by simp; omega
    have i0 := r11_Cubes K (by omega) .any (r.take (2 ^ K)) m b hl0 (by omega) (by omega)
    have i1 := r11_Cubes K (by omega) .any (r.take (2 ^ K)) (m + 2 ^ K) b hl0 (by omega) (by omega)
    have i2 := r11_Cubes K (by omega) .any (r.drop (2 ^ K)) (m + 2 ^ K) (b + 2 ^ K) hl1 (by omega) (by omega)
    have c1 := cubR_len K (r.take (2 ^ K)) (m + 2 ^ K) b
    have c2 := cubR_len K (r.drop (2 ^ K)) (m + 2 ^ K) (b + 2 ^ K)
    rw [← om] at i1 i2
    rw [← ob] at i2
    have hh0 := r11_half kk r (2 ^ K) 0 (by omega) (by omega) (by omega)
    have hh1 := r11_half kk r (2 ^ K) 1 (by omega) (by omega) (by omega)
    rw [Nat.zero_mul, List.drop_zero] at hh0
    rw [Nat.one_mul, List.take_of_length_le (by omega)] at hh1
    have hEq := r11_same .any .any (r.take (2 ^ K)) (r.drop (2 ^ K)) (by omega) (by omega)
    have hcub : cubR (K + 1) r m b = if r.take (2 ^ K) = r.drop (2 ^ K) then cubR K (r.take (2 ^ K)) m b else cubR K (r.take (2 ^ K)) (m + 2 ^ K) b ++ cubR K (r.drop (2 ^ K)) (m + 2 ^ K) (b + 2 ^ K) := rfl
    have hc1 := cc3_length (cubR K (r.take (2 ^ K)) (m + 2 ^ K) b)
    have hc2 := cc3_length (cubR K (r.drop (2 ^ K)) (m + 2 ^ K) (b + 2 ^ K))
    generalize cubR (K + 1) r m b = C at *
    generalize cubR K (r.take (2 ^ K)) (m + 2 ^ K) b = C1 at *
    generalize cubR K (r.drop (2 ^ K)) (m + 2 ^ K) (b + 2 ^ K) = C2 at *
    generalize cubR K (r.take (2 ^ K)) m b = C0 at *
    generalize r.take (2 ^ K) = lo at *
    generalize r.drop (2 ^ K) = hi at *
    generalize 2 ^ K = h at *
    refine ⟨by simp [closeds, aIs_closed, AV.closed], cc3_closed _, ?_⟩
    refine ACall.of_sw 50 Try.func94 rfl Try.ntmps94 (by kernel_rfl) (Nat.le_of_ble_eq_true (by kernel_rfl)) ?_; refine SW.of_vc ?_
    repeat first | refine opsStep ?_ | refine codeStep ?_ | refine drawStep ?_
    refine decB_dec (fun h1 => ?_) (fun h1 => ?_)
    · exact absurd h1 (by omega)
    repeat first | refine opsStep ?_ | refine codeStep ?_ | refine drawStep ?_
    refine callP hh0 ?_
    repeat first | refine opsStep ?_ | refine codeStep ?_ | refine drawStep ?_
    refine callP hh1 ?_
    repeat first | refine opsStep ?_ | refine codeStep ?_ | refine drawStep ?_
    refine callP hEq ?_
    repeat first | refine opsStep ?_ | refine codeStep ?_ | refine drawStep ?_
    refine decB_dec (fun heq => ?_) (fun heq => ?_)
    · repeat first | refine opsStep ?_ | refine codeStep ?_ | refine drawStep ?_
      refine callN i0 ?_
      repeat first | refine opsStep ?_ | refine codeStep ?_ | refine drawStep ?_
      refine finR (l := [(6, .hs 0 0 0 C0.length 3)]) (H₁ := [.cells 0 (cc3 C0)]) (v := .hs 0 0 0 C0.length 3) ⟨(by kernel_rfl), trivial⟩ (by kernel_rfl) (Ent.refl _ _ _) (by kernel_rfl) ?_
      rw [hcub, if_pos heq]
      exact ⟨0, rfl, rfl⟩
    · iterate 3 refine codeStep ?_
      iterate 4 refine opsStep ?_
      refine VCode.ent (Ent.fr' (l := [(1, .int .i64 m), (2, .int .i64 b), (7, aIs .any lo), (8, aIs .any hi), (9, .int .i64 h)]) (H' := []) ⟨(by kernel_rfl), (by kernel_rfl), (by kernel_rfl), (by kernel_rfl), Eq.trans (b := .int .i64 (lo.length : Nat)) (by kernel_rfl) (by rw [hl0]), trivial⟩ (by kernel_rfl)) ?_
      repeat first | refine opsStep ?_ | refine codeStep ?_ | refine drawStep ?_
      refine callN i1 ?_
      repeat first | refine opsStep ?_ | refine codeStep ?_ | refine drawStep ?_
      refine callN i2 ?_
      repeat first | refine opsStep ?_ | refine codeStep ?_ | refine drawStep ?_
      refine guardE_of ⟨rfl, by show 0 + C1.length * 3 ≤ (cc3 C1).length; omega⟩ ?_
      repeat first | refine opsStep ?_ | refine codeStep ?_ | refine drawStep ?_
      refine guardE_of rfl ?_
      repeat first | refine opsStep ?_ | refine codeStep ?_ | refine drawStep ?_
      refine guardE_of ⟨rfl, by show 0 + C2.length * 3 ≤ (cc3 C2).length; omega⟩ ?_
      repeat first | refine opsStep ?_ | refine codeStep ?_ | refine drawStep ?_
      refine guardE_of ⟨by omega, by show (C1.length + C2.length) * 24 ≤ 140737488355328; omega⟩ ?_
      repeat first | refine opsStep ?_ | refine codeStep ?_ | refine drawStep ?_
      refine finR (l := [(6, .hs 0 1 0 (C1.length + C2.length) 3)]) (H₁ := [.cells 1 (cc3 C1 ++ cc3 C2)] ++ [.cells 0 (cc3 C2)]) (v := .hs 0 1 0 (C1.length + C2.length) 3) ⟨(by kernel_rfl), trivial⟩ (Eq.trans (b := [.cells 1 (((cc3 C1).drop 0).take (C1.length * 3) ++ ((cc3 C2).drop 0).take (C2.length * 3)), .cells 0 (cc3 C2)]) (by kernel_rfl) ?_) (Ent.drop (Nat.le_of_ble_eq_true (by kernel_rfl)) (by first | (simp [frBel, blksBel, Blk.bel, AV.bel, bels, bels_append, bels_map, aSs_bel, aIs_bel, aBs_bel, aRs_bel, aDen_bel, cells_bel]; done) | (simp only [List.drop_zero, ← List.map_take, ← List.map_drop, List.map_map, frBel, blksBel, Blk.bel, AV.bel, bels, bels_append, bels_map, aSs_bel, aIs_bel, aBs_bel, aRs_bel, aDen_bel, cells_bel]; simp [AV.bel, aSs_bel, aIs_bel, aBs_bel, aRs_bel, aDen_bel, cells_bel])) ?_) (by kernel_rfl) ?_
      · rw [List.drop_zero, List.drop_zero, List.take_of_length_le (by omega), List.take_of_length_le (by omega)]; rfl
      · exact ⟨bels_append.2 ⟨closeds_bel _ (cc3_closed _), closeds_bel _ (cc3_closed _)⟩, trivial⟩
      · rw [hcub, if_neg heq, List.length_append, cc3_append]
        exact ⟨1, rfl, rfl⟩

end Tab

/- tabardref11: Row, Pack; tabardref12.Pack. -/
namespace Tab
open Go Go.Proofs
set_option maxRecDepth 10000
set_option linter.unusedVariables false
set_option linter.unusedSimpArgs false
set_option linter.unusedSectionVars false

theorem r11_Tracks (K : Nat) (hK : K ≤ 6) : Pure Try.prog 170 [.int .i64 (2 ^ K : Nat)] (.int .i64 K) := by
  have hq : 2 ^ K ≤ 2 ^ 6 := Nat.pow_le_pow_right (by omega) hK
  have hne : ∀ k, k < K → 2 ^ k < 2 ^ K := fun k h => Nat.pow_lt_pow_right (by omega) h
  refine Pure.of_sw 15 Try.func170 rfl Try.ntmps170 (by kernel_rfl) (Nat.le_of_ble_eq_true (by kernel_rfl)) (by simp [closeds, AV.closed, aSs_closed, aIs_closed, aBs_closed, aRs_closed, aDen_closed]) (by simp [AV.closed, closeds, aSs_closed, aIs_closed, aBs_closed, aRs_closed, aDen_closed]) ?_; refine SW.of_vc ?_
  repeat first | refine opsStep ?_ | refine codeStep ?_ | refine drawStep ?_
  refine loopE_of (ι := {k : Nat // k ≤ K}) (fun k => (fr [(0, .int .i64 (2 ^ K : Nat)), (3, .int .i64 (2 ^ k.1 : Nat)), (4, .int .i64 k.1)], [])) (fun k => K - k.1) ⟨0, by omega⟩ (Ent.fr' ⟨(by kernel_rfl), (by kernel_rfl), (by kernel_rfl), trivial⟩ (by kernel_rfl)) ?_
  rintro ⟨k, hk⟩
  repeat first | refine opsStep ?_ | refine codeStep ?_ | refine drawStep ?_
  refine decB_dec (fun h => ?_) (fun h => ?_)
  · repeat first | refine opsStep ?_ | refine codeStep ?_ | refine drawStep ?_
    by_cases e : k = K
    · subst e
      refine decB_dec (fun h2 => ?_) (fun h2 => ?_)
      · repeat first | refine opsStep ?_ | refine codeStep ?_ | refine drawStep ?_
        exact finE_of (by kernel_rfl)
      · exact absurd rfl h2
    · have hlt := hne k (by omega)
      refine decB_dec (fun h2 => ?_) (fun h2 => ?_)
      · exact absurd (show 2 ^ k = 2 ^ K from Int.ofNat_inj.1 h2) (by omega)
      · repeat first | refine opsStep ?_ | refine codeStep ?_ | refine drawStep ?_
        refine ⟨⟨k + 1, by omega⟩, (by show K - (k + 1) < K - k; omega), Ent.fr' ⟨(by kernel_rfl), ?_, inc_slot (i := k) (by omega), trivial⟩ (by kernel_rfl)⟩
        show AV.int .i64 (IntKind.wrap .i64 (((2 ^ k : Nat) : Int) * 2)) = AV.int .i64 ((2 ^ (k + 1) : Nat) : Int)
        have e2 : 2 ^ (k + 1) = 2 ^ k * 2 := Nat.pow_succ 2 k
        rw [e2]
        generalize 2 ^ k = x at *
        rw [IntWalk.i64_in _ (by omega)]; simp
  · exact absurd (show ¬ (k : Int) ≤ 6 from h) (by omega)

theorem r11_Row (k : SK) (r : List Int) (K : Nat) (hK : K ≤ 6) (hl : r.length = 2 ^ K) (hp : ∀ x ∈ r, 0 ≤ x) : Pure Try.prog 153 [aIs k r] (.bool true) := by
  have hT := r11_Tracks K hK
  rw [← hl] at hT
  have hq : 2 ^ K ≤ 2 ^ 6 := Nat.pow_le_pow_right (by omega) hK
  refine Pure.of_sw 19 Try.func153 rfl Try.ntmps153 (by kernel_rfl) (Nat.le_of_ble_eq_true (by kernel_rfl)) (by simp [closeds, AV.closed, aSs_closed, aIs_closed, aBs_closed, aRs_closed, aDen_closed]) (by simp [AV.closed, closeds, aSs_closed, aIs_closed, aBs_closed, aRs_closed, aDen_closed]) ?_; refine SW.of_vc ?_
  repeat first | refine opsStep ?_ | refine codeStep ?_ | refine drawStep ?_
  refine callP hT ?_
  repeat first | refine opsStep ?_ | refine codeStep ?_ | refine drawStep ?_
  refine loopE_of (ι := {i : Nat // i ≤ r.length}) (fun i => (fr [(0, aIs k r), (3, .int .i64 i.1)], [])) (fun i => r.length - i.1) ⟨0, by omega⟩ (Ent.fr' ⟨(by kernel_rfl), (by kernel_rfl), trivial⟩ (by kernel_rfl)) ?_
  rintro ⟨i, hi⟩
  repeat first | refine opsStep ?_ | refine codeStep ?_ | refine drawStep ?_
  refine decB_dec (fun g => ?_) (fun g => ?_)
  · have hia : i < r.length := by have := g; simp at this; omega
    have h0 := hp _ (List.getElem_mem hia)
    repeat first | refine opsStep ?_ | refine codeStep ?_ | refine drawStep ?_
    refine guardE_of (by simp; omega) ?_
    repeat first | refine opsStep ?_ | refine codeStep ?_ | refine drawStep ?_
    refine optE_of (c := .int .i64 r[i]) (by simp [Value.cells, hia]) ?_
    repeat first | refine opsStep ?_ | refine codeStep ?_ | refine drawStep ?_
    refine decB_dec (fun h2 => ?_) (fun h2 => ?_)
    · exact absurd h2 (by omega)
    repeat first | refine opsStep ?_ | refine codeStep ?_ | refine drawStep ?_
    refine ⟨⟨i + 1, by omega⟩, (by show r.length - (i + 1) < r.length - i; omega), Ent.fr' ⟨(by kernel_rfl), inc_slot (i := i) (by omega), trivial⟩ (by kernel_rfl)⟩
  · repeat first | refine opsStep ?_ | refine codeStep ?_ | refine drawStep ?_
    exact finB (b' := true) (by kernel_rfl) rfl
theorem r11_Pack (k : SK) (r : List Int) (K : Nat) (hK : K ≤ 6) (hl : r.length = 2 ^ K) (hp : ∀ x ∈ r, 0 ≤ x) : Pure Try.prog 119 [aIs k r] (.tup [aCs .any (cubR K r 0 0), .int .i64 0]) := by
  have hr := r11_Row k r K hK hl hp
  have hc := (r11_Cubes K hK k r 0 0 hl (by omega) (by omega)).pure (cc3_length _).symm
  have hcl := aCs_closed .any (cubR K r 0 0)
  rw [aCs] at hcl ⊢
  generalize cubR K r 0 0 = C at *
  refine Pure.of_sw 9 Try.func119 rfl Try.ntmps119 (by kernel_rfl) (Nat.le_of_ble_eq_true (by kernel_rfl)) (by simp [closeds, aIs_closed]) (by simp only [AV.closed, closeds, and_true]; exact hcl) ?_; refine SW.of_vc ?_
  repeat first | refine opsStep ?_ | refine codeStep ?_ | refine drawStep ?_
  refine callP hr ?_
  repeat first | refine opsStep ?_ | refine codeStep ?_ | refine drawStep ?_
  refine callP hc ?_
  repeat first | refine opsStep ?_ | refine codeStep ?_ | refine drawStep ?_
  exact finE_of (by kernel_rfl)

def packC (d : Den) (q : Nat) : List Cb := (d.rows.take q).flatMap fun r => cubR d.tracks.length r 0 0
def packS (d : Den) (q : Nat) : List Int := (List.range (q + 1)).map fun i => ((packC d i).length : Int)
def packA (d : Den) : Aut := ⟨.any, d.tracks, .any, d.accept, .any, packS d d.next.length, .any, packC d d.next.length⟩
theorem packS_length (d q) : (packS d q).length = q + 1 := by simp [packS]
theorem packS_succ (d q) : packS d (q + 1) = packS d q ++ [((packC d (q + 1)).length : Int)] := by rw [packS, List.range_succ, List.map_append]; rfl
theorem packC_succ {d : Den} {q : Nat} (h : q < d.rows.length) : packC d (q + 1) = packC d q ++ cubR d.tracks.length d.rows[q] 0 0 := by
  rw [packC, List.take_succ_eq_append_getElem h, List.flatMap_append]; simp [packC]
theorem packC_len {d : Den} (h : ∀ r ∈ d.rows, (cubR d.tracks.length r 0 0).length ≤ 32) : ∀ q, (packC d q).length ≤ 32 * q
  | 0 => by simp [packC]
  | q + 1 => by
    by_cases hq : q < d.rows.length
    · rw [packC_succ hq, List.length_append]
      have h1 := packC_len h q
      have h2 := h _ (List.getElem_mem hq)
      omega
    · have : packC d (q + 1) = packC d q := by rw [packC, packC, List.take_of_length_le (by omega), List.take_of_length_le (by omega)]
      rw [this]
      have h1 := packC_len h q
      omega

theorem r12_Pack (d : Den) (hd : DenOk d) (hr : rightS d = true) (h32 : ∀ r ∈ d.rows, (cubR d.tracks.length r 0 0).length ≤ 32) : Pure Try.prog 91 [aDen d] (.tup [aAut (packA d), .int .i64 0]) := by
  have d1 := hd.tracks
  have d2 := hd.accept
  obtain ⟨ht, hn, hrows⟩ := rightS_parts hr
  obtain ⟨k6, _, _, k256⟩ := tracksS_parts ht
  have hrl : d.rows.length = d.next.length := by simp [Den.rows]
  have hn256 : d.next.length ≤ 256 := by rw [hn]; omega
  refine Pure.of_read (by simp [closeds, aDen_closed]) (by simp [AV.closed, closeds, aAut_closed]) (R := fun o H' => o = .ret (.tup [.agg [aSs .any d.tracks, aBs .any d.accept, .hs 4 d.next.length 0 (d.next.length + 1) 1, .hs 6 d.next.length 0 (packC d d.next.length).length 3], .int .i64 0]) ∧ ∃ b0 b1 b2 b3 b5, H' = [b0, b1, b2, b3, .cells d.next.length ((packS d d.next.length).map (.int .i64)), b5, .cells d.next.length (cc3 (packC d d.next.length))]) ?_ ?_
  rotate_left
  · rintro o H' ⟨rfl, b0, b1, b2, b3, b5, rfl⟩
    refine ⟨_, rfl, .tup (.cons (.agg (.cons (.refl _) (.cons (.refl _) (.cons ?_ (.cons ?_ .nil))))) (.cons (.refl _) .nil))⟩
    · show Rd _ _ (aIs .any (packS d d.next.length))
      rw [aIs, packS_length]
      exact Rd.whole rfl (by simp [packS_length])
    · exact Rd.whole rfl (cc3_length _).symm
  refine ACall.of_sw 52 Try.func91 rfl Try.ntmps91 (by kernel_rfl) (Nat.le_of_ble_eq_true (by kernel_rfl)) ?_; refine SW.of_vc ?_
  repeat first | refine opsStep ?_ | refine codeStep ?_ | refine drawStep ?_
  refine SW.drawn rfl (by kernel_rfl) ?_
  repeat first | refine opsStep ?_ | refine codeStep ?_ | refine drawStep ?_
  refine guardE_of (by simp [Value.cells]) ?_
  refine guardE_of ⟨by omega, by show (0 + d.tracks.length) * 16 ≤ 140737488355328; omega⟩ ?_
  repeat first | refine opsStep ?_ | refine codeStep ?_ | refine drawStep ?_
  refine guardE_of (by simp [Value.cells]) ?_
  refine guardE_of ⟨by omega, by show (0 + d.accept.length) * 1 ≤ 140737488355328; omega⟩ ?_
  repeat first | refine opsStep ?_ | refine codeStep ?_ | refine drawStep ?_
  refine ⟨by kernel_rfl, ?_⟩
  repeat first | refine opsStep ?_ | refine codeStep ?_ | refine drawStep ?_
  have hinit : ∀ (nt : Fr) (s : Slots) (H : List Blk), nt.k = 0 → frOk s [(1, .ref 0 0 0), (2, .ref 1 0 0), (4, .ref 5 0 0), (5, .int .i64 (0 : Nat))] →
      H = [.cells 0 d.cells, .cells 0 [.sl .nil 0 [], .sl .nil 0 [], .sl .nil 0 [], .sl .nil 0 []], .cells 1 (d.tracks.map .str), .cells 1 (d.accept.map .bool), .cells 0 [.int .i64 0], .cells 0 [.hs 2 1 0 (0 + d.tracks.length) 1, .hs 3 1 0 (0 + d.accept.length) 1, .hs 4 0 0 1 1, .sl .nil 0 []]] →
      Ent nt s H (fr [(1, .ref 0 0 0), (2, .ref 1 0 0), (4, .ref 5 0 0), (5, .int .i64 (0 : Nat))]) [.cells 0 d.cells, .cells 0 [.sl .nil 0 [], .sl .nil 0 [], .sl .nil 0 [], .sl .nil 0 []], .fro 1 (d.tracks.map .str), .fro 1 (d.accept.map .bool), .cells (0) ((packS d 0).map (.int .i64)), .cells 0 [aSs .any d.tracks, aBs .any d.accept, .hs 4 (0) 0 ((0) + 1) 1, .hs 6 (0) 0 (packC d 0).length 3], Blk.cells (0) (cc3 (packC d 0))] := by
    intro nt s H hk hf hH
    subst hH
    rw [Nat.zero_add, Nat.zero_add]
    exact ((((Ent.fr hf).trans (Ent.freezeCell 5 0 (b := 2) rfl rfl rfl (by omega) (by simp))).trans (Ent.freezeCell 5 1 (b := 3) rfl rfl rfl (by omega) (by simp))).trans (Ent.nilCell 5 3 3 rfl rfl)).to (by kernel_rfl)
  refine loopE_of (ι := {q : Nat // q ≤ d.next.length}) (fun q => (fr [(1, .ref 0 0 0), (2, .ref 1 0 0), (4, .ref 5 0 0), (5, .int .i64 q.1)], [.cells 0 d.cells, .cells 0 [.sl .nil 0 [], .sl .nil 0 [], .sl .nil 0 [], .sl .nil 0 []], .fro 1 (d.tracks.map .str), .fro 1 (d.accept.map .bool), .cells (q.1) ((packS d q.1).map (.int .i64)), .cells 0 [aSs .any d.tracks, aBs .any d.accept, .hs 4 (q.1) 0 ((q.1) + 1) 1, .hs 6 (q.1) 0 (packC d q.1).length 3], Blk.cells (q.1) (cc3 (packC d q.1))])) (fun q => d.next.length - q.1) ⟨0, by omega⟩ (hinit _ _ _ rfl ⟨(by kernel_rfl), (by kernel_rfl), (by kernel_rfl), (by kernel_rfl), trivial⟩ (by kernel_rfl)) ?_
  rintro ⟨q, hq⟩
  repeat first | refine opsStep ?_ | refine codeStep ?_ | refine drawStep ?_
  refine decB_dec (fun h => ?_) (fun h => ?_)
  · have hqa : q < d.next.length := by have := h; simp at this; omega
    have hqr : q < d.rows.length := by omega
    have ga : d.rows[q] = (d.next[q]).2 := by simp [Den.rows]
    obtain ⟨l1, l2⟩ := rowOk_parts (hrows _ (List.getElem_mem hqa))
    have hpk := r11_Pack (d.next[q]).1 (d.next[q]).2 d.tracks.length k6 l1 fun x hx => (l2 x hx).1
    have hC32 := h32 _ (List.getElem_mem hqr)
    have hA := packC_len h32 q
    have hs := packS_succ d q
    have hc := packC_succ hqr
    have hsl := packS_length d q
    rw [hc, List.length_append] at hs
    rw [ga] at hC32 hc hs
    have hcl := cc3_length (packC d q)
    generalize packC d q = A at *
    generalize packS d q = S at *
    generalize cubR d.tracks.length (d.next[q]).2 0 0 = C at *
    have hcc := cc3_length C
    repeat first | refine opsStep ?_ | refine codeStep ?_ | refine drawStep ?_
    refine guardE_of (by simp; omega) ?_
    repeat first | refine opsStep ?_ | refine codeStep ?_ | refine drawStep ?_
    refine optE_of (c := aIs (d.next[q]).1 (d.next[q]).2) (by simp [Value.cells, hqa]) ?_
    repeat first | refine opsStep ?_ | refine codeStep ?_ | refine drawStep ?_
    refine callP hpk ?_
    repeat first | refine opsStep ?_ | refine codeStep ?_ | refine drawStep ?_
    refine decB_dec (fun h33 => ?_) (fun h33 => ?_)
    · exact absurd h33 (by omega)
    repeat first | refine opsStep ?_ | refine codeStep ?_ | refine drawStep ?_
    refine guardE_of ⟨rfl, by show 0 + A.length * 3 ≤ (cc3 A).length; omega⟩ ?_
    repeat first | refine opsStep ?_ | refine codeStep ?_ | refine drawStep ?_
    refine guardE_of (by show (cc3 C).length = C.length * 3; exact hcc) ?_
    repeat first | refine opsStep ?_ | refine codeStep ?_ | refine drawStep ?_
    refine guardE_of ⟨by omega, by show (A.length + C.length) * 24 ≤ 140737488355328; omega⟩ ?_
    repeat first | refine opsStep ?_ | refine codeStep ?_ | refine drawStep ?_
    refine guardE_of ⟨rfl, by show 0 + (q + 1) * 1 ≤ (S.map (AV.int .i64)).length; simp [hsl]⟩ ?_
    repeat first | refine opsStep ?_ | refine codeStep ?_ | refine drawStep ?_
    refine guardE_of rfl ?_
    repeat first | refine opsStep ?_ | refine codeStep ?_ | refine drawStep ?_
    refine guardE_of ⟨by show q + 1 + 1 ≤ 9223372036854775807; omega, by show (q + 1 + 1) * 8 ≤ 140737488355328; omega⟩ ?_
    repeat first | refine opsStep ?_ | refine codeStep ?_ | refine drawStep ?_
    refine ⟨⟨q + 1, by omega⟩, (by show d.next.length - (q + 1) < d.next.length - q; omega), Ent.frD (X := [.cells 0 [.int .i64 (A.length + C.length : Nat)]]) ⟨(by kernel_rfl), (by kernel_rfl), (by kernel_rfl), inc_slot (i := q) (by omega), trivial⟩ ?_ (Nat.le_of_ble_eq_true (by kernel_rfl)) (by first | (simp [frBel, blksBel, Blk.bel, AV.bel, bels, bels_append, bels_map, aSs_bel, aIs_bel, aBs_bel, aRs_bel, aDen_bel, cells_bel]; done) | (simp only [List.drop_zero, ← List.map_take, ← List.map_drop, List.map_map, frBel, blksBel, Blk.bel, AV.bel, bels, bels_append, bels_map, aSs_bel, aIs_bel, aBs_bel, aRs_bel, aDen_bel, cells_bel]; simp [AV.bel, aSs_bel, aIs_bel, aBs_bel, aRs_bel, aDen_bel, cells_bel])) ?_⟩
    · refine Eq.trans (b := [.cells 0 d.cells, .cells 0 [.sl .nil 0 [], .sl .nil 0 [], .sl .nil 0 [], .sl .nil 0 []], .fro 1 (d.tracks.map .str), .fro 1 (d.accept.map .bool), .cells (q + 1) (((S.map (.int .i64)).drop 0).take ((q + 1) * 1) ++ [.int .i64 (A.length + C.length : Nat)]), .cells 0 [aSs .any d.tracks, aBs .any d.accept, .hs 4 (q + 1) 0 (q + 1 + 1) 1, .hs 6 (q + 1) 0 (A.length + C.length) 3], Blk.cells (q + 1) (((cc3 A).drop 0).take (A.length * 3) ++ ((cc3 C))), .cells 0 [.int .i64 (A.length + C.length : Nat)]]) (by kernel_rfl) ?_
      show _ = [.cells 0 d.cells, .cells 0 [.sl .nil 0 [], .sl .nil 0 [], .sl .nil 0 [], .sl .nil 0 []], .fro 1 (d.tracks.map .str), .fro 1 (d.accept.map .bool), .cells ((q + 1)) ((packS d (q + 1)).map (.int .i64)), .cells 0 [aSs .any d.tracks, aBs .any d.accept, .hs 4 ((q + 1)) 0 (((q + 1)) + 1) 1, .hs 6 ((q + 1)) 0 (packC d (q + 1)).length 3], Blk.cells ((q + 1)) (cc3 (packC d (q + 1)))] ++ [.cells 0 [.int .i64 (A.length + C.length : Nat)]]
      rw [hs, hc, cc3_append, List.length_append, List.drop_zero, List.drop_zero, List.take_of_length_le (by simp [hsl]), List.take_of_length_le (by omega), List.map_append]
      rfl
    · simp [blksBel, Blk.bel, bels, AV.bel, Den.cells, bels_map, aSs_bel, aBs_bel, aRs_bel, closeds_bel _ (cc3_closed _)]
  · have hqa : q = d.next.length := by have := h; simp at this; omega
    subst hqa
    repeat first | refine opsStep ?_ | refine codeStep ?_ | refine drawStep ?_
    exact finR (l := [(2, .ref 1 0 0), (3, .int .i64 0)]) (H₁ := [.cells 0 d.cells, .cells 0 [aSs .any d.tracks, aBs .any d.accept, .hs 4 d.next.length 0 (d.next.length + 1) 1, .hs 6 d.next.length 0 (packC d d.next.length).length 3], .fro 1 (d.tracks.map .str), .fro 1 (d.accept.map .bool), .cells d.next.length ((packS d d.next.length).map (.int .i64)), .cells 0 [aSs .any d.tracks, aBs .any d.accept, .hs 4 d.next.length 0 (d.next.length + 1) 1, .hs 6 d.next.length 0 (packC d d.next.length).length 3], Blk.cells d.next.length (cc3 (packC d d.next.length))]) (v := .tup [.agg [aSs .any d.tracks, aBs .any d.accept, .hs 4 d.next.length 0 (d.next.length + 1) 1, .hs 6 d.next.length 0 (packC d d.next.length).length 3], .int .i64 0]) ⟨(by kernel_rfl), (by kernel_rfl), trivial⟩ (by kernel_rfl) (Ent.refl _ _ _) (by kernel_rfl) ⟨rfl, _, _, _, _, _, rfl⟩

end Tab

/- tabardref11: At, Unpack, Right. -/
namespace Tab
open Go Go.Proofs
set_option maxRecDepth 10000
set_option linter.unusedVariables false
set_option linter.unusedSimpArgs false
set_option linter.unusedSectionVars false

theorem drop_add3 (cs : List AV) (i j : Nat) : (cs.drop i).drop j = cs.drop (i + j) := by rw [List.drop_drop]
theorem cc3_at {L : List Cb} {i : Nat} {c : Cb} (h : L[i]? = some c) : (cc3 L)[i * 3]? = some (.int .i64 c.1) ∧ (cc3 L)[i * 3 + 1]? = some (.int .i64 c.2.1) ∧ (cc3 L)[i * 3 + 2]? = some (.int .i64 c.2.2) := by
  obtain ⟨h1, h2⟩ := cc3_get h
  have e : ∀ j, j < 3 → (cc3 L)[i * 3 + j]? = (cb3 c)[j]? := fun j hj => by
    rw [← h1, List.getElem?_take, if_pos hj, List.getElem?_drop]
  exact ⟨e 0 (by omega), e 1 (by omega), e 2 (by omega)⟩

theorem r11_At (k : SK) (cs : List Cb) (i : Int) (hl : cs.length < 2^60) : Pure Try.prog 93 [aCs k cs, .int .i64 i] (.tup [.int .i64 ((atC cs i).getD 0), .bool (atC cs i).isSome]) := by
  refine Pure.of_sw 31 Try.func93 rfl Try.ntmps93 (by kernel_rfl) (Nat.le_of_ble_eq_true (by kernel_rfl)) (by simp [closeds, AV.closed, aSs_closed, aIs_closed, aBs_closed, aRs_closed, aDen_closed, aCs_closed, aAut_closed]) (by simp [AV.closed, closeds, aSs_closed, aIs_closed, aBs_closed, aRs_closed, aDen_closed, aCs_closed, aAut_closed]) ?_; refine SW.of_vc ?_
  repeat first | refine opsStep ?_ | refine codeStep ?_ | refine drawStep ?_
  refine loopE_of (ι := {j : Nat // j ≤ cs.length ∧ ∀ j' (h : j' < cs.length), j' < j → hitC i cs[j'] = false}) (fun j => (fr [(0, aCs k cs), (1, .int .i64 i), (6, .int .i64 j.1)], [])) (fun j => cs.length - j.1) ⟨0, by omega, fun _ _ h => by omega⟩ (Ent.fr' ⟨(by kernel_rfl), (by kernel_rfl), (by kernel_rfl), trivial⟩ (by kernel_rfl)) ?_
  rintro ⟨j, hj, hpre⟩
  repeat first | refine opsStep ?_ | refine codeStep ?_ | refine drawStep ?_
  refine decB_dec (fun h => ?_) (fun h => ?_)
  · have hja : j < cs.length := by have := h; simp at this; omega
    obtain ⟨g1, g2, g3⟩ := cc3_at (List.getElem?_eq_getElem hja)
    repeat first | refine opsStep ?_ | refine codeStep ?_ | refine drawStep ?_
    refine SW.drawn rfl (by kernel_rfl) ?_
    repeat first | refine opsStep ?_ | refine codeStep ?_ | refine drawStep ?_
    refine guardE_of (by simp; omega) ?_
    repeat first | refine opsStep ?_ | refine codeStep ?_ | refine drawStep ?_
    refine optE_of (c := .int .i64 (cs[j]).1) (by show (((cc3 cs).drop (j * 3)).drop 0)[0]? = _; simp [g1]) ?_
    repeat first | refine opsStep ?_ | refine codeStep ?_ | refine drawStep ?_
    refine guardE_of (by simp; omega) ?_
    repeat first | refine opsStep ?_ | refine codeStep ?_ | refine drawStep ?_
    refine optE_of (c := .int .i64 (cs[j]).2.1) (by show (((cc3 cs).drop (j * 3)).drop 1)[0]? = _; simp [g2]) ?_
    repeat first | refine opsStep ?_ | refine codeStep ?_ | refine drawStep ?_
    refine ⟨by kernel_rfl, ?_⟩
    repeat first | refine opsStep ?_ | refine codeStep ?_ | refine drawStep ?_
    refine decB_dec (fun hh => ?_) (fun hh => ?_)
    · have hh : hitC i cs[j] = true := decide_eq_true hh
      repeat first | refine opsStep ?_ | refine codeStep ?_ | refine drawStep ?_
      refine guardE_of (by simp; omega) ?_
      repeat first | refine opsStep ?_ | refine codeStep ?_ | refine drawStep ?_
      refine optE_of (c := .int .i64 (cs[j]).2.2) (by show (((cc3 cs).drop (j * 3)).drop 2)[0]? = _; simp [g3]) ?_
      repeat first | refine opsStep ?_ | refine codeStep ?_ | refine drawStep ?_
      exact finV (v' := .tup [.int .i64 (cs[j]).2.2, .bool true]) (by kernel_rfl) (by rw [atC_find hja (fun j' h' => hpre j' (by omega) h') hh]; rfl)
    · have hh : hitC i cs[j] = false := decide_eq_false hh
      repeat first | refine opsStep ?_ | refine codeStep ?_ | refine drawStep ?_
      refine ⟨⟨j + 1, by omega, fun j' h' hlt => ?_⟩, (by show cs.length - (j + 1) < cs.length - j; omega), Ent.fr' ⟨(by kernel_rfl), (by kernel_rfl), inc_slot (i := j) (by omega), trivial⟩ (by kernel_rfl)⟩
      by_cases e : j' = j
      · subst e; exact hh
      · exact hpre j' h' (by omega)
  · repeat first | refine opsStep ?_ | refine codeStep ?_ | refine drawStep ?_
    have : j = cs.length := by have := h; simp at this; omega
    exact finV (v' := .tup [.int .i64 0, .bool false]) (by kernel_rfl) (by rw [atC_none fun j' h' => hpre j' h' (by omega)]; rfl)

theorem r11_Unpack (kc : SK) (cs : List Cb) (k : Nat) (hk : k ≤ 6) (hl : cs.length < 2^40) (ho : ∀ c ∈ cs, okC c) : Pure Try.prog 51 [aCs kc cs, .int .i64 k] (rowU cs k) := by
  have hq : 2 ^ k ≤ 2 ^ 6 := Nat.pow_le_pow_right (by omega) (by omega)
  have hp2 : ∀ j, j ≤ k → 2 ^ j ≤ 2 ^ 6 := fun j hj => Nat.pow_le_pow_right (by omega) (by omega)
  have hat := fun i : Nat => r11_At kc cs i (by omega)
  have hrl := rowC_length cs k
  have hget := fun (i : Nat) (h : i < 2 ^ k) => rowC_get (cs := cs) h
  have hio := cubesOk_iff (cs := cs) (k := k)
  have hC := (r11_Cubes k hk .any (rowC cs k) 0 0 hrl (by omega) (by omega)).pure (cc3_length _).symm
  have hCl := cubR_len k (rowC cs k) 0 0
  have hCo := cubR_ok k hk _ 0 0 (rowC_ok ho k) (by omega) (by omega)
  have hR : aIs .any (rowC cs k) = .sl .any (2 ^ k) ((rowC cs k).map (.int .i64)) := by rw [aIs, hrl]
  have hv : rowU cs k = if cubesOk cs k = true then .tup [.sl .any (2 ^ k) ((rowC cs k).map (.int .i64)), .int .i64 0] else .tup [.sl .nil 0 [], .int .i64 3] := by rw [rowU, hR]
  rw [hR] at hC
  rw [hv]
  generalize cubR k (rowC cs k) 0 0 = C at *
  generalize rowC cs k = r at *
  generalize cubesOk cs k = ok at *
  have hK0 : (2 : Nat) ^ 0 = 1 := rfl
  refine Pure.of_read (by simp [closeds, aCs_closed, AV.closed]) (by split <;> simp [AV.closed, closeds, ints_cl]) (R := fun o H' => (ok = false ∧ o = .ret (.tup [.sl .nil 0 [], .int .i64 3])) ∨ (ok = true ∧ ∃ g, o = .ret (.tup [.hs 0 g 0 (2 ^ k) 1, .int .i64 0]) ∧ H' = [.fro g (r.map (.int .i64))])) ?_ ?_
  rotate_left
  · rintro o H' (⟨h, rfl⟩ | ⟨h, g, rfl, rfl⟩)
    · exact ⟨_, rfl, by rw [h]; exact .refl _⟩
    · refine ⟨_, rfl, ?_⟩
      rw [h]
      exact .tup (.cons (Rd.frozen rfl (by simp [hrl])) (.cons (.refl _) .nil))
  refine ACall.of_sw 75 Try.func51 rfl Try.ntmps51 (by kernel_rfl) (Nat.le_of_ble_eq_true (by kernel_rfl)) ?_; refine SW.of_vc ?_
  repeat first | refine opsStep ?_ | refine codeStep ?_ | refine drawStep ?_
  refine decB_dec (fun h => ?_) (fun h => ?_)
  · exact absurd h (by omega)
  repeat first | refine opsStep ?_ | refine codeStep ?_ | refine drawStep ?_
  refine loopE_of (ι := {j : Nat // j ≤ k}) (fun j => (fr [(0, aCs kc cs), (1, .int .i64 k), (6, .int .i64 (2 ^ j.1 : Nat)), (7, .int .i64 j.1)], [])) (fun j => k - j.1) ⟨0, by omega⟩ (Ent.fr' ⟨(by kernel_rfl), (by kernel_rfl), (by kernel_rfl), (by kernel_rfl), trivial⟩ (by kernel_rfl)) ?_
  rintro ⟨j, hj⟩
  repeat first | refine opsStep ?_ | refine codeStep ?_ | refine drawStep ?_
  refine decB_dec (fun hjk => ?_) (fun hjk => ?_)
  · have hja : j < k := by have := hjk; simp at this; omega
    have hb := hp2 (j + 1) (by omega)
    repeat first | refine opsStep ?_ | refine codeStep ?_ | refine drawStep ?_
    refine ⟨⟨j + 1, by omega⟩, (by show k - (j + 1) < k - j; omega), Ent.fr' ⟨(by kernel_rfl), (by kernel_rfl), ?_, inc_slot (i := j) (by omega), trivial⟩ (by kernel_rfl)⟩
    show AV.int .i64 (IntKind.wrap .i64 (((2 ^ j : Nat) : Int) * 2)) = AV.int .i64 ((2 ^ (j + 1) : Nat) : Int)
    have e2 : 2 ^ (j + 1) = 2 ^ j * 2 := Nat.pow_succ 2 j
    rw [e2] at hb ⊢
    generalize 2 ^ j = x at *
    rw [IntWalk.i64_in _ (by omega)]; simp
  have hja : j = k := by have := hjk; simp at this; omega
  subst hja
  generalize 2 ^ j = q at *
  repeat first | refine opsStep ?_ | refine codeStep ?_ | refine drawStep ?_
  refine decB_dec (fun h => ?_) (fun h => ?_)
  · repeat first | refine opsStep ?_ | refine codeStep ?_ | refine drawStep ?_
    refine finR (l := [(4, .sl .nil 0 []), (5, .int .i64 3)]) (H₁ := []) (v := .tup [.sl .nil 0 [], .int .i64 3]) ⟨(by kernel_rfl), (by kernel_rfl), trivial⟩ (by kernel_rfl) (Ent.refl _ _ _) (by kernel_rfl) (.inl ⟨?_, rfl⟩)
    rw [← Bool.not_eq_true, hio]
    rintro ⟨h1, _⟩
    have h : (cs.length : Int) > (q : Int) := h
    omega
  have hcl : cs.length ≤ q := by
    have h : ¬ (cs.length : Int) > (q : Int) := h
    omega
  repeat first | refine opsStep ?_ | refine codeStep ?_ | refine drawStep ?_
  refine loopE_of (ι := {a : Nat // a ≤ q ∧ (∀ i : Nat, i < a → (atC cs i).isSome = true) ∧ ∀ x ∈ r.take a, 0 ≤ x})
    (fun a => (fr [(0, aCs kc cs), (6, .int .i64 q), (8, .hs 0 a.1 0 a.1 1), (9, .int .i64 a.1)], [.cells a.1 ((r.take a.1).map (.int .i64))]))
    (fun a => q - a.1) ⟨0, by omega, fun _ h => by omega, by simp⟩ (((Ent.fr' (l := [(0, aCs kc cs), (6, .int .i64 q), (8, .sl .nil 0 []), (9, .int .i64 (0 : Nat))]) (H' := []) ⟨(by kernel_rfl), (by kernel_rfl), (by kernel_rfl), (by kernel_rfl), trivial⟩ (by kernel_rfl)).trans (Ent.nil 8 1 rfl)).trans (Ent.fr' ⟨(by kernel_rfl), (by kernel_rfl), (by kernel_rfl), (by kernel_rfl), trivial⟩ (by kernel_rfl))) ?_
  rintro ⟨a, ha, hsome, hpos⟩
  repeat first | refine opsStep ?_ | refine codeStep ?_ | refine drawStep ?_
  refine decB_dec (fun g => ?_) (fun g => ?_)
  · have haq : a < q := by have := g; simp at this; omega
    have hat := hat a
    cases hx : atC cs a with
    | none =>
      rw [hx] at hat
      repeat first | refine opsStep ?_ | refine codeStep ?_ | refine drawStep ?_
      refine callP hat ?_
      repeat first | refine opsStep ?_ | refine codeStep ?_ | refine drawStep ?_
      refine finR (l := [(4, .sl .nil 0 []), (5, .int .i64 3)]) (H₁ := [.cells a ((r.take a).map (.int .i64))]) (v := .tup [.sl .nil 0 [], .int .i64 3]) ⟨(by kernel_rfl), (by kernel_rfl), trivial⟩ (by kernel_rfl) (Ent.refl _ _ _) (by kernel_rfl) (.inl ⟨?_, rfl⟩)
      rw [← Bool.not_eq_true, hio]
      rintro ⟨_, h2, _⟩
      have := h2 a haq
      rw [hx] at this; simp at this
    | some x =>
      rw [hx] at hat
      have hra : r[a]? = some x := by rw [hget a haq, hx]; rfl
      obtain ⟨hra1, hra2⟩ := List.getElem?_eq_some_iff.1 hra
      have htk : r.take (a + 1) = r.take a ++ [x] := by rw [List.take_succ_eq_append_getElem hra1, hra2]
      have hln : (r.take a).length = a := by simp; omega
      repeat first | refine opsStep ?_ | refine codeStep ?_ | refine drawStep ?_
      refine callP hat ?_
      repeat first | refine opsStep ?_ | refine codeStep ?_ | refine drawStep ?_
      refine decB_dec (fun hneg => ?_) (fun hneg => ?_)
      · repeat first | refine opsStep ?_ | refine codeStep ?_ | refine drawStep ?_
        refine finR (l := [(4, .sl .nil 0 []), (5, .int .i64 3)]) (H₁ := [.cells a ((r.take a).map (.int .i64))]) (v := .tup [.sl .nil 0 [], .int .i64 3]) ⟨(by kernel_rfl), (by kernel_rfl), trivial⟩ (by kernel_rfl) (Ent.refl _ _ _) (by kernel_rfl) (.inl ⟨?_, rfl⟩)
        rw [← Bool.not_eq_true, hio]
        rintro ⟨_, _, h3, _⟩
        have := List.all_eq_true.1 h3 x (List.mem_of_getElem? hra)
        have hneg : x < 0 := hneg
        simp at this; omega
      have hneg : ¬ x < 0 := hneg
      repeat first | refine opsStep ?_ | refine codeStep ?_ | refine drawStep ?_
      refine guardE_of ⟨rfl, by show 0 + a * 1 ≤ ((r.take a).map (AV.int .i64)).length; rw [List.length_map, hln]; omega⟩ ?_
      repeat first | refine opsStep ?_ | refine codeStep ?_ | refine drawStep ?_
      refine guardE_of rfl ?_
      repeat first | refine opsStep ?_ | refine codeStep ?_ | refine drawStep ?_
      refine guardE_of ⟨by omega, by show (a + 1) * 8 ≤ 140737488355328; omega⟩ ?_
      repeat first | refine opsStep ?_ | refine codeStep ?_ | refine drawStep ?_
      refine ⟨⟨a + 1, by omega, fun i hi => ?_, fun y hy => ?_⟩, (by show q - (a + 1) < q - a; omega), Ent.frD (X := [.cells 0 [.int .i64 x]]) ⟨(by kernel_rfl), (by kernel_rfl), (by kernel_rfl), inc_slot (i := a) (by omega), trivial⟩ ?_ (Nat.le_of_ble_eq_true (by kernel_rfl)) (by first | (simp [frBel, blksBel, Blk.bel, AV.bel, bels, bels_append, bels_map, aSs_bel, aIs_bel, aBs_bel, aRs_bel, aDen_bel, cells_bel]; done) | (simp only [List.drop_zero, ← List.map_take, ← List.map_drop, List.map_map, frBel, blksBel, Blk.bel, AV.bel, bels, bels_append, bels_map, aSs_bel, aIs_bel, aBs_bel, aRs_bel, aDen_bel, cells_bel]; simp [AV.bel, aSs_bel, aIs_bel, aBs_bel, aRs_bel, aDen_bel, cells_bel])) ?_⟩
      · by_cases e : i = a
        · subst e; rw [hx]; rfl
        · exact hsome i (by omega)
      · rw [htk] at hy
        rcases List.mem_append.1 hy with hy | hy
        · exact hpos y hy
        · simp at hy; omega
      · refine Eq.trans (b := [Blk.cells (a + 1) ((((r.take a).map (AV.int .i64)).drop 0).take (a * 1) ++ [.int .i64 x]), .cells 0 [.int .i64 x]]) (by kernel_rfl) ?_
        show _ = [Blk.cells (a + 1) ((r.take (a + 1)).map (.int .i64)), .cells 0 [.int .i64 x]]
        rw [htk, List.drop_zero, List.take_of_length_le (by rw [List.length_map, hln]; omega), List.map_append]
        rfl
      · exact ⟨bels_map.2 fun x _ => by simp [AV.bel], trivial⟩
  have haq : a = q := by have := g; simp at this; omega
  subst haq
  have htl : r.take a = r := List.take_of_length_le (by omega)
  rw [htl] at hpos
  have hpall : (r.all fun x => decide (0 ≤ x)) = true := List.all_eq_true.2 fun x hx => by simpa using hpos x hx
  refine VCode.ent (Ent.fr' (l := [(0, aCs kc cs), (8, .hs 0 a 0 a 1)]) (H' := [.cells a (r.map (.int .i64))]) ⟨(by kernel_rfl), (by kernel_rfl), trivial⟩ (Eq.trans (b := [.cells a ((r.take a).map (.int .i64))]) (by kernel_rfl) (by rw [htl]))) ?_
  repeat first | refine opsStep ?_ | refine codeStep ?_ | refine drawStep ?_
  refine callZ 0 (g := a) (cs := r.map (.int .i64)) (by kernel_rfl) hC (.hs (b := 0) (g := a) rfl (by simp [hrl]) (.same (.same .nil))) ?_
  repeat first | refine opsStep ?_ | refine codeStep ?_ | refine drawStep ?_
  refine decB_dec (fun hlen => ?_) (fun hlen => ?_)
  · repeat first | refine opsStep ?_ | refine codeStep ?_ | refine drawStep ?_
    refine finR (l := [(4, .sl .nil 0 []), (5, .int .i64 3)]) (H₁ := [.fro a (r.map (.int .i64))]) (v := .tup [.sl .nil 0 [], .int .i64 3]) ⟨(by kernel_rfl), (by kernel_rfl), trivial⟩ (by kernel_rfl) (Ent.refl _ _ _) (by kernel_rfl) (.inl ⟨?_, rfl⟩)
    rw [← Bool.not_eq_true, hio]
    rintro ⟨_, _, _, h4⟩
    have hlen : (C.length : Int) ≠ (cs.length : Int) := hlen
    rw [h4] at hlen; exact hlen rfl
  have hlen : C.length = cs.length := by
    have h : ((C.length : Nat) : Int) = ((cs.length : Nat) : Int) := Decidable.of_not_not hlen
    exact Int.ofNat_inj.1 h
  repeat first | refine opsStep ?_ | refine codeStep ?_ | refine drawStep ?_
  refine loopE_of (ι := {i : Nat // i ≤ cs.length ∧ C.take i = cs.take i}) (fun i => (fr [(0, aCs kc cs), (8, .hs 0 a 0 a 1), (12, .sl .any C.length (cc3 C)), (13, .int .i64 i.1)], [.fro a (r.map (.int .i64))])) (fun i => cs.length - i.1) ⟨0, by omega, by simp⟩ (Ent.fr' ⟨(by kernel_rfl), (by kernel_rfl), (by kernel_rfl), (by kernel_rfl), trivial⟩ (by kernel_rfl)) ?_
  rintro ⟨i, hi, hpre⟩
  repeat first | refine opsStep ?_ | refine codeStep ?_ | refine drawStep ?_
  refine decB_dec (fun hil => ?_) (fun hil => ?_)
  · have hia : i < cs.length := by have := hil; simp at this; omega
    have hib : i < C.length := by omega
    obtain ⟨g1, g2⟩ := cc3_get (List.getElem?_eq_getElem hib)
    obtain ⟨g3, g4⟩ := cc3_get (List.getElem?_eq_getElem hia)
    have he : EqlE Try.prog 92 (((cc3 C).drop (i * 3)).take 3) (((cc3 cs).drop (i * 3)).take 3) (decide (C[i] = cs[i])) := by rw [g1, g3]; exact eqlC (hCo _ (List.getElem_mem hib)) (ho _ (List.getElem_mem hia))
    repeat first | refine opsStep ?_ | refine codeStep ?_ | refine drawStep ?_
    refine SW.drawn rfl (by kernel_rfl) ?_
    repeat first | refine opsStep ?_ | refine codeStep ?_ | refine drawStep ?_
    refine guardE_of (by simp; omega) ?_
    repeat first | refine opsStep ?_ | refine codeStep ?_ | refine drawStep ?_
    refine guardE_of g2 ?_
    repeat first | refine opsStep ?_ | refine codeStep ?_ | refine drawStep ?_
    refine guardE_of (by simp; omega) ?_
    repeat first | refine opsStep ?_ | refine codeStep ?_ | refine drawStep ?_
    refine guardE_of g4 ?_
    repeat first | refine opsStep ?_ | refine codeStep ?_ | refine drawStep ?_
    refine ⟨_, he, ?_⟩
    repeat first | refine opsStep ?_ | refine codeStep ?_ | refine drawStep ?_
    refine ⟨by kernel_rfl, ?_⟩
    repeat first | refine opsStep ?_ | refine codeStep ?_ | refine drawStep ?_
    refine decB_split (fun h => ?_) (fun h => ?_)
    · repeat first | refine opsStep ?_ | refine codeStep ?_ | refine drawStep ?_
      refine finR (l := [(4, .sl .nil 0 []), (5, .int .i64 3)]) (H₁ := [.fro a (r.map (.int .i64))]) (v := .tup [.sl .nil 0 [], .int .i64 3]) ⟨(by kernel_rfl), (by kernel_rfl), trivial⟩ (by kernel_rfl) (Ent.refl _ _ _) (by kernel_rfl) (.inl ⟨?_, rfl⟩)
      rw [← Bool.not_eq_true, hio]
      rintro ⟨_, _, _, h4⟩
      subst h4
      simp at h
    · repeat first | refine opsStep ?_ | refine codeStep ?_ | refine drawStep ?_
      refine ⟨⟨i + 1, by omega, ?_⟩, (by show cs.length - (i + 1) < cs.length - i; omega), Ent.fr' ⟨(by kernel_rfl), (by kernel_rfl), (by kernel_rfl), inc_slot (i := i) (by omega), trivial⟩ (by kernel_rfl)⟩
      rw [List.take_succ_eq_append_getElem hib, List.take_succ_eq_append_getElem hia, hpre]
      simp at h; rw [h]
  · have hie : i = cs.length := by have := hil; simp at this; omega
    have heq : C = cs := by
      subst hie
      rw [List.take_length, ← hlen, List.take_length] at hpre
      exact hpre
    repeat first | refine opsStep ?_ | refine codeStep ?_ | refine drawStep ?_
    exact finR (l := [(4, .hs 0 a 0 a 1), (5, .int .i64 0)]) (H₁ := [.fro a (r.map (.int .i64))]) (v := .tup [.hs 0 a 0 a 1, .int .i64 0]) ⟨(by kernel_rfl), (by kernel_rfl), trivial⟩ (by kernel_rfl) (Ent.refl _ _ _) (by kernel_rfl) (.inr ⟨hio.2 ⟨hcl, hsome, hpall, heq⟩, a, rfl, rfl⟩)

end Tab

/- table.Unpack. -/
namespace Tab
open Go Go.Proofs
set_option maxRecDepth 10000
set_option linter.unusedVariables false
set_option linter.unusedSimpArgs false
set_option linter.unusedSectionVars false

theorem den0_cl : aDen den0 = .agg [.sl .nil 0 [], .sl .nil 0 [], .sl .nil 0 []] := rfl
def unR (a : Aut) (i : Nat) : List (SK × List Int) := (List.range i).map fun q => (.any, rowC (a.row q) a.tracks.length)
theorem unR_length (a i) : (unR a i).length = i := by simp [unR]
theorem unR_succ (a i) : unR a (i + 1) = unR a i ++ [(.any, rowC (a.row i) a.tracks.length)] := by rw [unR, List.range_succ, List.map_append]; rfl
theorem table_Unpack (a : Aut) (ha : AutOk a) : Pure Try.prog 31 [aAut a] (.tup [aDen (unpD a), .int .i64 (unpE a)]) := by
  have h1 := ha.tracks
  have h2 := ha.accept
  have h4 := ha.arena
  have hck := table_Check a ha
  cases hc : checkS a with
  | false =>
    rw [unpE_bad hc] at hck
    rw [unpE_bad hc, unpD_bad hc]
    refine Pure.of_sw 50 Try.func31 rfl Try.ntmps31 (by kernel_rfl) (Nat.le_of_ble_eq_true (by kernel_rfl)) (by simp [closeds, AV.closed, aSs_closed, aIs_closed, aBs_closed, aRs_closed, aDen_closed, aCs_closed, aAut_closed]) (by simp [AV.closed, closeds, aSs_closed, aIs_closed, aBs_closed, aRs_closed, aDen_closed, aCs_closed, aAut_closed]) ?_; refine SW.of_vc ?_
    repeat first | refine opsStep ?_ | refine codeStep ?_ | refine drawStep ?_
    refine callP hck ?_
    repeat first | refine opsStep ?_ | refine codeStep ?_ | refine drawStep ?_
    exact finV (v' := .tup [aDen den0, .int .i64 3]) (by kernel_rfl) rfl
  | true =>
  rw [unpE_zero.2 hc] at hck
  rw [unpE_zero.2 hc, unpD_ok hc]
  have hc' := hc
  simp only [checkS, Bool.and_eq_true, List.all_eq_true, List.mem_range] at hc'
  obtain ⟨hf, hrows⟩ := hc'
  have hf := frameS_iff.1 hf
  obtain ⟨k6, _, _, k256⟩ := tracksS_parts hf.tracks
  have hcs := slices_Clone_S a.tk a.tracks (by omega)
  have hcb := slices_Clone_B a.ak a.accept (by omega)
  refine Pure.of_read (by simp [closeds, aAut_closed]) (by simp [AV.closed, closeds, aDen_closed]) (R := fun o H' => o = .ret (.tup [.agg [aSs .any a.tracks, aBs .any a.accept, .hs 3 a.accept.length 0 a.accept.length 1], .int .i64 0]) ∧ ∃ b0 b1 b2, H' = [b0, b1, b2, .cells a.accept.length ((unR a a.accept.length).map fun r => aIs r.1 r.2)]) ?_ ?_
  · refine ACall.of_sw 50 Try.func31 rfl Try.ntmps31 (by kernel_rfl) (Nat.le_of_ble_eq_true (by kernel_rfl)) ?_; refine SW.of_vc ?_
    repeat first | refine opsStep ?_ | refine codeStep ?_ | refine drawStep ?_
    refine callP hck ?_
    repeat first | refine opsStep ?_ | refine codeStep ?_ | refine drawStep ?_
    refine SW.drawn rfl (by kernel_rfl) ?_
    repeat first | refine opsStep ?_ | refine codeStep ?_ | refine drawStep ?_
    refine .inl ⟨_, _, [], hcs, RdsN_refl _, .inr rfl, none_need, ?_⟩
    repeat first | refine opsStep ?_ | refine codeStep ?_ | refine drawStep ?_
    refine .inl ⟨_, _, [], hcb, RdsN_refl _, .inr rfl, none_need, ?_⟩
    repeat first | refine opsStep ?_ | refine codeStep ?_ | refine drawStep ?_
    refine ⟨by kernel_rfl, ?_⟩
    repeat first | refine opsStep ?_ | refine codeStep ?_ | refine drawStep ?_
    refine loopE_of (ι := {q : Nat // q ≤ a.accept.length}) (fun q => (fr [(1, .ref 0 0 0), (2, .ref 1 0 0), (5, .ref 2 0 0), (24, .int .i64 a.accept.length), (25, .int .i64 q.1)], [.cells 0 a.cells, .cells 0 [.sl .nil 0 [], .sl .nil 0 [], .sl .nil 0 []], .cells 0 [aSs .any a.tracks, aBs .any a.accept, .hs 3 (q.1) 0 (q.1) 1], Blk.cells (q.1) ((unR a q.1).map fun r => aIs r.1 r.2)])) (fun q => a.accept.length - q.1) ⟨0, by omega⟩ ?_ ?_
    · exact ((Ent.fr' (l := [(1, .ref 0 0 0), (2, .ref 1 0 0), (5, .ref 2 0 0), (24, .int .i64 a.accept.length), (25, .int .i64 (0 : Nat))]) (H' := [.cells 0 a.cells, .cells 0 [.sl .nil 0 [], .sl .nil 0 [], .sl .nil 0 []], .cells 0 [aSs .any a.tracks, aBs .any a.accept, .sl .nil 0 []]]) ⟨(by kernel_rfl), (by kernel_rfl), (by kernel_rfl), (by kernel_rfl), (by kernel_rfl), trivial⟩ (by kernel_rfl)).trans (Ent.nilCell 2 2 1 rfl rfl)).to rfl
    rintro ⟨q, hq⟩
    repeat first | refine opsStep ?_ | refine codeStep ?_ | refine drawStep ?_
    refine decB_dec (fun h => ?_) (fun h => ?_)
    · have hqa : q < a.accept.length := by have := h; simp at this; omega
      obtain ⟨p1, p2⟩ := hf.get (q := q) (by omega)
      obtain ⟨p3, p4⟩ := hf.get (q := q + 1) (by omega)
      have hro := table_rowOf a q (by omega) p1 p3 (hf.le hqa) p4
      have hok := hrows q hqa
      simp only [rowOkS, Bool.and_eq_true, decide_eq_true_eq] at hok
      have hun := row_Unpack a.ck.cut (a.row q) a.tracks.length k6 (by omega) fun c hc => ha.cubes c (row_mem c hc)
      rw [rowU_ok hok.1.2] at hun
      have hs := unR_succ a q
      have hl := unR_length a q
      generalize rowC (a.row q) a.tracks.length = r at *
      generalize a.row q = cs at *
      generalize unR a q = rs at *
      repeat first | refine opsStep ?_ | refine codeStep ?_ | refine drawStep ?_
      refine SW.drawn rfl (by kernel_rfl) ?_
      repeat first | refine opsStep ?_ | refine codeStep ?_ | refine drawStep ?_
      refine .inl ⟨_, _, [], hro, RdsN_refl _, .inr rfl, none_need, ?_⟩
      repeat first | refine opsStep ?_ | refine codeStep ?_ | refine drawStep ?_
      refine .inl ⟨_, _, [], hun, RdsN_refl _, .inr rfl, none_need, ?_⟩
      repeat first | refine opsStep ?_ | refine codeStep ?_ | refine drawStep ?_
      refine ⟨by kernel_rfl, ?_⟩
      repeat first | refine opsStep ?_ | refine codeStep ?_ | refine drawStep ?_
      refine guardE_of ⟨rfl, by simp [hl]⟩ ?_
      repeat first | refine opsStep ?_ | refine codeStep ?_ | refine drawStep ?_
      refine guardE_of rfl ?_
      repeat first | refine opsStep ?_ | refine codeStep ?_ | refine drawStep ?_
      refine guardE_of ⟨by omega, by show (q + 1) * 24 ≤ 140737488355328; omega⟩ ?_
      repeat first | refine opsStep ?_ | refine codeStep ?_ | refine drawStep ?_
      refine ⟨⟨q + 1, by omega⟩, (by show a.accept.length - (q + 1) < a.accept.length - q; omega), Ent.frD (X := [.cells 0 [aIs .any r]]) ⟨(by kernel_rfl), (by kernel_rfl), (by kernel_rfl), (by kernel_rfl), inc_slot (i := q) (by omega), trivial⟩ ?_ (Nat.le_of_ble_eq_true (by kernel_rfl)) (by first | (simp [frBel, blksBel, Blk.bel, AV.bel, bels, bels_append, bels_map, aSs_bel, aIs_bel, aBs_bel, aRs_bel, aDen_bel, cells_bel]; done) | (simp only [List.drop_zero, ← List.map_take, ← List.map_drop, List.map_map, frBel, blksBel, Blk.bel, AV.bel, bels, bels_append, bels_map, aSs_bel, aIs_bel, aBs_bel, aRs_bel, aDen_bel, cells_bel]; simp [AV.bel, aSs_bel, aIs_bel, aBs_bel, aRs_bel, aDen_bel, cells_bel])) ?_⟩
      · refine Eq.trans (b := [.cells 0 a.cells, .cells 0 [.sl .nil 0 [], .sl .nil 0 [], .sl .nil 0 []], .cells 0 [aSs .any a.tracks, aBs .any a.accept, .hs 3 (q + 1) 0 (q + 1) 1], Blk.cells (q + 1) (((((rs).map fun r => aIs r.1 r.2)).drop 0).take (q * 1) ++ [aIs .any r]), .cells 0 [aIs .any r]]) (by kernel_rfl) ?_
        show _ = [.cells 0 a.cells, .cells 0 [.sl .nil 0 [], .sl .nil 0 [], .sl .nil 0 []], .cells 0 [aSs .any a.tracks, aBs .any a.accept, .hs 3 ((q + 1)) 0 ((q + 1)) 1], Blk.cells ((q + 1)) ((unR a (q + 1)).map fun r => aIs r.1 r.2)] ++ [.cells 0 [aIs .any r]]
        rw [hs, List.drop_zero, List.take_of_length_le (by simp [hl]), List.map_append]
        rfl
      · simp [blksBel, Blk.bel, bels, AV.bel, Aut.cells, bels_map, aSs_bel, aBs_bel, aIs_bel]
    · have hqa : q = a.accept.length := by have := h; simp at this; omega
      subst hqa
      repeat first | refine opsStep ?_ | refine codeStep ?_ | refine drawStep ?_
      exact finR (l := [(2, .ref 1 0 0), (3, .int .i64 0)]) (H₁ := [.cells 0 a.cells, .cells 0 [aSs .any a.tracks, aBs .any a.accept, .hs 3 a.accept.length 0 a.accept.length 1], .cells 0 [aSs .any a.tracks, aBs .any a.accept, .hs 3 a.accept.length 0 a.accept.length 1], Blk.cells a.accept.length ((unR a a.accept.length).map fun r => aIs r.1 r.2)]) (v := .tup [.agg [aSs .any a.tracks, aBs .any a.accept, .hs 3 a.accept.length 0 a.accept.length 1], .int .i64 0]) ⟨(by kernel_rfl), (by kernel_rfl), trivial⟩ (by kernel_rfl) (Ent.refl _ _ _) (by kernel_rfl) ⟨rfl, _, _, _, rfl⟩
  · rintro o H' ⟨rfl, b0, b1, b2, rfl⟩
    refine ⟨_, rfl, .tup (.cons (.agg (.cons (.refl _) (.cons (.refl _) (.cons ?_ .nil)))) (.cons (.refl _) .nil))⟩
    show Rd _ _ (aRs .any (unR a a.accept.length))
    have hl := unR_length a a.accept.length
    rw [aRs, hl]
    exact Rd.whole rfl (by simp [hl])

end Tab
