/- Lemmas for this claim: part 12. No condition. -/
import Derived.Test.YtbglkpnchafdpaaZ8
import Derived.Test.YtbglkpnchafdpaaZ9
import Derived.Test.YtbglkpnchafdpaaZ10
import Derived.Test.YtbglkpnchafdpaaZ11
/- Layer 15: words over fewer tracks; the law TrackMeans. -/
namespace Tab
open Go Go.Proofs
set_option maxRecDepth 10000
set_option linter.unusedVariables false
set_option linter.unusedSimpArgs false
set_option linter.unusedSectionVars false

def wordB (k : Nat) (v : List Int) : Bool := v.all fun x => decide (0 ≤ x) && decide (x < ((2 ^ k : Nat) : Int))
theorem wordB_iff {k v} : wordB k v = true ↔ ∀ x ∈ v, 0 ≤ x ∧ x < ((2 ^ k : Nat) : Int) := by simp [wordB]
theorem wordB_nat {k : Nat} {v : List Int} (h : wordB k v = true) : ∃ w : List Nat, v = w.map (fun a : Nat => (a : Int)) ∧ Lets k w := by
  have h := wordB_iff.1 h
  refine ⟨v.map Int.toNat, ?_, fun a ha => ?_⟩
  · rw [List.map_map]
    refine (List.map_id' v).symm.trans (List.map_congr_left fun x hx => ?_)
    have := h x hx
    simp only [Function.comp_apply]; omega
  · obtain ⟨x, hx, rfl⟩ := List.mem_map.1 ha
    have := h x hx
    omega
theorem wordB_bad {k : Nat} {v : List Int} {i : Nat} (hi : i < v.length) (h : v[i] < 0 ∨ ((2 ^ k : Nat) : Int) ≤ v[i]) : wordB k v = false := by
  rw [← Bool.not_eq_true]
  intro k
  have := wordB_iff.1 k _ (List.getElem_mem hi)
  omega

theorem r12_Word (kv : SK) (v : List Int) (k : Nat) (hv : v.length < 2^60) (hk : k ≤ 60) : Pure Try.prog 15 [aIs kv v, .int .i64 k] (.bool (wordB k v)) := by
  have hL := r12_Letters k (by omega)
  have hlet : lettersS k = ((2 ^ k : Nat) : Int) := by rw [lettersS_small (by omega)]; simp
  rw [hlet] at hL
  have hb := fun i (hi : i < v.length) => wordB_bad (k := k) hi
  have hok : (∀ x ∈ v, 0 ≤ x ∧ x < ((2 ^ k : Nat) : Int)) → wordB k v = true := wordB_iff.2
  generalize 2 ^ k = K at *
  generalize wordB k v = wb at *
  refine Pure.of_sw 26 Try.func15 rfl Try.ntmps15 (by kernel_rfl) (Nat.le_of_ble_eq_true (by kernel_rfl)) (by simp [closeds, AV.closed, aSs_closed, aIs_closed, aBs_closed, aRs_closed, aDen_closed]) (by simp [AV.closed, closeds, aSs_closed, aIs_closed, aBs_closed, aRs_closed, aDen_closed]) ?_; refine SW.of_vc ?_
  repeat first | refine opsStep ?_ | refine codeStep ?_ | refine drawStep ?_
  refine loopE_of (ι := {i : Nat // i ≤ v.length ∧ ∀ x ∈ v.take i, 0 ≤ x ∧ x < (K : Int)}) (fun i => (fr [(0, aIs kv v), (1, .int .i64 k), (5, .int .i64 i.1)], [])) (fun i => v.length - i.1) ⟨0, by omega, by simp⟩ (Ent.fr' ⟨(by kernel_rfl), (by kernel_rfl), (by kernel_rfl), trivial⟩ (by kernel_rfl)) ?_
  rintro ⟨i, hi, hpre⟩
  repeat first | refine opsStep ?_ | refine codeStep ?_ | refine drawStep ?_
  refine decB_dec (fun h => ?_) (fun h => ?_)
  · have hia : i < v.length := by have := h; simp at this; omega
    repeat first | refine opsStep ?_ | refine codeStep ?_ | refine drawStep ?_
    refine SW.drawn rfl (by kernel_rfl) ?_
    repeat first | refine opsStep ?_ | refine codeStep ?_ | refine drawStep ?_
    refine guardE_of (by simp; omega) ?_
    repeat first | refine opsStep ?_ | refine codeStep ?_ | refine drawStep ?_
    refine optE_of (c := .int .i64 v[i]) (by simp [Value.cells, hia]) ?_
    repeat first | refine opsStep ?_ | refine codeStep ?_ | refine drawStep ?_
    refine decB_dec (fun h1 => ?_) (fun h1 => ?_)
    · repeat first | refine opsStep ?_ | refine codeStep ?_ | refine drawStep ?_
      refine ⟨by kernel_rfl, ?_⟩
      repeat first | refine opsStep ?_ | refine codeStep ?_ | refine drawStep ?_
      exact finB (b' := false) (by kernel_rfl) (hb i hia (.inl h1)).symm
    · repeat first | refine opsStep ?_ | refine codeStep ?_ | refine drawStep ?_
      refine guardE_of (by simp; omega) ?_
      repeat first | refine opsStep ?_ | refine codeStep ?_ | refine drawStep ?_
      refine optE_of (c := .int .i64 v[i]) (by simp [Value.cells, hia]) ?_
      repeat first | refine opsStep ?_ | refine codeStep ?_ | refine drawStep ?_
      refine .inl ⟨_, _, [], hL, RdsN_refl _, .inr rfl, none_need, ?_⟩
      repeat first | refine opsStep ?_ | refine codeStep ?_ | refine drawStep ?_
      refine ⟨by kernel_rfl, ?_⟩
      repeat first | refine opsStep ?_ | refine codeStep ?_ | refine drawStep ?_
      refine decB_dec (fun h2 => ?_) (fun h2 => ?_)
      · repeat first | refine opsStep ?_ | refine codeStep ?_ | refine drawStep ?_
        exact finB (b' := false) (by kernel_rfl) (hb i hia (.inr h2)).symm
      · repeat first | refine opsStep ?_ | refine codeStep ?_ | refine drawStep ?_
        refine ⟨⟨i + 1, by omega, ?_⟩, (by show v.length - (i + 1) < v.length - i; omega), Ent.fr' ⟨(by kernel_rfl), (by kernel_rfl), inc_slot (i := i) (by omega), trivial⟩ (by kernel_rfl)⟩
        rw [List.take_succ_eq_append_getElem hia]
        intro x hx
        rcases List.mem_append.1 hx with hx | hx
        · exact hpre x hx
        · rw [List.mem_singleton.1 hx]; omega
  · have hia : i = v.length := by have := h; simp at this; omega
    repeat first | refine opsStep ?_ | refine codeStep ?_ | refine drawStep ?_
    refine finB (b' := true) (by kernel_rfl) (hok ?_).symm
    rw [hia, List.take_length] at hpre
    exact hpre

theorem or_bit (x a p t : Nat) (hx : x < 2 ^ t) (ha : a < 2 ^ 62) (hp : p ≤ 60) (ht : t ≤ 60) :
    IntKind.wrap .i64 ((BitVec.ofInt 64 (x : Int) ||| BitVec.ofInt 64 (IntKind.wrap .i64 (IntKind.wrap .i64 ((BitVec.ofInt 64 ((a : Int).fdiv (2 ^ (min (IntKind.wrap .u64 (p : Int)).toNat 64))) &&& BitVec.ofInt 64 1).toNat) * 2 ^ (min (IntKind.wrap .u64 (t : Int)).toNat 64)))).toNat) = ((x + a / 2 ^ p % 2 * 2 ^ t : Nat) : Int) := by
  have u : ∀ y : Nat, y ≤ 60 → IntKind.wrap .u64 (y : Int) = (y : Int) := fun y hy => by
    simp only [IntKind.wrap, IntKind.signed, IntKind.bits]
    simp; omega
  have e1 : (a : Int).fdiv (2 ^ (min (p : Int).toNat 64)) = ((a / 2 ^ p : Nat) : Int) := by
    rw [show min (p : Int).toNat 64 = p by simp; omega, show (2 : Int) ^ p = ((2 ^ p : Nat) : Int) by simp]
    rw [Int.fdiv_eq_ediv_of_nonneg _ (Int.natCast_nonneg _)]
    rfl
  rw [u p hp, u t ht, e1, and_one _ (Nat.lt_of_le_of_lt (Nat.div_le_self _ _) (by omega))]
  exact or_shift x (a / 2 ^ p % 2) t hx (by omega) ht

theorem places_snoc {called names : List (List UInt8)} {t : Nat} (h : t < called.length) : placesOf (called.take (t + 1)) names = placesOf (called.take t) names ++ [names.idxOf called[t]] := by
  rw [List.take_succ_eq_append_getElem h, placesOf, List.map_append]; rfl
theorem map_snoc {α β : Type} (f : α → β) {l : List α} {i : Nat} (h : i < l.length) : (l.take (i + 1)).map f = (l.take i).map f ++ [f l[i]] := by
  rw [List.take_succ_eq_append_getElem h, List.map_append]; rfl

theorem law15_picked (kw kn kc : SK) (w : List Nat) (names called : List (List UInt8)) (hw : w.length * 8 ≤ 140737488351232) (hn : names.length ≤ 6) (hc : called.length ≤ 6) (hin : ∀ s ∈ called, s ∈ names) (ha : ∀ a ∈ w, a < 64) :
    Pure Try.prog 17 [aIs kw (w.map fun a : Nat => (a : Int)), aSs kn names, aSs kc called] (aIs .any ((w.map fun a => gatN a (placesOf called names)).map fun a : Nat => (a : Int))) := by
  have hpl : (placesOf called names).length = called.length := by simp [placesOf]
  refine Pure.of_sw 53 Try.func17 rfl Try.ntmps17 (by kernel_rfl) (Nat.le_of_ble_eq_true (by kernel_rfl)) (by simp [closeds, AV.closed, aSs_closed, aIs_closed, aBs_closed, aRs_closed, aDen_closed]) (by simp [AV.closed, closeds, aSs_closed, aIs_closed, aBs_closed, aRs_closed, aDen_closed]) ?_; refine SW.of_vc ?_
  repeat first | refine opsStep ?_ | refine codeStep ?_ | refine drawStep ?_
  refine loopE_of (ι := {i : Nat // i ≤ w.length})
    (fun i => (fr [(1, aSs kn names), (2, aSs kc called), (7, .hs 0 i.1 0 i.1 1), (14, aIs kw (w.map fun a : Nat => (a : Int))), (15, .int .i64 w.length), (16, .int .i64 i.1)], [.cells i.1 (((w.take i.1).map fun a => gatN a (placesOf called names)).map fun a : Nat => .int .i64 (a : Int))]))
    (fun i => w.length - i.1) ⟨0, by omega⟩ (((Ent.fr' (l := [(1, aSs kn names), (2, aSs kc called), (7, .sl .nil 0 []), (14, aIs kw (w.map fun a : Nat => (a : Int))), (15, .int .i64 w.length), (16, .int .i64 (0 : Nat))]) (H' := []) ⟨(by kernel_rfl), (by kernel_rfl), (by kernel_rfl), (by kernel_rfl), ?_, (by kernel_rfl), trivial⟩ (by kernel_rfl)).trans (Ent.nil 7 1 rfl)).trans (Ent.fr' ⟨(by kernel_rfl), (by kernel_rfl), (by kernel_rfl), (by kernel_rfl), (by kernel_rfl), (by kernel_rfl), trivial⟩ (by kernel_rfl))) ?_
  · refine Eq.trans (b := .int .i64 ((w.map fun a : Nat => (a : Int)).length : Nat)) (by kernel_rfl) ?_
    rw [List.length_map]
  rintro ⟨i, hi⟩
  repeat first | refine opsStep ?_ | refine codeStep ?_ | refine drawStep ?_
  refine decB_dec (fun h => ?_) (fun h => ?_)
  · have hia : i < w.length := by have := h; simp at this; omega
    have hai := ha _ (List.getElem_mem hia)
    have hs := map_snoc (fun a => gatN a (placesOf called names)) hia
    have hl : ((w.take i).map fun a => gatN a (placesOf called names)).length = i := by simp; omega
    generalize (w.take i).map (fun a => gatN a (placesOf called names)) = ws at *
    repeat first | refine opsStep ?_ | refine codeStep ?_ | refine drawStep ?_
    refine guardE_of (by simp; omega) ?_
    repeat first | refine opsStep ?_ | refine codeStep ?_ | refine drawStep ?_
    refine optE_of (c := .int .i64 (w[i] : Nat)) (by simp [Value.cells, hia]) ?_
    repeat first | refine opsStep ?_ | refine codeStep ?_ | refine drawStep ?_
    generalize w[i] = a at *
    refine loopE_of (ι := {t : Nat // t ≤ called.length})
      (fun t => (fr [(1, aSs kn names), (2, aSs kc called), (7, .hs 0 i 0 i 1), (9, .int .i64 (a : Nat)), (10, .int .i64 (gatN a (placesOf (called.take t.1) names) : Nat)), (14, aIs kw (w.map fun a : Nat => (a : Int))), (15, .int .i64 w.length), (16, .int .i64 i), (20, aSs kc called), (21, .int .i64 called.length), (22, .int .i64 t.1)], [.cells i (ws.map fun a : Nat => .int .i64 (a : Int))]))
      (fun t => called.length - t.1) ⟨0, by omega⟩ (Ent.fr' ⟨(by kernel_rfl), (by kernel_rfl), (by kernel_rfl), (by kernel_rfl), (by kernel_rfl), (by kernel_rfl), (by kernel_rfl), (by kernel_rfl), (by kernel_rfl), (by kernel_rfl), (by kernel_rfl), trivial⟩ (by kernel_rfl)) ?_
    rintro ⟨t, ht⟩
    repeat first | refine opsStep ?_ | refine codeStep ?_ | refine drawStep ?_
    refine decB_dec (fun h => ?_) (fun h => ?_)
    · have hta : t < called.length := by have := h; simp at this; omega
      have hm := hin _ (List.getElem_mem hta)
      have hI := glyph_Index kn names called[t] (by omega)
      have hix : idxS names called[t] = (names.idxOf called[t] : Nat) := by rw [idxS, if_pos (List.idxOf_lt_length_of_mem hm)]
      rw [hix] at hI
      have hlt := List.idxOf_lt_length_of_mem hm
      have hps := places_snoc (names := names) hta
      have hgl := gatN_lt a (placesOf (called.take t) names)
      rw [show (placesOf (called.take t) names).length = t by simp [placesOf]; omega] at hgl
      have hge : gatN a (placesOf (called.take (t + 1)) names) = gatN a (placesOf (called.take t) names) + a / 2 ^ (names.idxOf called[t]) % 2 * 2 ^ t := by
        rw [hps, gatN_snoc, show (placesOf (called.take t) names).length = t by simp [placesOf]; omega]
      generalize gatN a (placesOf (called.take t) names) = x at *
      generalize names.idxOf called[t] = p at *
      have hob := or_bit x a p t hgl (by omega) (by omega) (by omega)
      repeat first | refine opsStep ?_ | refine codeStep ?_ | refine drawStep ?_
      refine guardE_of (by simp; omega) ?_
      repeat first | refine opsStep ?_ | refine codeStep ?_ | refine drawStep ?_
      refine optE_of (c := .str called[t]) (by simp [Value.cells, hta]) ?_
      repeat first | refine opsStep ?_ | refine codeStep ?_ | refine drawStep ?_
      refine callP hI ?_
      repeat first | refine opsStep ?_ | refine codeStep ?_ | refine drawStep ?_
      refine decB_dec (fun h60 => ?_) (fun h60 => ?_)
      · repeat first | refine opsStep ?_ | refine codeStep ?_ | refine drawStep ?_
        refine ⟨⟨t + 1, by omega⟩, (by show called.length - (t + 1) < called.length - t; omega), Ent.fr' ⟨(by kernel_rfl), (by kernel_rfl), (by kernel_rfl), (by kernel_rfl), ?_, (by kernel_rfl), (by kernel_rfl), (by kernel_rfl), (by kernel_rfl), (by kernel_rfl), inc_slot (i := t) (by omega), trivial⟩ (by kernel_rfl)⟩
        refine Eq.trans (b := .int .i64 (IntKind.wrap .i64 ((BitVec.ofInt 64 (x : Int) ||| BitVec.ofInt 64 (IntKind.wrap .i64 (IntKind.wrap .i64 ((BitVec.ofInt 64 ((a : Int).fdiv (2 ^ (min (IntKind.wrap .u64 (p : Int)).toNat 64))) &&& BitVec.ofInt 64 1).toNat) * 2 ^ (min (IntKind.wrap .u64 (t : Int)).toNat 64)))).toNat))) (by kernel_rfl) ?_
        rw [hob, ← hge]
      · exact absurd (show (p : Int) < 60 by omega) h60
    · have hta : t = called.length := by have := h; simp at this; omega
      subst hta
      have ht1 : called.take called.length = called := List.take_length
      refine VCode.ent (Ent.fr' (l := [(1, aSs kn names), (2, aSs kc called), (7, .hs 0 i 0 i 1), (10, .int .i64 (gatN a (placesOf called names) : Nat)), (14, aIs kw (w.map fun a : Nat => (a : Int))), (15, .int .i64 w.length), (16, .int .i64 i)]) (H' := [.cells i (ws.map fun a : Nat => .int .i64 (a : Int))]) ⟨(by kernel_rfl), (by kernel_rfl), (by kernel_rfl), ?_, (by kernel_rfl), (by kernel_rfl), (by kernel_rfl), trivial⟩ (by kernel_rfl)) ?_
      · refine Eq.trans (b := .int .i64 (gatN a (placesOf (called.take called.length) names) : Nat)) (by kernel_rfl) ?_
        rw [ht1]
      repeat first | refine opsStep ?_ | refine codeStep ?_ | refine drawStep ?_
      refine guardE_of ⟨rfl, by simp [hl]⟩ ?_
      refine guardE_of rfl ?_
      refine guardE_of ⟨by omega, by show (i + 1) * 8 ≤ 140737488355328; omega⟩ ?_
      repeat first | refine opsStep ?_ | refine codeStep ?_ | refine drawStep ?_
      refine ⟨⟨i + 1, by omega⟩, (by show w.length - (i + 1) < w.length - i; omega), Ent.to (Ent.frD (X := [.cells 0 [.int .i64 (gatN a (placesOf called names) : Nat)]]) (H' := [.cells (i + 1) (((ws.map fun a : Nat => AV.int .i64 (a : Int)).drop 0).take (i * 1) ++ [.int .i64 (gatN a (placesOf called names) : Nat)])])
        ⟨(by kernel_rfl), (by kernel_rfl), (by kernel_rfl), (by kernel_rfl), (by kernel_rfl), inc_slot (i := i) (by omega), trivial⟩ (by kernel_rfl) (Nat.zero_le _) (by first | (simp [frBel, blksBel, Blk.bel, AV.bel, bels, bels_append, bels_map, aSs_bel, aIs_bel, aBs_bel, aRs_bel, aDen_bel, cells_bel]; done) | (simp only [List.drop_zero, ← List.map_take, ← List.map_drop, List.map_map, frBel, blksBel, Blk.bel, AV.bel, bels, bels_append, bels_map, aSs_bel, aIs_bel, aBs_bel, aRs_bel, aDen_bel, cells_bel]; simp [AV.bel, aSs_bel, aIs_bel, aBs_bel, aRs_bel, aDen_bel, cells_bel])) ?_) ?_⟩
      · rw [td_all (by simp [hl])]
        simp [blksBel, Blk.bel, bels_append, bels_map, bels, AV.bel]
      · rw [td_all (by simp [hl])]
        show _ = [Blk.cells (i + 1) (((w.take (i + 1)).map fun a => gatN a (placesOf called names)).map fun a : Nat => .int .i64 (a : Int))]
        rw [hs, List.map_append]; rfl
  · have hia : i = w.length := by have := h; simp at this; omega
    subst hia
    have ht1 : w.take w.length = w := List.take_length
    have er : aIs .any ((w.map fun a => gatN a (placesOf called names)).map fun a : Nat => (a : Int)) = .sl .any w.length (((w.take w.length).map fun a => gatN a (placesOf called names)).map fun a : Nat => .int .i64 (a : Int)) := by
      rw [ht1, aIs]; simp [Function.comp_def]
    rw [er]
    repeat first | refine opsStep ?_ | refine codeStep ?_ | refine drawStep ?_
    exact finFrz 6 (b := 0) (g := w.length) (es := 1) (by kernel_rfl) (by kernel_rfl) (by simp) (by kernel_rfl)

/-! ### The plain law -/

theorem wid_step {d : Den} (hr : rightS d = true) {n : Nat} {P : List Nat} (hP : P.length = d.tracks.length) {q a : Nat} (hq : q < d.accept.length) (ha : a < 2 ^ n) :
    stepN (d.rows.map (ovRow n P)) q a = stepN d.rows q (gatN a P) := by
  have hl := rows_length hr
  have hq' : q < d.rows.length := by omega
  simp [stepN, List.getD_eq_getElem?_getD, hq', ovRow, ha]
theorem wid_run {d : Den} (hr : rightS d = true) {n : Nat} {P : List Nat} (hP : P.length = d.tracks.length) : ∀ (w : List Nat) {q : Nat}, q < d.accept.length → Lets n w →
    runN (d.rows.map (ovRow n P)) q w = runN d.rows q (w.map fun a => gatN a P)
  | [], q, _, _ => rfl
  | a :: w, q, hq, hw => by
    have hg := gatN_lt a P
    rw [hP] at hg
    obtain ⟨_, _, _, h4⟩ := stepN_ok hr hq hg
    show runN _ (stepN _ q a) w = runN _ (stepN _ q (gatN a P)) _
    rw [wid_step hr hP hq (hw a (by simp))]
    exact wid_run hr hP w h4 fun b hb => hw b (by simp [hb])

theorem gat_onto {n : Nat} {P : List Nat} (hn : P.Nodup) (hp : ∀ p ∈ P, p < n) {b : Nat} (hb : b < 2 ^ P.length) : ∃ a, a < 2 ^ n ∧ gatN a P = b := by
  refine ⟨gatN b ((List.range n).map fun j => P.idxOf j), by have := gatN_lt b ((List.range n).map fun j => P.idxOf j); simpa using this, ?_⟩
  rw [gat_comp b _ P fun p h => by simpa using hp p h]
  have e : P.map (fun p => ((List.range n).map fun j => P.idxOf j).getD p 0) = List.range P.length := by
    refine List.ext_getElem (by simp) fun i h1 h2 => ?_
    have hi : i < P.length := by simpa using h2
    have hpi := hp _ (List.getElem_mem hi)
    have hix : P.idxOf P[i] = i := by
      have hm := List.idxOf_lt_length_of_mem (List.getElem_mem hi)
      have e := List.getElem_idxOf hm
      rcases Nat.lt_trichotomy (P.idxOf P[i]) i with h1 | h1 | h1
      · exact absurd e (List.pairwise_iff_getElem.1 hn _ _ hm hi h1)
      · exact h1
      · exact absurd e.symm (List.pairwise_iff_getElem.1 hn _ _ hi hm h1)
    simp [List.getD_eq_getElem?_getD, hpi, hix]
  rw [e, gat_range hb]
theorem gat_onto_word {n : Nat} {P : List Nat} (hn : P.Nodup) (hp : ∀ p ∈ P, p < n) : ∀ (u : List Nat), Lets P.length u → ∃ v, Lets n v ∧ v.map (fun a => gatN a P) = u
  | [], _ => ⟨[], fun a ha => absurd ha (by simp), rfl⟩
  | b :: u, h => by
    obtain ⟨a, ha, e⟩ := gat_onto (n := n) hn hp (h b (by simp))
    obtain ⟨v, hv, e'⟩ := gat_onto_word hn hp u fun x hx => h x (by simp [hx])
    exact ⟨a :: v, fun x hx => by
      rcases List.mem_cons.1 hx with rfl | hx
      · exact ha
      · exact hv x hx, by rw [List.map_cons, e, e']⟩

theorem lets_gat {n : Nat} {P : List Nat} (v : List Nat) : Lets P.length (v.map fun a => gatN a P) := fun b hb => by
  obtain ⟨a, _, rfl⟩ := List.mem_map.1 hb
  exact gatN_lt a P
theorem lets_append {k : Nat} {u v : List Nat} (hu : Lets k u) (hv : Lets k v) : Lets k (u ++ v) := fun a ha => by
  rcases List.mem_append.1 ha with ha | ha
  · exact hu a ha
  · exact hv a ha

structure WidOk (d : Den) (names : List (List UInt8)) : Prop where
  right : rightS d = true
  names6 : names.length ≤ 6
  len : (placesOf d.tracks names).length = d.tracks.length
  nodup : (placesOf d.tracks names).Nodup
  lt : ∀ p ∈ placesOf d.tracks names, p < names.length
  wright : rightS (widenR d names) = true
  tracks : (widenR d names).tracks = names
  mem : ∀ s ∈ d.tracks, s ∈ names
theorem wid_ok {d : Den} {names : List (List UInt8)} (h : widenE d names = 0) : WidOk d names := by
  obtain ⟨hr, h2, h3, h4⟩ := widenE_of_ok h
  obtain ⟨k2, k3, _, _⟩ := tracksS_parts (rightS_parts hr).1
  have hin := inAll_iff.1 h4
  have hnd := strict_nodup (rises_strict k3)
  refine ⟨hr, h3, by simp [placesOf], ?_, ?_, ?_, by rw [widenR_ok h]; rfl, hin⟩
  · refine List.pairwise_iff_getElem.2 fun i j hi hj hij e => ?_
    have hi' : i < d.tracks.length := by simpa [placesOf] using hi
    have hj' : j < d.tracks.length := by simpa [placesOf] using hj
    simp only [placesOf, List.getElem_map] at e
    have := idx_inj' (hin _ (List.getElem_mem hi')) (hin _ (List.getElem_mem hj')) e
    exact List.pairwise_iff_getElem.1 hnd i j hi' hj' hij this
  · intro p hp
    obtain ⟨s, hs, rfl⟩ := List.mem_map.1 hp
    exact List.idxOf_lt_length_of_mem (hin s hs)
  · rw [widenR_ok h, widenD_ov]
    exact ovD_right hr h3 h2 (by simp [placesOf])

theorem wid_lang {d : Den} {names : List (List UInt8)} (h : widenE d names = 0) {v : List Nat} (hv : Lets names.length v) : lang (widenR d names) v = lang d (v.map fun a => gatN a (placesOf d.tracks names)) := by
  have ok := wid_ok h
  have hl := lets_gat (n := names.length) (P := placesOf d.tracks names) v
  rw [ok.len] at hl
  rw [lang, langR_let (by rw [ok.tracks]; exact hv), lang, langR_let hl, widenR_ok h]
  have e : (widenD d names).rows = d.rows.map (ovRow names.length (placesOf d.tracks names)) := by simp [widenD, Den.rows, Function.comp_def]
  rw [e, wid_run ok.right ok.len v (right_pos ok.right) hv]
  rfl
theorem wid_sound {d : Den} {names : List (List UInt8)} (h : widenE d names = 0) : soundD (widenR d names) = soundD d := by
  have ok := wid_ok h
  have hiff : SoundL names.length (lang (widenR d names)) ↔ SoundL d.tracks.length (lang d) := by
    have one : ∀ {a}, a < 2 ^ names.length → Lets names.length [a] := fun {a} ha x hx => by simp at hx; omega
    have two : ∀ {a}, a < 2 ^ names.length → Lets names.length [a, a] := fun {a} ha x hx => by simp at hx; omega
    constructor
    · rintro ⟨h1, h2⟩
      refine ⟨by rw [wid_lang h (fun a ha => absurd ha (by simp))] at h1; exact h1, fun u b hu hb => ?_⟩
      rw [← ok.len] at hu hb
      obtain ⟨a, ha, ea⟩ := gat_onto (n := names.length) ok.nodup ok.lt hb
      obtain ⟨v, hv, ev⟩ := gat_onto_word (n := names.length) ok.nodup ok.lt u hu
      have := h2 v a hv ha
      rw [wid_lang h (lets_append hv (one ha)), wid_lang h (lets_append hv (two ha)), List.map_append, List.map_append, ev] at this
      simpa [ea] using this
    · rintro ⟨h1, h2⟩
      refine ⟨by rw [wid_lang h (fun a ha => absurd ha (by simp))]; exact h1, fun v a hv ha => ?_⟩
      rw [wid_lang h (lets_append hv (one ha)), wid_lang h (lets_append hv (two ha)), List.map_append, List.map_append]
      have hl := lets_gat (n := names.length) (P := placesOf d.tracks names) v
      rw [ok.len] at hl
      have hg := gatN_lt a (placesOf d.tracks names)
      rw [ok.len] at hg
      exact h2 _ _ hl hg
  have e1 := soundD_iff ok.wright
  rw [ok.tracks, hiff, ← soundD_iff ok.right] at e1
  cases h1 : soundD (widenR d names) <;> cases h2 : soundD d <;> simp_all

end Tab

/- tabardref16.grow. -/
namespace Tab
open Go Go.Proofs
set_option maxRecDepth 10000
set_option linter.unusedVariables false
set_option linter.unusedSimpArgs false
set_option linter.unusedSectionVars false

/-! ### What the product is, as a value -/

def holdsS (op : Int) (a b : Bool) : Bool := if op = 3 then a && b else if op = 4 then a || b else if op = 5 then !a || b else if op = 6 then a == b else !a
def prdM (cn : Bool → Bool → Bool) (names : List (List UInt8)) (d e : Den) (L : List Pr) : Den := ⟨.any, names, .any, L.map (accP cn d e), .any, L.map fun p => (.any, rowX (pf d e) L p)⟩
@[irreducible] def prdV (cn : Bool → Bool → Bool) (names : List (List UInt8)) (d e : Den) : Den := match prdR d e with | some L => prdM cn names d e L | none => den0
@[irreducible] def prdE (d e : Den) : Int := match prdR d e with | some _ => 0 | none => 140
theorem prd_some {cn names d e L} (h : prdR d e = some L) : prdV cn names d e = prdM cn names d e L ∧ prdE d e = 0 := by
  unfold prdV prdE; rw [h]; exact ⟨rfl, rfl⟩
theorem prd_none {cn names d e} (h : prdR d e = none) : prdV cn names d e = den0 ∧ prdE d e = 140 := by
  unfold prdV prdE; rw [h]; exact ⟨rfl, rfl⟩

theorem r16_Holds (op : Int) (a b : Bool) : Pure Try.prog 63 [.int .i64 op, .bool a, .bool b] (.bool (holdsS op a b)) := by
  refine Pure.of_sw 34 Try.func63 rfl Try.ntmps63 (by kernel_rfl) (Nat.le_of_ble_eq_true (by kernel_rfl)) (by simp [closeds, AV.closed, aSs_closed, aIs_closed, aBs_closed, aRs_closed, aDen_closed]) (by simp [AV.closed, closeds, aSs_closed, aIs_closed, aBs_closed, aRs_closed, aDen_closed]) ?_; refine SW.of_vc ?_
  repeat first | refine opsStep ?_ | refine codeStep ?_ | refine drawStep ?_
  refine decB_dec (fun h3 => ?_) (fun h3 => ?_)
  · repeat first | refine opsStep ?_ | refine codeStep ?_ | refine drawStep ?_
    refine decB_split (fun h => ?_) (fun h => ?_)
    · repeat first | refine opsStep ?_ | refine codeStep ?_ | refine drawStep ?_
      exact finV (v' := .bool b) (by kernel_rfl) (by rw [holdsS, if_pos h3, h]; simp)
    · repeat first | refine opsStep ?_ | refine codeStep ?_ | refine drawStep ?_
      exact finV (v' := .bool false) (by kernel_rfl) (by rw [holdsS, if_pos h3, h]; simp)
  repeat first | refine opsStep ?_ | refine codeStep ?_ | refine drawStep ?_
  refine decB_dec (fun h4 => ?_) (fun h4 => ?_)
  · repeat first | refine opsStep ?_ | refine codeStep ?_ | refine drawStep ?_
    refine decB_split (fun h => ?_) (fun h => ?_)
    · repeat first | refine opsStep ?_ | refine codeStep ?_ | refine drawStep ?_
      exact finV (v' := .bool true) (by kernel_rfl) (by rw [holdsS, if_neg h3, if_pos h4, h]; simp)
    · repeat first | refine opsStep ?_ | refine codeStep ?_ | refine drawStep ?_
      exact finV (v' := .bool b) (by kernel_rfl) (by rw [holdsS, if_neg h3, if_pos h4, h]; simp)
  repeat first | refine opsStep ?_ | refine codeStep ?_ | refine drawStep ?_
  refine decB_dec (fun h5 => ?_) (fun h5 => ?_)
  · repeat first | refine opsStep ?_ | refine codeStep ?_ | refine drawStep ?_
    refine decB_split (fun h => ?_) (fun h => ?_)
    · repeat first | refine opsStep ?_ | refine codeStep ?_ | refine drawStep ?_
      exact finV (v' := .bool true) (by kernel_rfl) (by rw [holdsS, if_neg h3, if_neg h4, if_pos h5, h]; simp)
    · repeat first | refine opsStep ?_ | refine codeStep ?_ | refine drawStep ?_
      exact finV (v' := .bool b) (by kernel_rfl) (by rw [holdsS, if_neg h3, if_neg h4, if_pos h5, h]; simp)
  repeat first | refine opsStep ?_ | refine codeStep ?_ | refine drawStep ?_
  refine decB_dec (fun h6 => ?_) (fun h6 => ?_)
  · repeat first | refine opsStep ?_ | refine codeStep ?_ | refine drawStep ?_
    exact finV (v' := .bool (a == b)) (by kernel_rfl) (by rw [holdsS, if_neg h3, if_neg h4, if_neg h5, if_pos h6])
  repeat first | refine opsStep ?_ | refine codeStep ?_ | refine drawStep ?_
  exact finV (v' := .bool (!a)) (by kernel_rfl) (by rw [holdsS, if_neg h3, if_neg h4, if_neg h5, if_neg h6])

/-! ### Pairs as numbers -/

def gN (n : Nat) (p : Pr) : Nat := if p = stP then 0 else (p.1 * n + p.2 + 1).toNat
theorem gN_st (n) : gN n stP = 0 := if_pos rfl
theorem gN_ok {d e : Den} {p : Pr} (h : okS d e p) : (gN e.accept.length p : Int) = p.1 * e.accept.length + p.2 + 1 ∧ gN e.accept.length p < d.accept.length * e.accept.length + 1 := by
  obtain ⟨h1, h2, h3, h4⟩ := h
  have hne : p ≠ stP := fun e => by rw [e] at h1; simp at h1
  have hm : 0 ≤ p.1 * (e.accept.length : Int) := Int.mul_nonneg h1 (by omega)
  have e1 : (gN e.accept.length p : Int) = p.1 * e.accept.length + p.2 + 1 := by rw [gN, if_neg hne]; omega
  refine ⟨e1, ?_⟩
  have : (p.1 + 1) * (e.accept.length : Int) ≤ d.accept.length * e.accept.length := Int.mul_le_mul_of_nonneg_right (by omega) (by omega)
  rw [Int.add_mul, Int.one_mul] at this
  have e2 : ((d.accept.length * e.accept.length : Nat) : Int) = d.accept.length * e.accept.length := by simp
  omega
theorem gN_inj {d e : Den} {p q : Pr} (hp : p = stP ∨ okS d e p) (hq : q = stP ∨ okS d e q) (h : gN e.accept.length p = gN e.accept.length q) : p = q := by
  have pos : ∀ {x : Pr}, okS d e x → gN e.accept.length x ≠ 0 := fun {x} hx => by
    have := (gN_ok hx).1
    obtain ⟨h1, h2, h3, h4⟩ := hx
    have hm : 0 ≤ x.1 * (e.accept.length : Int) := Int.mul_nonneg h1 (by omega)
    omega
  rcases hp with rfl | hp
  · rcases hq with rfl | hq
    · rfl
    · rw [gN_st] at h; exact absurd h.symm (pos hq)
  · rcases hq with rfl | hq
    · rw [gN_st] at h; exact absurd h (pos hp)
    · have e1 := (gN_ok hp).1
      have e2 := (gN_ok hq).1
      obtain ⟨a1, a2, a3, a4⟩ := hp
      obtain ⟨b1, b2, b3, b4⟩ := hq
      have h0 : p.1 * (e.accept.length : Int) + p.2 = q.1 * e.accept.length + q.2 := by omega
      have q1 : (p.1 * (e.accept.length : Int) + p.2) / e.accept.length = p.1 := by
        rw [Int.add_comm, Int.add_mul_ediv_right _ _ (by omega), Int.ediv_eq_zero_of_lt a3 a4]; omega
      have q2 : (q.1 * (e.accept.length : Int) + q.2) / e.accept.length = q.1 := by
        rw [Int.add_comm, Int.add_mul_ediv_right _ _ (by omega), Int.ediv_eq_zero_of_lt b3 b4]; omega
      have e3 : p.1 = q.1 := by rw [← q1, ← q2, h0]
      refine Prod.ext e3 ?_
      rw [e3] at h0; omega

theorem gN_arith {d e : Den} {p : Pr} {n : Nat} (h : okS d e p) (hn : e.accept.length = n) (hd : d.accept.length ≤ 256) (he : n ≤ 256) :
    IntKind.wrap .i64 ((gN n p : Int) - 1) = p.1 * n + p.2 ∧ (n : Int) ≠ 0 ∧ (p.1 * (n : Int) + p.2).tdiv n = p.1 ∧ (p.1 * (n : Int) + p.2).tmod n = p.2 ∧ IntKind.wrap .i64 p.1 = p.1 ∧ 0 ≤ p.1 ∧ p.1 < d.accept.length ∧ 0 ≤ p.2 ∧ p.2 < n := by
  have q1 := (gN_ok h).1
  obtain ⟨a1, a2, a3, a4⟩ := h
  rw [hn] at a4 q1
  have hm0 : 0 ≤ p.1 * (n : Int) := Int.mul_nonneg a1 (by omega)
  have hm1 : p.1 * (n : Int) ≤ 256 * 256 := Int.mul_le_mul (by omega) (by omega) (by omega) (by omega)
  refine ⟨by rw [IntWalk.i64_in _ (by omega)]; omega, by omega, ?_, ?_, IntWalk.i64_in _ (by omega), a1, a2, a3, a4⟩
  · rw [Int.tdiv_eq_ediv_of_nonneg (by omega), Int.add_comm, Int.add_mul_ediv_right _ _ (by omega), Int.ediv_eq_zero_of_lt a3 a4]; omega
  · rw [Int.tmod_eq_emod_of_nonneg (by omega), Int.add_comm, Int.add_mul_emod_self_right, Int.emod_eq_of_lt a3 a4]
theorem gN_wrap {d e : Den} {c1 c2 n : Nat} (h1 : c1 < d.accept.length) (h2 : c2 < e.accept.length) (hn : e.accept.length = n) (hd : d.accept.length ≤ 256) (he : n ≤ 256) :
    IntKind.wrap .i64 (IntKind.wrap .i64 (IntKind.wrap .i64 ((c1 : Int) * n) + c2) + 1) = (gN n ((c1 : Int), (c2 : Int)) : Int) ∧ okS d e ((c1 : Int), (c2 : Int)) := by
  have hok : okS d e ((c1 : Int), (c2 : Int)) := ⟨by simp, by simpa using h1, by simp, by simpa using h2⟩
  have q1 := (gN_ok hok).1
  rw [hn] at q1
  simp only at q1
  have hm0 : 0 ≤ (c1 : Int) * (n : Int) := Int.mul_nonneg (by omega) (by omega)
  have hm1 : (c1 : Int) * (n : Int) ≤ 256 * 256 := Int.mul_le_mul (by omega) (by omega) (by omega) (by omega)
  refine ⟨?_, hok⟩
  rw [IntWalk.i64_in ((c1 : Int) * n) (by omega), IntWalk.i64_in ((c1 : Int) * n + c2) (by omega), IntWalk.i64_in _ (by omega), q1]
def numZ (n : Nat) (L : List Nat) : List Int := (List.range n).map fun j => if j ∈ L then (ixOf L j : Int) else 0
theorem numZ_length (n L) : (numZ n L).length = n := by simp [numZ]
theorem numZ_get {n L j} (h : j < n) : (numZ n L)[j]? = some (if j ∈ L then (ixOf L j : Int) else 0) := by simp [numZ, h]
theorem numZ_set {n : Nat} {L : List Nat} {x : Nat} (hx : x ∉ L) : (numZ n L).set x (L.length : Int) = numZ n (L ++ [x]) := by
  refine List.ext_getElem (by simp [numZ]) fun j h1 h2 => ?_
  simp only [numZ, ixOf, List.getElem_set, List.getElem_map, List.getElem_range, List.mem_append, List.mem_singleton, List.idxOf_append]
  by_cases e : x = j
  · subst e; simp [hx]
  · have e' : ¬ j = x := fun k => e k.symm
    rw [if_neg e]
    by_cases hj : j ∈ L
    · simp [hj]
    · simp [hj, e']
/-- The place of a pair's number is the pair's. -/
theorem nums_ix {d e : Den} {M : List Pr} {t : Pr} (hM : ∀ p ∈ M, p = stP ∨ okS d e p) (ht : t = stP ∨ okS d e t) : (gN e.accept.length t ∈ M.map (gN e.accept.length) ↔ t ∈ M) ∧ ixOf (M.map (gN e.accept.length)) (gN e.accept.length t) = ixOf M t := by
  constructor
  · constructor
    · intro h
      obtain ⟨y, hy, e1⟩ := List.mem_map.1 h
      exact gN_inj (hM y hy) ht e1 ▸ hy
    · exact fun h => List.mem_map.2 ⟨t, h, rfl⟩
  · exact idxOf_map (gN e.accept.length) fun y hy e1 => gN_inj (hM y hy) ht e1

set_option maxHeartbeats 2000000 in
theorem r16_grow (op : Int) (d e : Den) (hd : DenOk d) (he : DenOk e) (rd : rightS d = true) (re : rightS e = true) (hk : d.tracks.length = e.tracks.length) :
    Pure Try.prog 41 [.int .i64 op, aDen d, aDen e] (.tup [aDen (prdV (holdsS op) d.tracks d e), .int .i64 (prdE d e)]) := by
  obtain ⟨gd1, gd2, gd3⟩ := rightS_parts rd
  obtain ⟨ge1, ge2, ge3⟩ := rightS_parts re
  obtain ⟨jd1, jd2, jd3, jd4⟩ := tracksS_parts gd1
  obtain ⟨je1, je2, je3, je4⟩ := tracksS_parts ge1
  have hpd := right_pos rd
  have hpe := right_pos re
  obtain ⟨K, hKe⟩ : ∃ K, 2 ^ d.tracks.length = K := ⟨_, rfl⟩
  have hK : K ≤ 64 := by have : 2 ^ d.tracks.length ≤ 2 ^ 6 := Nat.pow_le_pow_right (by omega) jd1; omega
  obtain ⟨n, hn⟩ : ∃ n, e.accept.length = n := ⟨_, rfl⟩
  obtain ⟨N, hN⟩ : ∃ N, d.accept.length * n + 1 = N := ⟨_, rfl⟩
  have hNb : d.accept.length * n ≤ 256 * 256 := Nat.mul_le_mul (by omega) (by omega)
  have hgok : ∀ {p : Pr}, okS d e p → (gN n p : Int) = p.1 * n + p.2 + 1 ∧ gN n p < N := fun h => by have := gN_ok h; rw [hn] at this; rw [← hN]; exact this
  have hnix : ∀ {M : List Pr} {t : Pr}, (∀ p ∈ M, p = stP ∨ okS d e p) → (t = stP ∨ okS d e t) → (gN n t ∈ M.map (gN n) ↔ t ∈ M) ∧ ixOf (M.map (gN n)) (gN n t) = ixOf M t := fun h1 h2 => by have := nums_ix h1 h2; rw [hn] at this; exact this
  have hw1 : IntKind.wrap .i64 ((d.accept.length : Int) * n) = ((d.accept.length * n : Nat) : Int) := by rw [← Int.natCast_mul]; exact IntWalk.i64_in _ (by omega)
  have hw2 : IntKind.wrap .i64 (((d.accept.length * n : Nat) : Int) + 1) = N := by rw [IntWalk.i64_in _ (by omega)]; omega
  refine Pure.of_read (by simp [closeds, aDen_closed, AV.closed]) (by simp [AV.closed, closeds, aDen_closed])
    (R := fun o H' => (∃ L, prdR d e = some L ∧ o = .ret (.tup [.agg [.hs 5 1 0 d.tracks.length 1, .hs 7 L.length 0 L.length 1, .hs 8 L.length 0 L.length 1], .int .i64 0]) ∧
      ∃ b0 b1 b2 b3 b4 b6, H' = [b0, b1, b2, b3, b4, .cells 1 (d.tracks.map .str), b6, .cells L.length ((L.map (accP (holdsS op) d e)).map .bool), .cells L.length ((L.map (rowX (pf d e) L)).map (aIs .any))])
      ∨ (prdR d e = none ∧ o = .ret (.tup [aDen den0, .int .i64 140]))) ?_ ?_
  rotate_left
  · rintro o H' (⟨L, hL, rfl, b0, b1, b2, b3, b4, b6, rfl⟩ | ⟨hL, rfl⟩)
    · obtain ⟨h1, h2⟩ := prd_some (cn := holdsS op) (names := d.tracks) hL
      rw [h1, h2]
      refine ⟨_, rfl, .tup (.cons (.agg (.cons ?_ (.cons ?_ (.cons ?_ .nil)))) (.cons (.refl _) .nil))⟩
      · exact Rd.whole (cs := d.tracks.map .str) rfl (by simp)
      · show Rd _ _ (aBs .any (L.map (accP (holdsS op) d e)))
        rw [aBs, List.length_map]
        exact Rd.whole rfl (by simp)
      · have e1 : aRs .any (prdM (holdsS op) d.tracks d e L).next = .sl .any L.length ((L.map (rowX (pf d e) L)).map (aIs .any)) := by simp [aRs, prdM, Function.comp_def]
        show Rd _ _ (aRs .any (prdM (holdsS op) d.tracks d e L).next)
        rw [e1]
        exact Rd.whole rfl (by simp)
    · obtain ⟨h1, h2⟩ := prd_none (cn := holdsS op) (names := d.tracks) hL
      rw [h1, h2]
      exact ⟨_, rfl, .refl _⟩
  have hR : explO (pf d e) 256 (300 - 0) 0 [stP] = prdR d e := rfl
  have hpfl := fun p => pf_length d e p
  generalize prdR d e = R at *
  have hd1 := hd.tracks
  refine ACall.of_sw 139 Try.func41 rfl Try.ntmps41 (by kernel_rfl) (Nat.le_of_ble_eq_true (by kernel_rfl)) ?_; refine SW.of_vc ?_
  repeat first | refine opsStep ?_ | refine codeStep ?_ | refine drawStep ?_
  refine guardE_of (by rw [hn, hw1, hw2]; exact ⟨by omega, by omega, by show (8 : Int) * (N : Int) ≤ 281474976710656; omega, by omega⟩) ?_
  repeat first | refine opsStep ?_ | refine codeStep ?_ | refine drawStep ?_
  refine guardE_of (by simp [Value.cells]) ?_
  refine guardE_of ⟨by omega, by show (0 + d.tracks.length) * 16 ≤ 140737488355328; omega⟩ ?_
  repeat first | refine opsStep ?_ | refine codeStep ?_ | refine drawStep ?_
  refine loopE_of (ι := {x : Nat × List Pr × Nat // x.1 ≤ x.2.1.length ∧ explO (pf d e) 256 (300 - x.1) x.1 x.2.1 = R ∧ x.2.1.Nodup ∧ x.2.1.length ≤ 256 ∧ x.2.1[0]? = some stP ∧ (∀ p ∈ x.2.1, p = stP ∨ okS d e p) ∧ (∀ j, j < x.1 → ∀ s, x.2.1[j]? = some s → ∀ t ∈ pf d e s, t ∈ x.2.1)})
    (fun x => (fr [(0, .int .i64 op), (4, .ref 0 0 0), (5, .ref 1 0 0), (6, .ref 2 0 0), (8, .int .i64 n), (9, .hs 3 0 0 N 1), (10, .hs 4 (x.1.2.2) 0 (x.1.2.1).length 1), (11, .ref 6 0 0), (12, .int .i64 (x.1.1))], [Blk.cells 0 d.cells, .cells 0 e.cells, .cells 0 [.sl .nil 0 [], .sl .nil 0 [], .sl .nil 0 []], .cells 0 ((numZ N ((x.1.2.1).map (gN n))).map (.int .i64)), .cells (x.1.2.2) ((x.1.2.1).map fun p => .int .i64 (gN n p : Nat)), .cells 1 (d.tracks.map .str), .cells 0 [.hs 5 1 0 d.tracks.length 1, .hs 7 (x.1.1) 0 (x.1.1) 1, .hs 8 (x.1.1) 0 (x.1.1) 1], .cells (x.1.1) (((x.1.2.1.take x.1.1).map (accP (holdsS op) d e)).map .bool), .cells (x.1.1) (((x.1.2.1.take x.1.1).map (rowX (pf d e) x.1.2.1)).map (aIs .any))]))
    (fun x => 300 - x.1.1) ⟨(0, [stP], 0), by simp, hR, by simp, by simp, rfl, by simp, by simp⟩
    (((Ent.fr' (l := [(0, .int .i64 op), (4, .ref 0 0 0), (5, .ref 1 0 0), (6, .ref 2 0 0), (8, .int .i64 n), (9, .hs 3 0 0 N 1), (10, .hs 4 (0) 0 ([stP]).length 1), (11, .ref 6 0 0), (12, .int .i64 ((0 : Nat)))])
      (H' := [.cells 0 d.cells, .cells 0 e.cells, .cells 0 [.sl .nil 0 [], .sl .nil 0 [], .sl .nil 0 []], .cells 0 ((numZ N [0]).map (.int .i64)), .cells 0 [.int .i64 (0 : Nat)], .cells 1 (d.tracks.map .str), .cells 0 [.hs 5 1 0 d.tracks.length 1, .sl .nil 0 [], .sl .nil 0 []]]) ⟨(by kernel_rfl), (by kernel_rfl), (by kernel_rfl), (by kernel_rfl), ?_, ?_, (by kernel_rfl), (by kernel_rfl), (by kernel_rfl), trivial⟩ ?_).trans (Ent.nilCell 6 1 1 rfl rfl)).trans (Ent.nilCell 6 2 1 rfl rfl) |>.to rfl) ?_
  · refine Eq.trans (b := .int .i64 e.accept.length) (by kernel_rfl) ?_
    rw [hn]
  · refine Eq.trans (b := .hs 3 0 0 (IntKind.wrap .i64 (IntKind.wrap .i64 ((d.accept.length : Int) * e.accept.length) + 1)).toNat 1) (by kernel_rfl) ?_
    rw [hn, hw1, hw2]; rfl
  · refine Eq.trans (b := [.cells 0 d.cells, .cells 0 e.cells, .cells 0 [.sl .nil 0 [], .sl .nil 0 [], .sl .nil 0 []], .cells 0 (reps [.int .i64 0] (IntKind.wrap .i64 (IntKind.wrap .i64 ((d.accept.length : Int) * e.accept.length) + 1)).toNat), .cells 0 [.int .i64 (0 : Nat)], .cells 1 (d.tracks.map .str), .cells 0 [.hs 5 1 0 (0 + d.tracks.length) 1, .sl .nil 0 [], .sl .nil 0 []]]) (by kernel_rfl) ?_
    rw [hn, hw1, hw2, reps_one, Nat.zero_add]
    have : numZ N [0] = List.replicate N 0 := by
      refine List.ext_getElem (by simp [numZ]) fun j h1 h2 => ?_
      simp only [numZ, ixOf, List.getElem_map, List.getElem_range, List.getElem_replicate]
      split
      · rename_i h; simp at h; subst h; rfl
      · rfl
    rw [this]
    simp
  rintro ⟨⟨i, L, g⟩, hi, hex, hnd, hl256, h0, hok, hcz⟩
  simp only at hi hex hnd hl256 h0 hok hcz
  repeat first | refine opsStep ?_ | refine codeStep ?_ | refine drawStep ?_
  refine decB_dec (fun h => ?_) (fun h => ?_)
  · have hiL : i < L.length := by have := h; simp at this; omega
    obtain ⟨p, hpe⟩ : ∃ p, L[i] = p := ⟨_, rfl⟩
    have hgp : L[i]? = some p := by rw [List.getElem?_eq_getElem hiL, hpe]
    have hpm : p ∈ L := List.mem_of_getElem? hgp
    have hop := hok p hpm
    have hps := pst_ok rd re hop
    have hi0 : i = 0 ↔ p = stP := by
      constructor
      · intro e0
        subst e0
        rw [h0] at hgp; exact (Option.some.inj hgp).symm
      · intro e
        refine Classical.byContradiction fun hne => ?_
        obtain ⟨k1, e1⟩ := List.getElem?_eq_some_iff.1 h0
        exact List.pairwise_iff_getElem.1 hnd 0 i k1 hiL (by omega) (by rw [e1, hpe, e])
    rw [show 300 - i = (300 - (i + 1)) + 1 by omega, explO, hgp] at hex
    simp only at hex
    have haccn : (L.take (i + 1)).map (accP (holdsS op) d e) = (L.take i).map (accP (holdsS op) d e) ++ [accP (holdsS op) d e p] := by
      rw [List.take_succ_eq_append_getElem hiL, List.map_append, hpe]; rfl
    have hrown : (L.take (i + 1)).map (rowX (pf d e) (metL L (pf d e p))) = (L.take i).map (rowX (pf d e) L) ++ [rowX (pf d e) (metL L (pf d e p)) p] := by
      rw [List.take_succ_eq_append_getElem hiL, List.map_append, hpe]
      congr 1
      refine List.map_congr_left fun s hs => ?_
      obtain ⟨j, hj, rfl⟩ := List.getElem_of_mem hs
      have hji : j < i := by simp at hj; omega
      obtain ⟨r, hrr⟩ := metL_prefix (pf d e p) L
      rw [hrr]
      exact rowX_grow (hcz j hji _ (by simp [List.getElem?_eq_getElem (show j < L.length by omega)]))
    have hal : ((L.take i).map (accP (holdsS op) d e)).length = i := by simp; omega
    have hrwl : ((L.take i).map (rowX (pf d e) L)).length = i := by simp; omega
    generalize (L.take i).map (accP (holdsS op) d e) = acs at *
    generalize (L.take i).map (rowX (pf d e) L) = rws at *
    have hpf := hpfl p
    rw [hKe] at hpf
    have hac : accP (holdsS op) d e p = if i = 0 then false else holdsS op (accN d.accept (pst p).1.toNat) (accN e.accept (pst p).2.toNat) := by
      by_cases e0 : i = 0
      · rw [accP, if_pos (hi0.1 e0), if_pos e0]
      · have hne : p ≠ stP := fun e => e0 (hi0.2 e)
        rw [accP, if_neg hne, if_neg e0, pst, if_neg hne]
    iterate 14 (first | refine opsStep ?_ | refine codeStep ?_)
    refine VCode.join (b := decide ((i : Int) > 0)) (fr [(0, .int .i64 op), (4, .ref 0 0 0), (5, .ref 1 0 0), (6, .ref 2 0 0), (8, .int .i64 n), (9, .hs 3 0 0 N 1), (10, .hs 4 (g) 0 (L).length 1), (11, .ref 6 0 0), (12, .int .i64 (i)), (13, .int .i64 (pst p).1), (14, .int .i64 (pst p).2)]) [Blk.cells 0 d.cells, .cells 0 e.cells, .cells 0 [.sl .nil 0 [], .sl .nil 0 [], .sl .nil 0 []], .cells 0 ((numZ N ((L).map (gN n))).map (.int .i64)), .cells (g) ((L).map fun p => .int .i64 (gN n p : Nat)), .cells 1 (d.tracks.map .str), .cells 0 [.hs 5 1 0 d.tracks.length 1, .hs 7 (i) 0 (i) 1, .hs 8 (i) 0 (i) 1], .cells (i) ((acs).map .bool), .cells (i) ((rws).map (aIs .any))] (by kernel_rfl) (fun hz => ?_) (fun hz => ?_) ?_
    · have hz : (i : Int) > 0 := of_decide_eq_true hz
      have hne : p ≠ stP := fun e => by have := hi0.2 e; omega
      have hpp : pst p = p := by rw [pst, if_neg hne]
      have hos : okS d e p := by rcases hop with h | h; exact absurd h hne; exact h
      obtain ⟨hws, hn0, hdv, hmd, hwd, a1, a2, a3, a4⟩ := gN_arith hos hn (by omega) (by omega)
      rw [hpp]
      repeat first | refine opsStep ?_ | refine codeStep ?_ | refine drawStep ?_
      refine SW.drawn rfl (by kernel_rfl) ?_
      repeat first | refine opsStep ?_ | refine codeStep ?_ | refine drawStep ?_
      refine guardE_of (by simp; omega) ?_
      repeat first | refine opsStep ?_ | refine codeStep ?_ | refine drawStep ?_
      refine guardE_of rfl ?_
      refine optE_of rfl ?_
      refine optE_of (c := .int .i64 (gN n p : Nat)) (by simp [Value.cells, hgp]) ?_
      repeat first | refine opsStep ?_ | refine codeStep ?_ | refine drawStep ?_
      refine optE_of (c := .int .i64 p.1) (by show (if (n : Int) = 0 then none else some (AV.int .i64 (IntKind.wrap .i64 ((IntKind.wrap .i64 ((gN n p : Int) - 1)).tdiv n)))) = _; rw [if_neg hn0, hws, hdv, hwd]) ?_
      repeat first | refine opsStep ?_ | refine codeStep ?_ | refine drawStep ?_
      refine guardE_of (by simp; omega) ?_
      repeat first | refine opsStep ?_ | refine codeStep ?_ | refine drawStep ?_
      refine guardE_of rfl ?_
      refine optE_of rfl ?_
      refine optE_of (c := .int .i64 (gN n p : Nat)) (by simp [Value.cells, hgp]) ?_
      repeat first | refine opsStep ?_ | refine codeStep ?_ | refine drawStep ?_
      refine optE_of (c := .int .i64 p.2) (by show (if (n : Int) = 0 then none else some (AV.int .i64 ((IntKind.wrap .i64 ((gN n p : Int) - 1)).tmod n))) = _; rw [if_neg hn0, hws, hmd]) ?_
      repeat first | refine opsStep ?_ | refine codeStep ?_ | refine drawStep ?_
      refine ⟨by kernel_rfl, ?_⟩
      repeat first | refine opsStep ?_ | refine codeStep ?_ | refine drawStep ?_
      exact Ent.fr' ⟨(by kernel_rfl), (by kernel_rfl), (by kernel_rfl), (by kernel_rfl), (by kernel_rfl), (by kernel_rfl), (by kernel_rfl), (by kernel_rfl), (by kernel_rfl), (by kernel_rfl), (by kernel_rfl), trivial⟩ (by kernel_rfl)
    · have hz : ¬ (i : Int) > 0 := of_decide_eq_false hz
      have hpp : pst p = (0, 0) := by rw [pst, if_pos (hi0.1 (by omega))]
      repeat first | refine opsStep ?_ | refine codeStep ?_ | refine drawStep ?_
      rw [hpp]
      exact Ent.fr' ⟨(by kernel_rfl), (by kernel_rfl), (by kernel_rfl), (by kernel_rfl), (by kernel_rfl), (by kernel_rfl), (by kernel_rfl), (by kernel_rfl), (by kernel_rfl), (by kernel_rfl), (by kernel_rfl), trivial⟩ (by kernel_rfl)
    intro s₁ H₁ hent
    refine VCode.ent hent ?_
    have hfl : ∀ a, a < K → (pf d e p)[a]? = some ((stepN d.rows (pst p).1.toNat a : Int), (stepN e.rows (pst p).2.toNat a : Int)) := fun a ha => pf_get (by rw [hKe]; exact ha)
    have hsd : ∀ a, a < K → ∃ (h1 : (pst p).1.toNat < d.next.length) (h2 : a < (d.next[(pst p).1.toNat]).2.length), (d.next[(pst p).1.toNat]).2[a] = (stepN d.rows (pst p).1.toNat a : Int) ∧ stepN d.rows (pst p).1.toNat a < d.accept.length :=
      fun a ha => stepN_ok rd (by obtain ⟨q1, q2, q3, q4⟩ := hps; omega) (by rw [hKe]; exact ha)
    have hse : ∀ a, a < K → ∃ (h1 : (pst p).2.toNat < e.next.length) (h2 : a < (e.next[(pst p).2.toNat]).2.length), (e.next[(pst p).2.toNat]).2[a] = (stepN e.rows (pst p).2.toNat a : Int) ∧ stepN e.rows (pst p).2.toNat a < e.accept.length :=
      fun a ha => stepN_ok re (by obtain ⟨q1, q2, q3, q4⟩ := hps; omega) (by rw [← hk, hKe]; exact ha)
    have hokf := pf_ok rd re hk hop
    obtain ⟨q1, q2, q3, q4⟩ := hps
    have hdl : (pst p).1.toNat < d.next.length := by omega
    have hel : (pst p).2.toNat < e.next.length := by omega
    have hrd : d.next[(pst p).1.toNat]? = some d.next[(pst p).1.toNat] := List.getElem?_eq_getElem hdl
    have hre : e.next[(pst p).2.toNat]? = some e.next[(pst p).2.toNat] := List.getElem?_eq_getElem hel
    have hrdl : (d.next[(pst p).1.toNat]).2.length = K := by rw [← hKe]; exact (rowOk_parts (gd3 _ (List.getElem_mem hdl))).1
    have hrel : (e.next[(pst p).2.toNat]).2.length = K := by rw [← hKe, hk]; exact (rowOk_parts (ge3 _ (List.getElem_mem hel))).1
    have hsd' : ∀ a, a < K → (d.next[(pst p).1.toNat]).2[a]? = some (stepN d.rows (pst p).1.toNat a : Int) ∧ stepN d.rows (pst p).1.toNat a < d.accept.length := fun a ha => by
      obtain ⟨h1, h2, h3, h4⟩ := hsd a ha
      exact ⟨by rw [List.getElem?_eq_getElem h2, h3], h4⟩
    have hse' : ∀ a, a < K → (e.next[(pst p).2.toNat]).2[a]? = some (stepN e.rows (pst p).2.toNat a : Int) ∧ stepN e.rows (pst p).2.toNat a < e.accept.length := fun a ha => by
      obtain ⟨h1, h2, h3, h4⟩ := hse a ha
      exact ⟨by rw [List.getElem?_eq_getElem h2, h3], h4⟩
    clear hsd hse
    generalize d.next[(pst p).1.toNat] = r1 at *
    generalize e.next[(pst p).2.toNat] = r2 at *
    repeat first | refine opsStep ?_ | refine codeStep ?_ | refine drawStep ?_
    refine loopE_of (ι := {y : Nat × Nat // y.1 ≤ K ∧ (metL L ((pf d e p).take y.1)).length ≤ 256})
      (fun y => (fr [(0, .int .i64 op), (4, .ref 0 0 0), (5, .ref 1 0 0), (6, .ref 2 0 0), (8, .int .i64 n), (9, .hs 3 0 0 N 1), (10, .hs 4 (y.1.2) 0 ((metL L ((pf d e p).take y.1.1))).length 1), (11, .ref 6 0 0), (12, .int .i64 (i)), (13, .int .i64 (pst p).1), (14, .int .i64 (pst p).2), (15, .hs 9 y.1.1 0 y.1.1 1), (16, .int .i64 y.1.1)],
        [Blk.cells 0 d.cells, .cells 0 e.cells, .cells 0 [.sl .nil 0 [], .sl .nil 0 [], .sl .nil 0 []], .cells 0 ((numZ N (((metL L ((pf d e p).take y.1.1))).map (gN n))).map (.int .i64)), .cells (y.1.2) (((metL L ((pf d e p).take y.1.1))).map fun p => .int .i64 (gN n p : Nat)), .cells 1 (d.tracks.map .str), .cells 0 [.hs 5 1 0 d.tracks.length 1, .hs 7 (i) 0 (i) 1, .hs 8 (i) 0 (i) 1], .cells (i) ((acs).map .bool), .cells (i) ((rws).map (aIs .any))] ++ [.cells y.1.1 (((List.range (y.1.1)).map fun j => (ixOf (metL L (pf d e p)) ((pf d e p).getD j stP) : Int)).map (.int .i64))]))
      (fun y => K - y.1.1) ⟨(0, g), by omega, by simpa [metL] using hl256⟩
      (((Ent.fr' (l := [(0, .int .i64 op), (4, .ref 0 0 0), (5, .ref 1 0 0), (6, .ref 2 0 0), (8, .int .i64 n), (9, .hs 3 0 0 N 1), (10, .hs 4 (g) 0 (L).length 1), (11, .ref 6 0 0), (12, .int .i64 (i)), (13, .int .i64 (pst p).1), (14, .int .i64 (pst p).2), (15, .sl .nil 0 []), (16, .int .i64 (0 : Nat))]) (H' := [Blk.cells 0 d.cells, .cells 0 e.cells, .cells 0 [.sl .nil 0 [], .sl .nil 0 [], .sl .nil 0 []], .cells 0 ((numZ N ((L).map (gN n))).map (.int .i64)), .cells (g) ((L).map fun p => .int .i64 (gN n p : Nat)), .cells 1 (d.tracks.map .str), .cells 0 [.hs 5 1 0 d.tracks.length 1, .hs 7 (i) 0 (i) 1, .hs 8 (i) 0 (i) 1], .cells (i) ((acs).map .bool), .cells (i) ((rws).map (aIs .any))]) ⟨(by kernel_rfl), (by kernel_rfl), (by kernel_rfl), (by kernel_rfl), (by kernel_rfl), (by kernel_rfl), (by kernel_rfl), (by kernel_rfl), (by kernel_rfl), (by kernel_rfl), (by kernel_rfl), (by kernel_rfl), (by kernel_rfl), trivial⟩ (by kernel_rfl)).trans (Ent.nil 15 1 rfl)).trans (Ent.fr' ⟨(by kernel_rfl), (by kernel_rfl), (by kernel_rfl), (by kernel_rfl), (by kernel_rfl), (by kernel_rfl), (by kernel_rfl), (by kernel_rfl), (by kernel_rfl), (by kernel_rfl), (by kernel_rfl), (by kernel_rfl), (by kernel_rfl), trivial⟩ (by kernel_rfl))) ?_
    rintro ⟨⟨a, g⟩, ha, hM256⟩
    simp only at ha hM256
    have hMok : ∀ y ∈ metL L ((pf d e p).take a), y = stP ∨ okS d e y := fun y hy => by
      rcases (metL_mem _ _ _).1 hy with hy | hy
      · exact hok y hy
      · exact .inr (hokf y (List.mem_of_mem_take hy))
    have hMn := metL_nodup ((pf d e p).take a) L hnd
    obtain ⟨M, hMe⟩ : ∃ M, metL L ((pf d e p).take a) = M := ⟨_, rfl⟩
    rw [hMe] at hMok hMn
    have hM256 : M.length ≤ 256 := by rw [← hMe]; exact hM256
    refine VCode.ent (Ent.fr' (l := [(0, .int .i64 op), (4, .ref 0 0 0), (5, .ref 1 0 0), (6, .ref 2 0 0), (8, .int .i64 n), (9, .hs 3 0 0 N 1), (10, .hs 4 (g) 0 (M).length 1), (11, .ref 6 0 0), (12, .int .i64 (i)), (13, .int .i64 (pst p).1), (14, .int .i64 (pst p).2), (15, .hs 9 a 0 a 1), (16, .int .i64 a)])
      (H' := [Blk.cells 0 d.cells, .cells 0 e.cells, .cells 0 [.sl .nil 0 [], .sl .nil 0 [], .sl .nil 0 []], .cells 0 ((numZ N ((M).map (gN n))).map (.int .i64)), .cells (g) ((M).map fun p => .int .i64 (gN n p : Nat)), .cells 1 (d.tracks.map .str), .cells 0 [.hs 5 1 0 d.tracks.length 1, .hs 7 (i) 0 (i) 1, .hs 8 (i) 0 (i) 1], .cells (i) ((acs).map .bool), .cells (i) ((rws).map (aIs .any))] ++ [.cells a (((List.range (a)).map fun j => (ixOf (metL L (pf d e p)) ((pf d e p).getD j stP) : Int)).map (.int .i64))]) ⟨(by kernel_rfl), (by kernel_rfl), (by kernel_rfl), (by kernel_rfl), (by kernel_rfl), (by kernel_rfl), ?_, (by kernel_rfl), (by kernel_rfl), (by kernel_rfl), (by kernel_rfl), (by kernel_rfl), (by kernel_rfl), trivial⟩ ?_) ?_
    · subst hMe; kernel_rfl
    · subst hMe; kernel_rfl
    repeat first | refine opsStep ?_ | refine codeStep ?_ | refine drawStep ?_
    refine guardE_of (by omega) ?_
    repeat first | refine opsStep ?_ | refine codeStep ?_ | refine drawStep ?_
    refine optE_of (c := aIs r1.1 r1.2) (by simp [Value.cells, hrd]) ?_
    repeat first | refine opsStep ?_ | refine codeStep ?_ | refine drawStep ?_
    refine decB_dec (fun hg => ?_) (fun hg => ?_)
    · have hal : a < K := by have := hg; rw [hrdl] at this; omega
      obtain ⟨s5, s4⟩ := hsd' a hal
      obtain ⟨t5, t4⟩ := hse' a hal
      obtain ⟨hwt, hto⟩ := gN_wrap s4 t4 hn (by omega) (by omega)
      have hfa : a < (pf d e p).length := by rw [hpf]; exact hal
      have hfe : (pf d e p)[a] = ((stepN d.rows (pst p).1.toNat a : Int), (stepN e.rows (pst p).2.toNat a : Int)) := by
        have := hfl a hal
        rw [List.getElem?_eq_getElem hfa] at this
        exact Option.some.inj this
      have hit := metL_at_hit (acc := L) hfa
      have miss := metL_at_miss (acc := L) hfa
      have hgd : (pf d e p).getD a stP = ((stepN d.rows (pst p).1.toNat a : Int), (stepN e.rows (pst p).2.toNat a : Int)) := by rw [List.getD_eq_getElem?_getD, hfl a hal]; rfl
      rw [hfe, hMe] at hit miss
      obtain ⟨hg1, hg2⟩ := hgok hto
      obtain ⟨hm1, hm2⟩ := hnix hMok (.inr hto)
      have hM0 : M[0]? = some stP := by
        obtain ⟨r, hrr⟩ := metL_prefix ((pf d e p).take a) L
        rw [← hMe, hrr, List.getElem?_append_left (by omega)]; exact h0
      have hne0 : ((stepN d.rows (pst p).1.toNat a : Int), (stepN e.rows (pst p).2.toNat a : Int)) ∈ M → ixOf M ((stepN d.rows (pst p).1.toNat a : Int), (stepN e.rows (pst p).2.toNat a : Int)) ≠ 0 := fun hm h => by
        obtain ⟨k, hk, he⟩ := List.getElem_of_mem hm
        have h2 := ixOf_get hMn (show M[k]? = some _ from by rw [List.getElem?_eq_getElem hk, he])
        rw [h] at h2
        subst h2
        rw [List.getElem?_eq_getElem hk, he] at hM0
        have h3 := congrArg Prod.fst (Option.some.inj hM0)
        simp at h3
      have hnz := numZ_get (n := N) (L := M.map (gN n)) hg2
      rw [hm2] at hnz
      have hset : gN n ((stepN d.rows (pst p).1.toNat a : Int), (stepN e.rows (pst p).2.toNat a : Int)) ∉ M.map (gN n) → _ := fun h => numZ_set (n := N) h
      have hrl0 : ((List.range (a)).map fun j => (ixOf (metL L (pf d e p)) ((pf d e p).getD j stP) : Int)).length = a := by simp
      have hrs : ((List.range (a + 1)).map fun j => (ixOf (metL L (pf d e p)) ((pf d e p).getD j stP) : Int)) = ((List.range (a)).map fun j => (ixOf (metL L (pf d e p)) ((pf d e p).getD j stP) : Int)) ++ [(ixOf (metL L (pf d e p)) ((pf d e p).getD a stP) : Int)] := by rw [List.range_succ, List.map_append]; rfl
      rw [hgd] at hrs
      generalize hte : ((stepN d.rows (pst p).1.toNat a : Int), (stepN e.rows (pst p).2.toNat a : Int)) = to at *
      generalize hgt : gN n to = gt at *
      generalize (stepN d.rows (pst p).1.toNat a : Int) = c1 at *
      generalize (stepN e.rows (pst p).2.toNat a : Int) = c2 at *
      generalize ((List.range (a)).map fun j => (ixOf (metL L (pf d e p)) ((pf d e p).getD j stP) : Int)) = rowa at *
      have hrl : (rowa.map (AV.int .i64)).length = a := by rw [List.length_map, hrl0]
      repeat first | refine opsStep ?_ | refine codeStep ?_ | refine drawStep ?_
      refine SW.drawn rfl (by kernel_rfl) ?_
      repeat first | refine opsStep ?_ | refine codeStep ?_ | refine drawStep ?_
      refine guardE_of (by omega) ?_
      repeat first | refine opsStep ?_ | refine codeStep ?_ | refine drawStep ?_
      refine optE_of (c := aIs r1.1 r1.2) (by simp [Value.cells, hrd]) ?_
      repeat first | refine opsStep ?_ | refine codeStep ?_ | refine drawStep ?_
      refine guardE_of (by simp; omega) ?_
      repeat first | refine opsStep ?_ | refine codeStep ?_ | refine drawStep ?_
      refine optE_of (c := .int .i64 c1) (by simp [Value.cells, s5]) ?_
      repeat first | refine opsStep ?_ | refine codeStep ?_ | refine drawStep ?_
      refine guardE_of (by omega) ?_
      repeat first | refine opsStep ?_ | refine codeStep ?_ | refine drawStep ?_
      refine optE_of (c := aIs r2.1 r2.2) (by simp [Value.cells, hre]) ?_
      repeat first | refine opsStep ?_ | refine codeStep ?_ | refine drawStep ?_
      refine guardE_of (by simp; omega) ?_
      repeat first | refine opsStep ?_ | refine codeStep ?_ | refine drawStep ?_
      refine optE_of (c := .int .i64 c2) (by simp [Value.cells, t5]) ?_
      repeat first | refine opsStep ?_ | refine codeStep ?_ | refine drawStep ?_
      refine ⟨by kernel_rfl, ?_⟩
      refine VCode.ent (Ent.fr' (l := [(0, .int .i64 op), (4, .ref 0 0 0), (5, .ref 1 0 0), (6, .ref 2 0 0), (8, .int .i64 n), (9, .hs 3 0 0 N 1), (10, .hs 4 (g) 0 (M).length 1), (11, .ref 6 0 0), (12, .int .i64 (i)), (13, .int .i64 (pst p).1), (14, .int .i64 (pst p).2), (15, .hs 9 a 0 a 1), (16, .int .i64 a), (17, .int .i64 (gt : Nat))])
        (H' := [Blk.cells 0 d.cells, .cells 0 e.cells, .cells 0 [.sl .nil 0 [], .sl .nil 0 [], .sl .nil 0 []], .cells 0 ((numZ N ((M).map (gN n))).map (.int .i64)), .cells (g) ((M).map fun p => .int .i64 (gN n p : Nat)), .cells 1 (d.tracks.map .str), .cells 0 [.hs 5 1 0 d.tracks.length 1, .hs 7 (i) 0 (i) 1, .hs 8 (i) 0 (i) 1], .cells (i) ((acs).map .bool), .cells (i) ((rws).map (aIs .any))] ++ [.cells a (rowa.map (.int .i64))]) ⟨(by kernel_rfl), (by kernel_rfl), (by kernel_rfl), (by kernel_rfl), (by kernel_rfl), (by kernel_rfl), (by kernel_rfl), (by kernel_rfl), (by kernel_rfl), (by kernel_rfl), (by kernel_rfl), (by kernel_rfl), (by kernel_rfl), Eq.trans (b := .int .i64 (IntKind.wrap .i64 (IntKind.wrap .i64 (IntKind.wrap .i64 (c1 * n) + c2) + 1))) (by kernel_rfl) (by rw [hwt]), trivial⟩ (by kernel_rfl)) ?_
      repeat first | refine opsStep ?_ | refine codeStep ?_ | refine drawStep ?_
      refine guardE_of (by omega) ?_
      by_cases hm : to ∈ M
      · obtain ⟨z1, z2⟩ := hit hm
        have hn0 := hne0 hm
        rw [if_pos (hm1.2 hm)] at hnz
        generalize ixOf M to = k at *
        repeat first | refine opsStep ?_ | refine codeStep ?_ | refine drawStep ?_
        refine optE_of (c := .int .i64 (k : Nat)) (by simp [Value.cells, hnz]) ?_
        repeat first | refine opsStep ?_ | refine codeStep ?_ | refine drawStep ?_
        refine decB_false (decide_eq_false (by omega)) ?_
        repeat first | refine opsStep ?_ | refine codeStep ?_ | refine drawStep ?_
        refine guardE_of (by omega) ?_
        repeat first | refine opsStep ?_ | refine codeStep ?_ | refine drawStep ?_
        refine optE_of (c := .int .i64 (k : Nat)) (by simp [Value.cells, hnz]) ?_
        repeat first | refine opsStep ?_ | refine codeStep ?_ | refine drawStep ?_
        refine guardE_of ⟨rfl, by simp [hrl0]⟩ ?_
        refine guardE_of rfl ?_
        refine guardE_of ⟨by omega, by show (a + 1) * 8 ≤ 140737488355328; omega⟩ ?_
        repeat first | refine opsStep ?_ | refine codeStep ?_ | refine drawStep ?_
        refine ⟨⟨(a + 1, g), by omega, by rw [z1]; exact hM256⟩, (by show K - (a + 1) < K - a; omega), Ent.to (Ent.frD (l := [(0, .int .i64 op), (4, .ref 0 0 0), (5, .ref 1 0 0), (6, .ref 2 0 0), (8, .int .i64 n), (9, .hs 3 0 0 N 1), (10, .hs 4 (g) 0 ((metL L ((pf d e p).take (a + 1)))).length 1), (11, .ref 6 0 0), (12, .int .i64 (i)), (13, .int .i64 (pst p).1), (14, .int .i64 (pst p).2), (15, .hs 9 (a + 1) 0 (a + 1) 1), (16, .int .i64 (a + 1 : Nat))]) (X := [.cells 0 [.int .i64 (k : Nat)]])
          (H' := [Blk.cells 0 d.cells, .cells 0 e.cells, .cells 0 [.sl .nil 0 [], .sl .nil 0 [], .sl .nil 0 []], .cells 0 ((numZ N ((M).map (gN n))).map (.int .i64)), .cells (g) ((M).map fun p => .int .i64 (gN n p : Nat)), .cells 1 (d.tracks.map .str), .cells 0 [.hs 5 1 0 d.tracks.length 1, .hs 7 (i) 0 (i) 1, .hs 8 (i) 0 (i) 1], .cells (i) ((acs).map .bool), .cells (i) ((rws).map (aIs .any))] ++ [.cells (a + 1) (((rowa.map (AV.int .i64)).drop 0).take (a * 1) ++ [.int .i64 (k : Nat)])])
          ⟨(by kernel_rfl), (by kernel_rfl), (by kernel_rfl), (by kernel_rfl), (by kernel_rfl), (by kernel_rfl), Eq.trans (b := .hs 4 g 0 M.length 1) (by kernel_rfl) (by rw [z1]), (by kernel_rfl), (by kernel_rfl), (by kernel_rfl), (by kernel_rfl), (by kernel_rfl), inc_slot (i := a) (by omega), trivial⟩ (by kernel_rfl) (Nat.zero_le _) (by simp [frBel, AV.bel]) ?_) ?_⟩
        · rw [td_all (by simp [hrl0])]; simp [blksBel, Blk.bel, bels_append, bels_map, bels, AV.bel, cells_bel, aIs_bel]
        · rw [td_all (by simp [hrl0])]
          show _ = [Blk.cells 0 d.cells, .cells 0 e.cells, .cells 0 [.sl .nil 0 [], .sl .nil 0 [], .sl .nil 0 []], .cells 0 ((numZ N (((metL L ((pf d e p).take (a + 1)))).map (gN n))).map (.int .i64)), .cells (g) (((metL L ((pf d e p).take (a + 1)))).map fun p => .int .i64 (gN n p : Nat)), .cells 1 (d.tracks.map .str), .cells 0 [.hs 5 1 0 d.tracks.length 1, .hs 7 (i) 0 (i) 1, .hs 8 (i) 0 (i) 1], .cells (i) ((acs).map .bool), .cells (i) ((rws).map (aIs .any))] ++ [.cells (a + 1) (((List.range (a + 1)).map fun j => (ixOf (metL L (pf d e p)) ((pf d e p).getD j stP) : Int)).map (.int .i64))]
          rw [z1, hrs, z2, List.map_append]; rfl
      · obtain ⟨z1, z2⟩ := miss hm
        have hgm : gt ∉ M.map (gN n) := fun h => hm (hm1.1 h)
        rw [if_neg hgm] at hnz
        have hset := hset hgm
        rw [List.length_map] at hset
        repeat first | refine opsStep ?_ | refine codeStep ?_ | refine drawStep ?_
        refine optE_of (c := .int .i64 0) (by simp [Value.cells, hnz]) ?_
        repeat first | refine opsStep ?_ | refine codeStep ?_ | refine drawStep ?_
        refine decB_dec (fun h256 => ?_) (fun h256 => ?_)
        · have h256 : M.length = 256 := by have := h256; omega
          have hbig : 256 < (metL L (pf d e p)).length := by
            obtain ⟨r, hr⟩ := metL_prefix ((pf d e p).drop (a + 1)) (metL L ((pf d e p).take (a + 1)))
            rw [← metL_append, List.take_append_drop] at hr
            rw [hr, z1]; simp; omega
          rw [if_pos hbig] at hex
          repeat first | refine opsStep ?_ | refine codeStep ?_ | refine drawStep ?_
          refine finR (l := [(6, .ref 2 0 0), (7, .int .i64 140)]) (H₁ := [Blk.cells 0 d.cells, .cells 0 e.cells, .cells 0 [.sl .nil 0 [], .sl .nil 0 [], .sl .nil 0 []], .cells 0 ((numZ N ((M).map (gN n))).map (.int .i64)), .cells (g) ((M).map fun p => .int .i64 (gN n p : Nat)), .cells 1 (d.tracks.map .str), .cells 0 [.hs 5 1 0 d.tracks.length 1, .hs 7 (i) 0 (i) 1, .hs 8 (i) 0 (i) 1], .cells (i) ((acs).map .bool), .cells (i) ((rws).map (aIs .any))] ++ [.cells a (rowa.map (.int .i64))]) (v := .tup [aDen den0, .int .i64 140]) ⟨(by kernel_rfl), (by kernel_rfl), trivial⟩ (by kernel_rfl) (Ent.refl _ _ _) (by kernel_rfl) (.inr ⟨hex.symm, rfl⟩)
        · have h256 : M.length < 256 := by have := h256; omega
          have hm1 : (metL L ((pf d e p).take (a + 1))).length ≤ 256 := by rw [z1, List.length_append, List.length_singleton]; omega
          repeat first | refine opsStep ?_ | refine codeStep ?_ | refine drawStep ?_
          refine guardE_of (by omega) ?_
          repeat first | refine opsStep ?_ | refine codeStep ?_ | refine drawStep ?_
          refine guardE_of ⟨rfl, by decide, by show 0 + gt * 1 + 1 ≤ ((numZ N (M.map (gN n))).map (AV.int .i64)).length; rw [List.length_map, numZ_length]; omega⟩ ?_
          repeat first | refine opsStep ?_ | refine codeStep ?_ | refine drawStep ?_
          refine guardE_of ⟨rfl, by simp⟩ ?_
          refine guardE_of rfl ?_
          refine guardE_of ⟨by omega, by show (M.length + 1) * 8 ≤ 140737488355328; omega⟩ ?_
          repeat first | refine opsStep ?_ | refine codeStep ?_ | refine drawStep ?_
          refine guardE_of (by omega) ?_
          repeat first | refine opsStep ?_ | refine codeStep ?_ | refine drawStep ?_
          refine optE_of (c := .int .i64 (M.length : Nat)) (by show (over ((numZ N (M.map (gN n))).map (AV.int .i64)) (0 + gt * 1) [.int .i64 (M.length : Nat)])[0 + gt * 1]? = _; rw [Nat.zero_add, Nat.mul_one, over_one (by rw [List.length_map, numZ_length]; omega)]; simp [numZ_length, hg2]) ?_
          repeat first | refine opsStep ?_ | refine codeStep ?_ | refine drawStep ?_
          refine guardE_of ⟨rfl, by simp [hrl0]⟩ ?_
          refine guardE_of rfl ?_
          refine guardE_of ⟨by omega, by show (a + 1) * 8 ≤ 140737488355328; omega⟩ ?_
          repeat first | refine opsStep ?_ | refine codeStep ?_ | refine drawStep ?_
          refine ⟨⟨(a + 1, g + 1), by omega, hm1⟩, (by show K - (a + 1) < K - a; omega), Ent.to (Ent.frD (l := [(0, .int .i64 op), (4, .ref 0 0 0), (5, .ref 1 0 0), (6, .ref 2 0 0), (8, .int .i64 n), (9, .hs 3 0 0 N 1), (10, .hs 4 ((g + 1)) 0 ((metL L ((pf d e p).take (a + 1)))).length 1), (11, .ref 6 0 0), (12, .int .i64 (i)), (13, .int .i64 (pst p).1), (14, .int .i64 (pst p).2), (15, .hs 9 (a + 1) 0 (a + 1) 1), (16, .int .i64 (a + 1 : Nat))]) (X := [.cells 0 [.int .i64 (gt : Nat)], .cells 0 [.int .i64 (M.length : Nat)]])
            (H' := [Blk.cells 0 d.cells, .cells 0 e.cells, .cells 0 [.sl .nil 0 [], .sl .nil 0 [], .sl .nil 0 []], .cells 0 (over ((numZ N (M.map (gN n))).map (AV.int .i64)) (0 + gt * 1) [.int .i64 (M.length : Nat)]), .cells (g + 1) (((M.map fun p => AV.int .i64 (gN n p : Nat)).drop 0).take (M.length * 1) ++ [.int .i64 (gt : Nat)]), .cells 1 (d.tracks.map .str), .cells 0 [.hs 5 1 0 d.tracks.length 1, .hs 7 i 0 i 1, .hs 8 i 0 i 1], .cells i (acs.map .bool), .cells i (rws.map (aIs .any)),
              .cells (a + 1) (((rowa.map (AV.int .i64)).drop 0).take (a * 1) ++ [.int .i64 (M.length : Nat)])])
            ⟨(by kernel_rfl), (by kernel_rfl), (by kernel_rfl), (by kernel_rfl), (by kernel_rfl), (by kernel_rfl), Eq.trans (b := .hs 4 (g + 1) 0 (M.length + 1) 1) (by kernel_rfl) (by rw [z1, List.length_append]; rfl), (by kernel_rfl), (by kernel_rfl), (by kernel_rfl), (by kernel_rfl), (by kernel_rfl), inc_slot (i := a) (by omega), trivial⟩ (by kernel_rfl) (Nat.zero_le _) (by simp [frBel, AV.bel]) ?_) ?_⟩
          · rw [td_all (by simp [hrl0]), td_all (by simp [hrl0]), Nat.zero_add, Nat.mul_one, over_one (by rw [List.length_map, numZ_length]; omega), ← List.map_set]
            simp [blksBel, Blk.bel, bels_append, bels_map, bels, AV.bel, cells_bel, aIs_bel, -List.map_set]
          · rw [td_all (by simp [hrl0]), td_all (by simp [hrl0]), Nat.zero_add, Nat.mul_one, over_one (by rw [List.length_map, numZ_length]; omega), ← List.map_set, hset]
            show _ = [Blk.cells 0 d.cells, .cells 0 e.cells, .cells 0 [.sl .nil 0 [], .sl .nil 0 [], .sl .nil 0 []], .cells 0 ((numZ N (((metL L ((pf d e p).take (a + 1)))).map (gN n))).map (.int .i64)), .cells (g + 1) (((metL L ((pf d e p).take (a + 1)))).map fun p => .int .i64 (gN n p : Nat)), .cells 1 (d.tracks.map .str), .cells 0 [.hs 5 1 0 d.tracks.length 1, .hs 7 (i) 0 (i) 1, .hs 8 (i) 0 (i) 1], .cells (i) ((acs).map .bool), .cells (i) ((rws).map (aIs .any))] ++ [.cells (a + 1) (((List.range (a + 1)).map fun j => (ixOf (metL L (pf d e p)) ((pf d e p).getD j stP) : Int)).map (.int .i64))]
            rw [z1, hrs, z2, List.map_append, List.map_append, List.map_append, ← hgt]; rfl
    · have hae : a = K := by have := hg; rw [hrdl] at this; omega
      have hta : (pf d e p).take a = pf d e p := List.take_of_length_le (by rw [hpf]; omega)
      rw [hta] at hMe
      have hall : (List.range K).map (fun j => (ixOf (metL L (pf d e p)) ((pf d e p).getD j stP) : Int)) = rowX (pf d e) (metL L (pf d e p)) p := by
        rw [rowX]
        refine List.ext_getElem (by simp [hpf]) fun j h1 h2 => ?_
        have hj : j < (pf d e p).length := by simpa using h2
        simp [List.getD_eq_getElem?_getD, hj, ixOf]
      have hrxl : (rowX (pf d e) (metL L (pf d e p)) p).length = K := by rw [rowX, List.length_map, hpf]
      have hcz' : ∀ j, j < i + 1 → ∀ s, (metL L (pf d e p))[j]? = some s → ∀ t ∈ pf d e s, t ∈ metL L (pf d e p) := fun j hj s hs t ht => by
        obtain ⟨r, hrr⟩ := metL_prefix (pf d e p) L
        have hs' : L[j]? = some s := by rw [hrr, List.getElem?_append_left (by omega)] at hs; exact hs
        refine (metL_mem t _ _).2 ?_
        by_cases e : j = i
        · subst e
          rw [hgp] at hs'
          cases hs'
          exact .inr ht
        · exact .inl (hcz j (by omega) s hs' t ht)
      have hmore : i + 1 ≤ (metL L (pf d e p)).length := by
        obtain ⟨r, hrr⟩ := metL_prefix (pf d e p) L
        rw [hrr, List.length_append]; omega
      have htk : (metL L (pf d e p)).take (i + 1) = L.take (i + 1) := by
        obtain ⟨r, hrr⟩ := metL_prefix (pf d e p) L
        rw [hrr, List.take_append_of_le_length (by omega)]
      have h0' : (metL L (pf d e p))[0]? = some stP := by
        obtain ⟨r, hrr⟩ := metL_prefix (pf d e p) L
        rw [hrr, List.getElem?_append_left (by omega)]; exact h0
      have hrow : ((List.range (a)).map fun j => (ixOf (metL L (pf d e p)) ((pf d e p).getD j stP) : Int)) = rowX (pf d e) (metL L (pf d e p)) p := by rw [hae, hall]
      rw [← htk] at haccn hrown
      rw [hMe] at hex haccn hrown hcz' hmore h0' hrxl hrow
      rw [if_neg (by omega)] at hex
      generalize rowX (pf d e) M p = rx at *
      refine VCode.ent (Ent.fr' (l := [(0, .int .i64 op), (4, .ref 0 0 0), (5, .ref 1 0 0), (6, .ref 2 0 0), (8, .int .i64 n), (9, .hs 3 0 0 N 1), (10, .hs 4 (g) 0 (M).length 1), (11, .ref 6 0 0), (12, .int .i64 (i)), (13, .int .i64 (pst p).1), (14, .int .i64 (pst p).2), (15, .hs 9 K 0 K 1)]) (H' := [Blk.cells 0 d.cells, .cells 0 e.cells, .cells 0 [.sl .nil 0 [], .sl .nil 0 [], .sl .nil 0 []], .cells 0 ((numZ N ((M).map (gN n))).map (.int .i64)), .cells (g) ((M).map fun p => .int .i64 (gN n p : Nat)), .cells 1 (d.tracks.map .str), .cells 0 [.hs 5 1 0 d.tracks.length 1, .hs 7 (i) 0 (i) 1, .hs 8 (i) 0 (i) 1], .cells (i) ((acs).map .bool), .cells (i) ((rws).map (aIs .any))] ++ [.cells K (rx.map (.int .i64))]) ⟨(by kernel_rfl), (by kernel_rfl), (by kernel_rfl), (by kernel_rfl), (by kernel_rfl), (by kernel_rfl), (by kernel_rfl), (by kernel_rfl), (by kernel_rfl), (by kernel_rfl), (by kernel_rfl), Eq.trans (b := .hs 9 a 0 a 1) (by kernel_rfl) (by rw [hae]), trivial⟩
        (Eq.trans (b := [Blk.cells 0 d.cells, .cells 0 e.cells, .cells 0 [.sl .nil 0 [], .sl .nil 0 [], .sl .nil 0 []], .cells 0 ((numZ N ((M).map (gN n))).map (.int .i64)), .cells (g) ((M).map fun p => .int .i64 (gN n p : Nat)), .cells 1 (d.tracks.map .str), .cells 0 [.hs 5 1 0 d.tracks.length 1, .hs 7 (i) 0 (i) 1, .hs 8 (i) 0 (i) 1], .cells (i) ((acs).map .bool), .cells (i) ((rws).map (aIs .any))] ++ [.cells a (((List.range (a)).map fun j => (ixOf (metL L (pf d e p)) ((pf d e p).getD j stP) : Int)).map (.int .i64))]) (by kernel_rfl) (by rw [hMe, hrow, hae]))) ?_
      have qa : d.accept[(pst p).1.toNat]? = some (accN d.accept (pst p).1.toNat) := by simp [accN, List.getD_eq_getElem?_getD, show (pst p).1.toNat < d.accept.length by omega]
      have qb : e.accept[(pst p).2.toNat]? = some (accN e.accept (pst p).2.toNat) := by simp [accN, List.getD_eq_getElem?_getD, show (pst p).2.toNat < e.accept.length by omega]
      repeat first | refine opsStep ?_ | refine codeStep ?_ | refine drawStep ?_
      refine SW.drawn rfl (by kernel_rfl) ?_
      repeat first | refine opsStep ?_ | refine codeStep ?_ | refine drawStep ?_
      refine decB_dec (fun hq0 => ?_) (fun hq0 => ?_)
      · have hq0 : ¬ i = 0 := by have := hq0; simp at this; omega
        rw [if_neg hq0] at hac
        repeat first | refine opsStep ?_ | refine codeStep ?_ | refine drawStep ?_
        refine guardE_of (by omega) ?_
        repeat first | refine opsStep ?_ | refine codeStep ?_ | refine drawStep ?_
        refine optE_of (c := .bool (accN d.accept (pst p).1.toNat)) (by simp [Value.cells, qa]) ?_
        repeat first | refine opsStep ?_ | refine codeStep ?_ | refine drawStep ?_
        refine guardE_of (by omega) ?_
        repeat first | refine opsStep ?_ | refine codeStep ?_ | refine drawStep ?_
        refine optE_of (c := .bool (accN e.accept (pst p).2.toNat)) (by simp [Value.cells, qb]) ?_
        repeat first | refine opsStep ?_ | refine codeStep ?_ | refine drawStep ?_
        refine .inl ⟨_, _, [], (r16_Holds op (accN d.accept (pst p).1.toNat) (accN e.accept (pst p).2.toNat)), RdsN_refl _, .inr rfl, none_need, ?_⟩
        rw [← hac]
        repeat first | refine opsStep ?_ | refine codeStep ?_ | refine drawStep ?_
        refine guardE_of ⟨rfl, by simp [hal]⟩ ?_
        refine guardE_of rfl ?_
        refine guardE_of ⟨by omega, by show (i + 1) * 1 ≤ 140737488355328; omega⟩ ?_
        repeat first | refine opsStep ?_ | refine codeStep ?_ | refine drawStep ?_
        refine ⟨by kernel_rfl, ?_⟩
        repeat first | refine opsStep ?_ | refine codeStep ?_ | refine drawStep ?_
        refine guardE_of ⟨rfl, by simp [hrwl]⟩ ?_
        refine guardE_of rfl ?_
        refine guardE_of ⟨by omega, by show (i + 1) * 24 ≤ 140737488355328; omega⟩ ?_
        repeat first | refine opsStep ?_ | refine codeStep ?_ | refine drawStep ?_
        refine ⟨⟨(i + 1, M, g), hmore, hex, hMn, hM256, h0', hMok, hcz'⟩, (by show 300 - (i + 1) < 300 - i; omega), Ent.rowNext [Blk.cells 0 d.cells, .cells 0 e.cells, .cells 0 [.sl .nil 0 [], .sl .nil 0 [], .sl .nil 0 []], .cells 0 ((numZ N (M.map (gN n))).map (.int .i64)), .cells g (M.map fun p => .int .i64 (gN n p : Nat)), .cells 1 (d.tracks.map .str), .cells 0 [.hs 5 1 0 d.tracks.length 1, .hs 7 (i + 1) 0 (i + 1) 1, .hs 8 (i + 1) 0 (i + 1) 1], .cells (i + 1) (((acs.map AV.bool).drop 0).take (i * 1) ++ [.bool (accP (holdsS op) d e p)])]
          (n := K) (es := 1) (L := ((rws.map (aIs .any)).drop 0).take (i * 1)) (gb := i + 1) (gr := K) (cs := rx.map (.int .i64)) ⟨(by kernel_rfl), (by kernel_rfl), (by kernel_rfl), (by kernel_rfl), (by kernel_rfl), (by kernel_rfl), (by kernel_rfl), (by kernel_rfl), inc_slot (i := i) (by omega), trivial⟩ (by kernel_rfl) (by kernel_rfl) (by kernel_rfl) rfl (by simp [hrxl]) (Nat.zero_le _) (by simp [frBel, AV.bel]) ?_ (bels_td (bels_map.2 fun _ _ => aIs_bel _ _ _)) (by simp [bels_map, AV.bel]) ?_⟩
        · rw [td_all (by simp [hal])]; simp [blksBel, Blk.bel, bels_append, bels_map, bels, AV.bel, cells_bel, aIs_bel]
        · rw [td_all (by simp [hal]), td_all (by simp [hrwl])]
          show _ = [Blk.cells 0 d.cells, .cells 0 e.cells, .cells 0 [.sl .nil 0 [], .sl .nil 0 [], .sl .nil 0 []], .cells 0 ((numZ N ((M).map (gN n))).map (.int .i64)), .cells (g) ((M).map fun p => .int .i64 (gN n p : Nat)), .cells 1 (d.tracks.map .str), .cells 0 [.hs 5 1 0 d.tracks.length 1, .hs 7 (i + 1) 0 (i + 1) 1, .hs 8 (i + 1) 0 (i + 1) 1], .cells (i + 1) ((((M.take (i + 1)).map (accP (holdsS op) d e))).map .bool), .cells (i + 1) ((((M.take (i + 1)).map (rowX (pf d e) M))).map (aIs .any))]
          rw [haccn, hrown, (rfl : accP (holdsS op) d e p = accP (holdsS op) d e p), List.map_append, List.map_append]
          simp [aIs, hrxl]
      · have hq0 : i = 0 := by have := hq0; simp at this; omega
        rw [if_pos hq0] at hac
        repeat first | refine opsStep ?_ | refine codeStep ?_ | refine drawStep ?_
        refine guardE_of ⟨rfl, by simp [hal]⟩ ?_
        refine guardE_of rfl ?_
        refine guardE_of ⟨by omega, by show (i + 1) * 1 ≤ 140737488355328; omega⟩ ?_
        repeat first | refine opsStep ?_ | refine codeStep ?_ | refine drawStep ?_
        refine ⟨by kernel_rfl, ?_⟩
        repeat first | refine opsStep ?_ | refine codeStep ?_ | refine drawStep ?_
        refine guardE_of ⟨rfl, by simp [hrwl]⟩ ?_
        refine guardE_of rfl ?_
        refine guardE_of ⟨by omega, by show (i + 1) * 24 ≤ 140737488355328; omega⟩ ?_
        repeat first | refine opsStep ?_ | refine codeStep ?_ | refine drawStep ?_
        refine ⟨⟨(i + 1, M, g), hmore, hex, hMn, hM256, h0', hMok, hcz'⟩, (by show 300 - (i + 1) < 300 - i; omega), Ent.rowNext [Blk.cells 0 d.cells, .cells 0 e.cells, .cells 0 [.sl .nil 0 [], .sl .nil 0 [], .sl .nil 0 []], .cells 0 ((numZ N (M.map (gN n))).map (.int .i64)), .cells g (M.map fun p => .int .i64 (gN n p : Nat)), .cells 1 (d.tracks.map .str), .cells 0 [.hs 5 1 0 d.tracks.length 1, .hs 7 (i + 1) 0 (i + 1) 1, .hs 8 (i + 1) 0 (i + 1) 1], .cells (i + 1) (((acs.map AV.bool).drop 0).take (i * 1) ++ [.bool (false)])]
          (n := K) (es := 1) (L := ((rws.map (aIs .any)).drop 0).take (i * 1)) (gb := i + 1) (gr := K) (cs := rx.map (.int .i64)) ⟨(by kernel_rfl), (by kernel_rfl), (by kernel_rfl), (by kernel_rfl), (by kernel_rfl), (by kernel_rfl), (by kernel_rfl), (by kernel_rfl), inc_slot (i := i) (by omega), trivial⟩ (by kernel_rfl) (by kernel_rfl) (by kernel_rfl) rfl (by simp [hrxl]) (Nat.zero_le _) (by simp [frBel, AV.bel]) ?_ (bels_td (bels_map.2 fun _ _ => aIs_bel _ _ _)) (by simp [bels_map, AV.bel]) ?_⟩
        · rw [td_all (by simp [hal])]; simp [blksBel, Blk.bel, bels_append, bels_map, bels, AV.bel, cells_bel, aIs_bel]
        · rw [td_all (by simp [hal]), td_all (by simp [hrwl])]
          show _ = [Blk.cells 0 d.cells, .cells 0 e.cells, .cells 0 [.sl .nil 0 [], .sl .nil 0 [], .sl .nil 0 []], .cells 0 ((numZ N ((M).map (gN n))).map (.int .i64)), .cells (g) ((M).map fun p => .int .i64 (gN n p : Nat)), .cells 1 (d.tracks.map .str), .cells 0 [.hs 5 1 0 d.tracks.length 1, .hs 7 (i + 1) 0 (i + 1) 1, .hs 8 (i + 1) 0 (i + 1) 1], .cells (i + 1) ((((M.take (i + 1)).map (accP (holdsS op) d e))).map .bool), .cells (i + 1) ((((M.take (i + 1)).map (rowX (pf d e) M))).map (aIs .any))]
          rw [haccn, hrown, hac, List.map_append, List.map_append]
          simp [aIs, hrxl]
  · have hie : i = L.length := by have := h; simp at this; omega
    have hRL : R = some L := by
      rw [← hex, show 300 - i = (299 - i) + 1 by omega, explO, List.getElem?_eq_none (by omega)]
    have hLt : L.take i = L := by rw [hie]; exact List.take_length
    refine VCode.ent (Ent.fr' (l := [(0, .int .i64 op), (4, .ref 0 0 0), (5, .ref 1 0 0), (6, .ref 2 0 0), (8, .int .i64 n), (9, .hs 3 0 0 N 1), (10, .hs 4 (g) 0 (L).length 1), (11, .ref 6 0 0), (12, .int .i64 (i))]) (H' := [Blk.cells 0 d.cells, .cells 0 e.cells, .cells 0 [.sl .nil 0 [], .sl .nil 0 [], .sl .nil 0 []], .cells 0 ((numZ N ((L).map (gN n))).map (.int .i64)), .cells (g) ((L).map fun p => .int .i64 (gN n p : Nat)), .cells 1 (d.tracks.map .str), .cells 0 [.hs 5 1 0 d.tracks.length 1, .hs 7 (L.length) 0 (L.length) 1, .hs 8 (L.length) 0 (L.length) 1], .cells (L.length) (((L.map (accP (holdsS op) d e))).map .bool), .cells (L.length) (((L.map (rowX (pf d e) L))).map (aIs .any))]) ⟨(by kernel_rfl), (by kernel_rfl), (by kernel_rfl), (by kernel_rfl), (by kernel_rfl), (by kernel_rfl), (by kernel_rfl), (by kernel_rfl), (by kernel_rfl), trivial⟩ ?_) ?_
    · refine Eq.trans (b := [Blk.cells 0 d.cells, .cells 0 e.cells, .cells 0 [.sl .nil 0 [], .sl .nil 0 [], .sl .nil 0 []], .cells 0 ((numZ N ((L).map (gN n))).map (.int .i64)), .cells (g) ((L).map fun p => .int .i64 (gN n p : Nat)), .cells 1 (d.tracks.map .str), .cells 0 [.hs 5 1 0 d.tracks.length 1, .hs 7 (i) 0 (i) 1, .hs 8 (i) 0 (i) 1], .cells (i) ((((L.take i).map (accP (holdsS op) d e))).map .bool), .cells (i) ((((L.take i).map (rowX (pf d e) L))).map (aIs .any))]) (by kernel_rfl) ?_
      rw [hLt, hie]
    repeat first | refine opsStep ?_ | refine codeStep ?_ | refine drawStep ?_
    refine finR (l := [(6, .ref 2 0 0), (7, .int .i64 0)]) (H₁ := [Blk.cells 0 d.cells, .cells 0 e.cells, .cells 0 [.hs 5 1 0 d.tracks.length 1, .hs 7 L.length 0 L.length 1, .hs 8 L.length 0 L.length 1], .cells 0 ((numZ N (L.map (gN n))).map (.int .i64)), .cells g (L.map fun p => .int .i64 (gN n p : Nat)), .cells 1 (d.tracks.map .str), .cells 0 [.hs 5 1 0 d.tracks.length 1, .hs 7 L.length 0 L.length 1, .hs 8 L.length 0 L.length 1], .cells L.length ((L.map (accP (holdsS op) d e)).map .bool), .cells L.length ((L.map (rowX (pf d e) L)).map (aIs .any))])
      (v := .tup [.agg [.hs 5 1 0 d.tracks.length 1, .hs 7 L.length 0 L.length 1, .hs 8 L.length 0 L.length 1], .int .i64 0]) ⟨(by kernel_rfl), (by kernel_rfl), trivial⟩ (by kernel_rfl) (Ent.refl _ _ _) (by kernel_rfl) ?_
    exact .inl ⟨L, hRL, rfl, _, _, _, _, _, _, rfl⟩

end Tab

/- prod.Not. -/
namespace Tab
open Go Go.Proofs
set_option maxRecDepth 10000
set_option linter.unusedVariables false
set_option linter.unusedSimpArgs false
set_option linter.unusedSectionVars false

def notS (a _b : Bool) : Bool := !a
theorem prod_not1 (a b : Bool) : Pure Try.prog 39 [.bool a, .bool b] (.bool (notS a b)) := by
  refine Pure.of_sw 7 Try.func39 rfl Try.ntmps39 (by kernel_rfl) (Nat.le_of_ble_eq_true (by kernel_rfl)) (by simp [closeds, AV.closed, aSs_closed, aIs_closed, aBs_closed, aRs_closed, aDen_closed]) (by simp [AV.closed, closeds, aSs_closed, aIs_closed, aBs_closed, aRs_closed, aDen_closed]) ?_; refine SW.of_vc ?_
  repeat first | refine opsStep ?_ | refine codeStep ?_ | refine drawStep ?_
  exact finV (v' := .bool (!a)) (by kernel_rfl) rfl

theorem pf_congr {d e d' e' : Den} (h1 : d'.rows = d.rows) (h2 : e'.rows = e.rows) (h3 : d'.tracks.length = d.tracks.length) : pf d' e' = pf d e := by
  funext p; rw [pf, pf, h1, h2, h3]
theorem prdR_congr {d e d' e' : Den} (h1 : d'.rows = d.rows) (h2 : e'.rows = e.rows) (h3 : d'.tracks.length = d.tracks.length) : prdR d' e' = prdR d e := by
  rw [prdR, prdR, pf_congr h1 h2 h3]
theorem widenD_rows (d names) : (widenD d names).rows = d.rows.map (ovRow names.length (placesOf d.tracks names)) := by
  simp [widenD, Den.rows, Function.comp_def]
theorem widenD_own {d : Den} (h : rightS d = true) : widenE d d.tracks = 0 ∧ (widenD d d.tracks).rows = d.rows ∧ rightS (widenD d d.tracks) = true := by
  obtain ⟨h1, h2⟩ := widen_self h
  have hr : (widenD d d.tracks).rows = d.rows := by
    have k3 := (widenE_of_ok h1).2.1
    rw [widenD_rows, places_self (strict_nodup (rises_strict k3)), rows_id h]
  refine ⟨h1, hr, ?_⟩
  obtain ⟨g1, g2, g3⟩ := rightS_parts h
  have g4 : ∀ r ∈ (widenD d d.tracks).next, rowOk d.tracks.length d.accept.length r.2 = true := fun r hr' => by
    have : r.2 ∈ (widenD d d.tracks).rows := List.mem_map.2 ⟨r, hr', rfl⟩
    rw [hr] at this
    obtain ⟨x, hx, e⟩ := List.mem_map.1 this
    rw [← e]; exact g3 x hx
  have g5 : (widenD d d.tracks).next.length = d.accept.length := by rw [← g2]; simp [widenD, Den.rows]
  simp only [rightS, Bool.and_eq_true, decide_eq_true_eq, List.all_eq_true]
  exact ⟨⟨g1, g5⟩, g4⟩

@[irreducible] def notE (d : Den) : Int := if rightS d = true then prdE d d else 3

theorem prod_Not (d : Den) (hd : DenOk d) : ACall Try.prog 18 [aDen d] [] fun o H' => (notE d ≠ 0 ∧ o = .ret (.tup [aDen den0, .int .i64 (notE d)]) ∧ H' = []) ∨
    (notE d = 0 ∧ ∃ L, prdR d d = some L ∧ o = .ret (.tup [ndV d.tracks.length L.length, .int .i64 0]) ∧ H' = ndH d.tracks (L.map (accP notS d d)) (L.map (rowX (pf d d) L)) (2 ^ d.tracks.length)) := by
  refine ACall.weak (R := fun o H' => (notE d ≠ 0 ∧ o = .ret (.tup [aDen den0, .int .i64 (notE d)])) ∨ (notE d = 0 ∧ ∃ L, prdR d d = some L ∧ o = .ret (.tup [.agg [.hs 2 0 0 d.tracks.length 1, .hs 10 L.length 0 L.length 1, .hs 11 L.length 0 L.length 1], .int .i64 0]) ∧
      ∃ b0 b1 b3 b4 b5 b6 b7 b8 b9, H' = [b0, b1, .cells 0 (d.tracks.map .str), b3, b4, b5, b6, b7, b8, b9, .cells L.length ((L.map (accP notS d d)).map .bool), .cells L.length (pmHs 12 (2 ^ d.tracks.length) L.length)] ++ pmRows (L.map (rowX (pf d d) L)))) ?_
    (fun H' h => by rcases h with ⟨_, h⟩ | ⟨_, L, _, h, _⟩ <;> cases h) ?_
  rotate_left
  · rintro v H' (⟨h, hv⟩ | ⟨h, L, hL, hv, b0, b1, b3, b4, b5, b6, b7, b8, b9, rfl⟩)
    · have hv := Out.ret.inj hv
      subst hv
      exact ⟨.tup [aDen den0, .int .i64 (notE d)], [], Ent.give rfl 0 (by simp [AV.closed, closeds, aDen_closed]) (.refl _), .inl ⟨h, rfl, rfl⟩⟩
    · have hv := Out.ret.inj hv
      subst hv
      refine ⟨_, _, Ent.newDen (a := 2) (b := 10) (c := 11) (base := 12) (N := d.tracks.length) (M := L.length) (names := d.tracks) (acc := L.map (accP notS d d)) (rows := L.map (rowX (pf d d) L)) 0 rfl rfl rfl ?_ (by simp) (by omega) (by omega) (by omega) (by omega) (by omega) (by omega), .inr ⟨h, L, hL, rfl, rfl⟩⟩
      intro j r hj
      rw [List.getElem?_append_right (by simp)]
      simp only [List.length_cons, List.length_nil, pmRows]
      rw [show 12 + j - (0 + 1 + 1 + 1 + 1 + 1 + 1 + 1 + 1 + 1 + 1 + 1 + 1) = j by omega]
      rw [List.getElem?_map, hj]; rfl
  have h1 := hd.tracks
  refine ACall.of_sw 25 Try.func18 rfl Try.ntmps18 (by kernel_rfl) (Nat.le_of_ble_eq_true (by kernel_rfl)) ?_; refine SW.of_vc ?_
  repeat first | refine opsStep ?_ | refine codeStep ?_ | refine drawStep ?_
  refine callP (table_Right d hd) ?_
  repeat first | refine opsStep ?_ | refine codeStep ?_ | refine drawStep ?_
  refine decB_dec (fun hr => ?_) (fun hr => ?_)
  · have hr' : rightS d = false := by cases h : rightS d with | true => exact absurd (rightE_ok h) hr | false => rfl
    have hn : notE d = 3 := by rw [notE, hr']; rfl
    have hre := rightE_bad hr'
    repeat first | refine opsStep ?_ | refine codeStep ?_ | refine drawStep ?_
    refine finR (l := [(2, .ref 1 0 0), (3, .int .i64 (rightE d))]) (H₁ := [.cells 0 d.cells, .cells 0 den0.cells]) (v := .tup [aDen den0, .int .i64 (rightE d)]) ⟨(by kernel_rfl), (by kernel_rfl), trivial⟩ (by kernel_rfl) (Ent.refl _ _ _) (by kernel_rfl) ?_
    rw [hre, hn]
    exact .inl ⟨by decide, rfl⟩
  · have hr' : rightS d = true := by cases h : rightS d with | true => rfl | false => exact absurd (fun e => by rw [rightE_bad h] at e; omega) hr
    have hn : notE d = prdE d d := by rw [notE, hr']; rfl
    obtain ⟨w0, w1, w2⟩ := widenD_own hr'
    obtain ⟨jd1, jd2, jd3, jd4⟩ := tracksS_parts (rightS_parts hr').1
    have hwd := track_WidenK d.tk d d.tracks hd (by omega) (fun s hs => by have := hd.names s hs; omega)
    have hokW : DenOk (widenD d d.tracks) := by
      have := widenR_ok_den (d := d) (names := d.tracks) hd (by omega) (fun s hs => by have := hd.names s hs; omega)
      rwa [widenR_ok w0] at this
    have hR := prdR_congr (d := d) (e := d) w1 w1 (show (widenD d d.tracks).tracks.length = d.tracks.length from rfl)
    have hpf := pf_congr (d := d) (e := d) w1 w1 (show (widenD d d.tracks).tracks.length = d.tracks.length from rfl)
    have hac : accP notS (widenD d d.tracks) (widenD d d.tracks) = accP notS d d := rfl
    have hmd := prod_made d.tracks (widenD d d.tracks) (widenD d d.tracks) (.hs 0 0 0 d.tracks.length 1) notS 39 hokW hokW w2 w2 rfl (by simp [AV.bel]) prod_not1 (2 ^ d.tracks.length) rfl
    rw [hR, hpf, hac] at hmd
    generalize hwn : (widenD d d.tracks).next = next at *
    have hma : (widenD d d.tracks).accept = d.accept := rfl
    have hmk : (widenD d d.tracks).ak = .any := rfl
    have hmn : (widenD d d.tracks).nk = .any := rfl
    rw [hma, hmk, hmn] at hmd
    rw [hma] at hwd
    repeat first | refine opsStep ?_ | refine codeStep ?_ | refine drawStep ?_
    refine callS (show closeds [aDen d, aSs d.tk d.tracks] from by simp [closeds, aDen_closed, aSs_closed]) hwd (fun X h => by rcases h with ⟨_, h, _⟩ | ⟨_, h, _⟩ <;> cases h) ?_
    rintro v X (⟨hne, hv, rfl⟩ | ⟨h0, hv, rfl⟩)
    · exact absurd w0 hne
    have hv := Out.ret.inj hv
    subst hv
    iterate 7 refine opsStep ?_
    refine VCode.ent (Ent.fr' (l := [(2, .ref 1 0 0), (5, .ref 3 0 0)]) (H' := [.cells 0 d.cells, .cells 0 den0.cells, .cells 0 (d.tracks.map .str), .cells 0 [.hs 2 0 0 d.tracks.length 1, aBs .any d.accept, aRs .any next]]) ⟨(by kernel_rfl), (by kernel_rfl), trivial⟩ ?_) ?_
    · refine Eq.trans (b := [.cells 0 d.cells, .cells 0 den0.cells, Blk.sh 2 (.cells 0 (d.tracks.map .str)), .cells 0 [.hs 2 0 0 d.tracks.length 1, (aBs .any d.accept).sh 2, (aRs .any next).sh 2]]) (by kernel_rfl) ?_
      rw [Blk.sh, strs_sh, AV.closed_sh _ (aBs_closed _ _), AV.closed_sh _ (aRs_closed _ _)]
    repeat first | refine opsStep ?_ | refine codeStep ?_ | refine drawStep ?_
    refine callF [2] hmd (by simp) (by intro b hb; simp at hb; subst hb; exact (by decide : 2 < 4)) rfl ?_ ?_ ?_ ?_ ?_
    · show [some (Blk.cells 0 (d.tracks.map .str))] = [some (Blk.cells 0 (rns _ (d.tracks.map .str)))]
      rw [strs_rn]
    · simp [bels, AV.bel, aBs_bel, aRs_bel]
    · simp [blksBel, Blk.bel, bels_map, AV.bel]
    · show [AV.agg [.hs 2 0 0 d.tracks.length 1, aBs .any d.accept, aRs .any next], AV.agg [.hs 2 0 0 d.tracks.length 1, aBs .any d.accept, aRs .any next], _] = _
      rw [rns, rns, rns, rns, AV.rn, AV.rn, rns, rns, rns, rns, AV.closed_rn _ (aBs_closed _ _), AV.closed_rn _ (aRs_closed _ _)]
      rfl
    · rintro o H' (⟨L, hL, rfl, b1, b2, b3, b4, b5, b6, rfl⟩ | ⟨hL, rfl, X, rfl⟩)
      · have hpe := (prd_some (cn := notS) (names := d.tracks) hL).2
        obtain ⟨F, hF⟩ : ∃ F, rnB [2] 4 = F := ⟨_, rfl⟩
        have hF9 : ∀ j, F (9 + j) = 12 + j := fun j => by rw [← hF, rnB_ge (φ := [2]) (show 1 ≤ 9 + j by omega)]; show 4 + (9 + j - 1) = _; omega
        repeat first | refine opsStep ?_ | refine codeStep ?_ | refine drawStep ?_
        refine finR (l := [(2, .ref 1 0 0), (3, .int .i64 0)]) (H₁ := [.cells 0 d.cells, .cells 0 [.hs 2 0 0 d.tracks.length 1, .hs 10 L.length 0 L.length 1, .hs 11 L.length 0 L.length 1], .cells 0 (rns (rnB [2] 4) (d.tracks.map .str)), .cells 0 [.hs 2 0 0 d.tracks.length 1, aBs .any d.accept, aRs .any next],
          b1.rn (rnB [2] 4), b2.rn (rnB [2] 4), b3.rn (rnB [2] 4), b4.rn (rnB [2] 4), b5.rn (rnB [2] 4), b6.rn (rnB [2] 4), .cells L.length (rns (rnB [2] 4) ((L.map (accP notS d d)).map .bool)), .cells L.length (rns (rnB [2] 4) (pmHs 9 (2 ^ d.tracks.length) L.length))] ++ (pmRows (L.map (rowX (pf d d) L))).map (Blk.rn (rnB [2] 4)))
          (v := .tup [.agg [.hs 2 0 0 d.tracks.length 1, .hs 10 L.length 0 L.length 1, .hs 11 L.length 0 L.length 1], .int .i64 0]) ⟨(by kernel_rfl), (by kernel_rfl), trivial⟩ (by kernel_rfl) (Ent.refl _ _ _) (by kernel_rfl) ?_
        rw [hF, strs_rn, bools_rn, pmHs_rn F 9 12 _ hF9, pmRows_rn]
        exact .inr ⟨by rw [hn, hpe], L, hL, rfl, _, _, _, _, _, _, _, _, _, rfl⟩
      · have hpe := (prd_none (cn := notS) (names := d.tracks) hL).2
        repeat first | refine opsStep ?_ | refine codeStep ?_ | refine drawStep ?_
        refine finR (l := [(2, .ref 1 0 0), (3, .int .i64 140)]) (H₁ := place (rnB [2] 4) [2] [.cells 0 d.cells, .cells 0 den0.cells, .cells 0 (d.tracks.map .str), .cells 0 [.hs 2 0 0 d.tracks.length 1, aBs .any d.accept, aRs .any next]] (.cells 0 (d.tracks.map .str) :: X)) (v := .tup [aDen den0, .int .i64 140]) ⟨(by kernel_rfl), (by kernel_rfl), trivial⟩ (by kernel_rfl) (Ent.refl _ _ _) (by kernel_rfl) ?_
        rw [hn, hpe]
        exact .inl ⟨by decide, rfl⟩

end Tab

/- prod.Join. -/
namespace Tab
open Go Go.Proofs
set_option maxRecDepth 10000
set_option linter.unusedVariables false
set_option linter.unusedSimpArgs false
set_option linter.unusedSectionVars false

theorem prod_con1 (a b : Bool) : Pure Try.prog 64 [.bool a, .bool b] (.bool (holdsS 3 a b)) := by
  refine Pure.of_sw 9 Try.func64 rfl Try.ntmps64 (by kernel_rfl) (Nat.le_of_ble_eq_true (by kernel_rfl)) (by simp [closeds, AV.closed, aSs_closed, aIs_closed, aBs_closed, aRs_closed, aDen_closed]) (by simp [AV.closed, closeds, aSs_closed, aIs_closed, aBs_closed, aRs_closed, aDen_closed]) ?_; refine SW.of_vc ?_
  repeat first | refine opsStep ?_ | refine codeStep ?_ | refine drawStep ?_
  refine decB_split (fun h => ?_) (fun h => ?_)
  · subst h
    repeat first | refine opsStep ?_ | refine codeStep ?_ | refine drawStep ?_
    exact finV (v' := .bool b) (by kernel_rfl) (by simp [holdsS])
  · repeat first | refine opsStep ?_ | refine codeStep ?_ | refine drawStep ?_
    exact finV (v' := .bool false) (by kernel_rfl) (by simp [holdsS, h])
theorem prod_con2 (a b : Bool) : Pure Try.prog 65 [.bool a, .bool b] (.bool (holdsS 4 a b)) := by
  refine Pure.of_sw 9 Try.func65 rfl Try.ntmps65 (by kernel_rfl) (Nat.le_of_ble_eq_true (by kernel_rfl)) (by simp [closeds, AV.closed, aSs_closed, aIs_closed, aBs_closed, aRs_closed, aDen_closed]) (by simp [AV.closed, closeds, aSs_closed, aIs_closed, aBs_closed, aRs_closed, aDen_closed]) ?_; refine SW.of_vc ?_
  repeat first | refine opsStep ?_ | refine codeStep ?_ | refine drawStep ?_
  refine decB_split (fun h => ?_) (fun h => ?_)
  · repeat first | refine opsStep ?_ | refine codeStep ?_ | refine drawStep ?_
    exact finV (v' := .bool true) (by kernel_rfl) (by simp [holdsS, h])
  · repeat first | refine opsStep ?_ | refine codeStep ?_ | refine drawStep ?_
    exact finV (v' := .bool b) (by kernel_rfl) (by simp [holdsS, h])
theorem prod_con3 (a b : Bool) : Pure Try.prog 66 [.bool a, .bool b] (.bool (holdsS 5 a b)) := by
  refine Pure.of_sw 10 Try.func66 rfl Try.ntmps66 (by kernel_rfl) (Nat.le_of_ble_eq_true (by kernel_rfl)) (by simp [closeds, AV.closed, aSs_closed, aIs_closed, aBs_closed, aRs_closed, aDen_closed]) (by simp [AV.closed, closeds, aSs_closed, aIs_closed, aBs_closed, aRs_closed, aDen_closed]) ?_; refine SW.of_vc ?_
  repeat first | refine opsStep ?_ | refine codeStep ?_ | refine drawStep ?_
  refine decB_split (fun h => ?_) (fun h => ?_)
  · repeat first | refine opsStep ?_ | refine codeStep ?_ | refine drawStep ?_
    exact finV (v' := .bool true) (by kernel_rfl) (by simp [holdsS, h])
  · repeat first | refine opsStep ?_ | refine codeStep ?_ | refine drawStep ?_
    exact finV (v' := .bool b) (by kernel_rfl) (by simp [holdsS, h])
theorem prod_con4 (a b : Bool) : Pure Try.prog 67 [.bool a, .bool b] (.bool (holdsS 6 a b)) := by
  refine Pure.of_sw 8 Try.func67 rfl Try.ntmps67 (by kernel_rfl) (Nat.le_of_ble_eq_true (by kernel_rfl)) (by simp [closeds, AV.closed, aSs_closed, aIs_closed, aBs_closed, aRs_closed, aDen_closed]) (by simp [AV.closed, closeds, aSs_closed, aIs_closed, aBs_closed, aRs_closed, aDen_closed]) ?_; refine SW.of_vc ?_
  repeat first | refine opsStep ?_ | refine codeStep ?_ | refine drawStep ?_
  exact finV (v' := .bool (a == b)) (by kernel_rfl) rfl

def conF (op : Int) : Option FuncId := if op = 3 then some 64 else if op = 4 then some 65 else if op = 5 then some 66 else if op = 6 then some 67 else none
def conV (op : Int) : AV := match conF op with | some f => .fn (.func f) [] [] | none => .nilf
theorem conF_some {op : Int} (h : 3 ≤ op ∧ op ≤ 6) : ∃ f, conF op = some f ∧ ∀ a b, Pure Try.prog f [.bool a, .bool b] (.bool (holdsS op a b)) := by
  have : op = 3 ∨ op = 4 ∨ op = 5 ∨ op = 6 := by omega
  rcases this with rfl | rfl | rfl | rfl
  · exact ⟨_, rfl, prod_con1⟩
  · exact ⟨_, rfl, prod_con2⟩
  · exact ⟨_, rfl, prod_con3⟩
  · exact ⟨_, rfl, prod_con4⟩
theorem conF_none {op : Int} (h : ¬ (3 ≤ op ∧ op ≤ 6)) : conF op = none := by
  rw [conF, if_neg (by omega), if_neg (by omega), if_neg (by omega), if_neg (by omega)]
@[simp] theorem conV_closed (op : Int) : (conV op).closed := by
  rw [conV]; split <;> simp [AV.closed, closeds]
theorem prod_connective (op : Int) : Pure Try.prog 46 [.int .i64 op] (conV op) := by
  refine Pure.of_sw 12 Try.func46 rfl Try.ntmps46 (by kernel_rfl) (Nat.le_of_ble_eq_true (by kernel_rfl)) (by simp [closeds, AV.closed, aSs_closed, aIs_closed, aBs_closed, aRs_closed, aDen_closed]) (by simp [AV.closed, closeds, aSs_closed, aIs_closed, aBs_closed, aRs_closed, aDen_closed]) ?_; refine SW.of_vc ?_
  repeat first | refine opsStep ?_ | refine codeStep ?_ | refine drawStep ?_
  refine decB_dec (fun h3 => ?_) (fun h3 => ?_)
  · repeat first | refine opsStep ?_ | refine codeStep ?_ | refine drawStep ?_
    exact finV (v' := .fn (.func 64) [] []) (by kernel_rfl) (by rw [conV, conF, if_pos h3])
  repeat first | refine opsStep ?_ | refine codeStep ?_ | refine drawStep ?_
  refine decB_dec (fun h4 => ?_) (fun h4 => ?_)
  · repeat first | refine opsStep ?_ | refine codeStep ?_ | refine drawStep ?_
    exact finV (v' := .fn (.func 65) [] []) (by kernel_rfl) (by rw [conV, conF, if_neg h3, if_pos h4])
  repeat first | refine opsStep ?_ | refine codeStep ?_ | refine drawStep ?_
  refine decB_dec (fun h5 => ?_) (fun h5 => ?_)
  · repeat first | refine opsStep ?_ | refine codeStep ?_ | refine drawStep ?_
    exact finV (v' := .fn (.func 66) [] []) (by kernel_rfl) (by rw [conV, conF, if_neg h3, if_neg h4, if_pos h5])
  repeat first | refine opsStep ?_ | refine codeStep ?_ | refine drawStep ?_
  refine decB_dec (fun h6 => ?_) (fun h6 => ?_)
  · repeat first | refine opsStep ?_ | refine codeStep ?_ | refine drawStep ?_
    exact finV (v' := .fn (.func 67) [] []) (by kernel_rfl) (by rw [conV, conF, if_neg h3, if_neg h4, if_neg h5, if_pos h6])
  repeat first | refine opsStep ?_ | refine codeStep ?_ | refine drawStep ?_
  exact finV (v' := .nilf) (by kernel_rfl) (by rw [conV, conF, if_neg h3, if_neg h4, if_neg h5, if_neg h6])

def unN (d e : Den) : List (List UInt8) := togS (d.tracks ++ e.tracks)
@[irreducible] def joinE (op : Int) (d e : Den) : Int := if (rightS d && rightS e) = true then (if 3 ≤ op ∧ op ≤ 6 then (if (unN d e).length ≤ 6 then prdE (widenD d (unN d e)) (widenD e (unN d e)) else 150) else 2) else 3
theorem joinE_shape {op d e} (h : (rightS d && rightS e) = false) : joinE op d e = 3 := by rw [joinE, h]; rfl
theorem joinE_range {op d e} (h : (rightS d && rightS e) = true) (h2 : ¬ (3 ≤ op ∧ op ≤ 6)) : joinE op d e = 2 := by rw [joinE, if_pos h, if_neg h2]
theorem joinE_wide {op d e} (h : (rightS d && rightS e) = true) (h2 : 3 ≤ op ∧ op ≤ 6) (h3 : ¬ (unN d e).length ≤ 6) : joinE op d e = 150 := by rw [joinE, if_pos h, if_pos h2, if_neg h3]
theorem joinE_made {op d e} (h : (rightS d && rightS e) = true) (h2 : 3 ≤ op ∧ op ≤ 6) (h3 : (unN d e).length ≤ 6) : joinE op d e = prdE (widenD d (unN d e)) (widenD e (unN d e)) := by rw [joinE, if_pos h, if_pos h2, if_pos h3]

theorem unN_rises {d e : Den} (h1 : rightS d = true) (h2 : rightS e = true) : risesS (unN d e) = true := by
  obtain ⟨_, a2, _, _⟩ := tracksS_parts (rightS_parts h1).1
  obtain ⟨_, b2, _, _⟩ := tracksS_parts (rightS_parts h2).1
  refine strict_rises (tog_strict _) fun s hs => ?_
  rcases List.mem_append.1 ((tog_mem _ _).1 hs) with h | h
  · exact rises_names a2 s h
  · exact rises_names b2 s h
theorem unN_in {d e : Den} : inAll d.tracks (unN d e) = true ∧ inAll e.tracks (unN d e) = true :=
  ⟨inAll_iff.2 fun s hs => (tog_mem _ _).2 (List.mem_append_left _ hs), inAll_iff.2 fun s hs => (tog_mem _ _).2 (List.mem_append_right _ hs)⟩
theorem unN_len {d e : Den} (h1 : rightS d = true) (h2 : rightS e = true) : (unN d e).length ≤ 12 := by
  obtain ⟨a1, _, _, _⟩ := tracksS_parts (rightS_parts h1).1
  obtain ⟨b1, _, _, _⟩ := tracksS_parts (rightS_parts h2).1
  have := tog_len (d.tracks ++ e.tracks)
  rw [List.length_append] at this
  rw [unN]; omega
theorem unN_sizes {d e : Den} (hd : DenOk d) (he : DenOk e) : ∀ s ∈ unN d e, s.length ≤ 140737488351232 := fun s hs => by
  rcases List.mem_append.1 ((tog_mem _ _).1 hs) with h | h
  · exact hd.names s h
  · exact he.names s h
theorem widenD_right {d : Den} {names : List (List UInt8)} (h : rightS d = true) (h1 : names.length ≤ 6) (h2 : risesS names = true) : rightS (widenD d names) = true := by
  rw [widenD_ov]; exact ovD_right h h1 h2 (by simp [placesOf])
theorem widenD_den {d : Den} {names : List (List UInt8)} (hd : DenOk d) (hn : names.length * 16 ≤ 140737488351232) (hns : ∀ s ∈ names, s.length ≤ 140737488351232) (w0 : widenE d names = 0) : DenOk (widenD d names) := by
  have := widenR_ok_den (d := d) (names := names) hd hn hns
  rwa [widenR_ok w0] at this

theorem prod_Join (op : Int) (d e : Den) (hd : DenOk d) (he : DenOk e) : ACall Try.prog 23 [.int .i64 op, aDen d, aDen e] [] fun o H' => (joinE op d e ≠ 0 ∧ o = .ret (.tup [aDen den0, .int .i64 (joinE op d e)]) ∧ H' = []) ∨
    (joinE op d e = 0 ∧ (unN d e).length ≤ 6 ∧ ∃ L, prdR (widenD d (unN d e)) (widenD e (unN d e)) = some L ∧ o = .ret (.tup [ndV (unN d e).length L.length, .int .i64 0]) ∧ H' = ndH (unN d e) (L.map (accP (holdsS op) (widenD d (unN d e)) (widenD e (unN d e)))) (L.map (rowX (pf (widenD d (unN d e)) (widenD e (unN d e))) L)) (2 ^ (unN d e).length)) := by
  refine ACall.weak (R := fun o H' => (joinE op d e ≠ 0 ∧ o = .ret (.tup [aDen den0, .int .i64 (joinE op d e)])) ∨ (joinE op d e = 0 ∧ (unN d e).length ≤ 6 ∧ ∃ L, prdR (widenD d (unN d e)) (widenD e (unN d e)) = some L ∧ o = .ret (.tup [.agg [.hs 3 0 0 (unN d e).length 1, .hs 12 L.length 0 L.length 1, .hs 13 L.length 0 L.length 1], .int .i64 0]) ∧
      ∃ b0 b1 b2 b4 b5 b6 b7 b8 b9 b10 b11, H' = [b0, b1, b2, .cells 0 ((unN d e).map .str), b4, b5, b6, b7, b8, b9, b10, b11, .cells L.length ((L.map (accP (holdsS op) (widenD d (unN d e)) (widenD e (unN d e)))).map .bool), .cells L.length (pmHs 14 (2 ^ (unN d e).length) L.length)] ++ pmRows (L.map (rowX (pf (widenD d (unN d e)) (widenD e (unN d e))) L)))) ?_
    (fun H' h => by rcases h with ⟨_, h⟩ | ⟨_, _, L, _, h, _⟩ <;> cases h) ?_
  rotate_left
  · rintro v H' (⟨h, hv⟩ | ⟨h, h6, L, hL, hv, b0, b1, b2, b4, b5, b6, b7, b8, b9, b10, b11, rfl⟩)
    · have hv := Out.ret.inj hv
      subst hv
      exact ⟨.tup [aDen den0, .int .i64 (joinE op d e)], [], Ent.give rfl 0 (by simp [AV.closed, closeds, aDen_closed]) (.refl _), .inl ⟨h, rfl, rfl⟩⟩
    · have hv := Out.ret.inj hv
      subst hv
      refine ⟨_, _, Ent.newDen (a := 3) (b := 12) (c := 13) (base := 14) (N := (unN d e).length) (M := L.length) (names := unN d e) (acc := L.map (accP (holdsS op) (widenD d (unN d e)) (widenD e (unN d e)))) (rows := L.map (rowX (pf (widenD d (unN d e)) (widenD e (unN d e))) L)) 0 rfl rfl rfl ?_ (by simp) (by omega) (by omega) (by omega) (by omega) (by omega) (by omega), .inr ⟨h, h6, L, hL, rfl, rfl⟩⟩
      intro j r hj
      rw [List.getElem?_append_right (by simp)]
      simp only [List.length_cons, List.length_nil, pmRows]
      rw [show 14 + j - (0 + 1 + 1 + 1 + 1 + 1 + 1 + 1 + 1 + 1 + 1 + 1 + 1 + 1 + 1) = j by omega]
      rw [List.getElem?_map, hj]; rfl
  have h1 := hd.tracks
  have h2 := he.tracks
  have hrd := table_Right d hd
  have hre := table_Right e he
  have hbad : (rightS d && rightS e) = false → joinE op d e = 3 := joinE_shape
  refine ACall.of_sw 65 Try.func23 rfl Try.ntmps23 (by kernel_rfl) (Nat.le_of_ble_eq_true (by kernel_rfl)) ?_; refine SW.of_vc ?_
  repeat first | refine opsStep ?_ | refine codeStep ?_ | refine drawStep ?_
  refine callP hrd ?_
  repeat first | refine opsStep ?_ | refine codeStep ?_ | refine drawStep ?_
  refine decB_dec (fun hr1 => ?_) (fun hr1 => ?_)
  · have hr' : rightS d = false := by cases h : rightS d with | true => exact absurd (rightE_ok h) hr1 | false => rfl
    have hb := hbad (by rw [hr']; rfl)
    repeat first | refine opsStep ?_ | refine codeStep ?_ | refine drawStep ?_
    refine finR (l := [(6, .ref 2 0 0), (7, .int .i64 3)]) (H₁ := [.cells 0 d.cells, .cells 0 e.cells, .cells 0 den0.cells]) (v := .tup [aDen den0, .int .i64 3]) ⟨(by kernel_rfl), (by kernel_rfl), trivial⟩ (by kernel_rfl) (Ent.refl _ _ _) (by kernel_rfl) ?_
    rw [hb]
    exact .inl ⟨by decide, rfl⟩
  have hr1' : rightS d = true := by cases h : rightS d with | true => rfl | false => exact absurd (fun e => by rw [rightE_bad h] at e; omega) hr1
  repeat first | refine opsStep ?_ | refine codeStep ?_ | refine drawStep ?_
  refine callP hre ?_
  repeat first | refine opsStep ?_ | refine codeStep ?_ | refine drawStep ?_
  refine decB_dec (fun hr2 => ?_) (fun hr2 => ?_)
  · have hr' : rightS e = false := by cases h : rightS e with | true => exact absurd (rightE_ok h) hr2 | false => rfl
    have hb := hbad (by rw [hr']; simp)
    repeat first | refine opsStep ?_ | refine codeStep ?_ | refine drawStep ?_
    refine finR (l := [(6, .ref 2 0 0), (7, .int .i64 3)]) (H₁ := [.cells 0 d.cells, .cells 0 e.cells, .cells 0 den0.cells]) (v := .tup [aDen den0, .int .i64 3]) ⟨(by kernel_rfl), (by kernel_rfl), trivial⟩ (by kernel_rfl) (Ent.refl _ _ _) (by kernel_rfl) ?_
    rw [hb]
    exact .inl ⟨by decide, rfl⟩
  have hr2' : rightS e = true := by cases h : rightS e with | true => rfl | false => exact absurd (fun e => by rw [rightE_bad h] at e; omega) hr2
  have hrr : (rightS d && rightS e) = true := by rw [hr1', hr2']; rfl
  have hcn := prod_connective op
  repeat first | refine opsStep ?_ | refine codeStep ?_ | refine drawStep ?_
  by_cases hop : 3 ≤ op ∧ op ≤ 6
  rotate_left
  · have hb := joinE_range hrr hop
    rw [conV, conF_none hop] at hcn
    refine callP hcn ?_
    repeat first | refine opsStep ?_ | refine codeStep ?_ | refine drawStep ?_
    refine finR (l := [(6, .ref 2 0 0), (7, .int .i64 2)]) (H₁ := [.cells 0 d.cells, .cells 0 e.cells, .cells 0 den0.cells]) (v := .tup [aDen den0, .int .i64 2]) ⟨(by kernel_rfl), (by kernel_rfl), trivial⟩ (by kernel_rfl) (Ent.refl _ _ _) (by kernel_rfl) ?_
    rw [hb]
    exact .inl ⟨by decide, rfl⟩
  obtain ⟨f, hf, hfp⟩ := conF_some hop
  rw [conV, hf] at hcn
  obtain ⟨jd1, jd2, jd3, jd4⟩ := tracksS_parts (rightS_parts hr1').1
  obtain ⟨je1, je2, je3, je4⟩ := tracksS_parts (rightS_parts hr2').1
  have hun := glyph_Union d.tk e.tk d.tracks e.tracks (by omega) (fun s hs => by have := hd.names s hs; omega) (fun s hs => by have := he.names s hs; omega) jd2 je2
  have hur := unN_rises hr1' hr2'
  obtain ⟨hi1, hi2⟩ := unN_in (d := d) (e := e)
  have hul := unN_len hr1' hr2'
  have hus := unN_sizes hd he
  have hwide := joinE_wide hrr hop
  have hmade := joinE_made hrr hop
  rw [← unN] at hun
  generalize unN d e = names at *
  refine callP hcn ?_
  repeat first | refine opsStep ?_ | refine codeStep ?_ | refine drawStep ?_
  refine callP hun ?_
  have hwd := track_WidenK .any d names hd (by omega) hus
  have hwe := track_Widen_pure .any e names he (by omega) hus
  have hcl : closeds [aDen d, aSs .any names] := by simp [closeds, aDen_closed, aSs_closed]
  by_cases h6 : names.length ≤ 6
  rotate_left
  · have hb := hwide h6
    have hw0 := widenE_wide hr1' hur h6
    repeat first | refine opsStep ?_ | refine codeStep ?_ | refine drawStep ?_
    refine callS hcl hwd (fun X h => by rcases h with ⟨_, h, _⟩ | ⟨_, h, _⟩ <;> cases h) ?_
    rintro v X (⟨hne, hv, rfl⟩ | ⟨h0, hv, rfl⟩)
    · have hv := Out.ret.inj hv
      subst hv
      rw [hw0]
      iterate 7 refine opsStep ?_
      refine VCode.ent (Ent.fr' (l := [(0, .int .i64 op), (4, .ref 0 0 0), (5, .ref 1 0 0), (6, .ref 2 0 0), (10, .int .i64 150)]) (H' := [.cells 0 d.cells, .cells 0 e.cells, .cells 0 den0.cells, .cells 0 den0.cells]) ⟨(by kernel_rfl), (by kernel_rfl), (by kernel_rfl), (by kernel_rfl), (by kernel_rfl), trivial⟩ (by kernel_rfl)) ?_
      repeat first | refine opsStep ?_ | refine codeStep ?_ | refine drawStep ?_
      refine finR (l := [(6, .ref 2 0 0), (7, .int .i64 150)]) (H₁ := [.cells 0 d.cells, .cells 0 e.cells, .cells 0 den0.cells, .cells 0 den0.cells]) (v := .tup [aDen den0, .int .i64 150]) ⟨(by kernel_rfl), (by kernel_rfl), trivial⟩ (by kernel_rfl) (Ent.refl _ _ _) (by kernel_rfl) ?_
      rw [hb]
      exact .inl ⟨by decide, rfl⟩
    · omega
  have hb := hmade h6
  have w0 := widenE_ok hr1' hur h6 hi1
  have v0 := widenE_ok hr2' hur h6 hi2
  have wr := widenD_right hr1' h6 hur
  have vr := widenD_right hr2' h6 hur
  have wk := widenD_den hd (by omega) hus w0
  have vk := widenD_den he (by omega) hus v0
  rw [widenR_ok v0, v0] at hwe
  have hmd := prod_made names (widenD d names) (widenD e names) (aSs (widenD e names).tk (widenD e names).tracks) (holdsS op) f wk vk wr vr rfl (aSs_bel _ _ _) hfp (2 ^ names.length) rfl
  have hma : (widenD d names).ak = .any := rfl
  have hmn : (widenD d names).nk = .any := rfl
  rw [hma, hmn] at hmd
  generalize hgd : widenD d names = wd at *
  generalize hge : widenD e names = we at *
  repeat first | refine opsStep ?_ | refine codeStep ?_ | refine drawStep ?_
  refine callS hcl hwd (fun X h => by rcases h with ⟨_, h, _⟩ | ⟨_, h, _⟩ <;> cases h) ?_
  rintro v X (⟨hne, hv, rfl⟩ | ⟨h0, hv, rfl⟩)
  · exact absurd w0 hne
  have hv := Out.ret.inj hv
  subst hv
  iterate 7 refine opsStep ?_
  refine VCode.ent (Ent.fr' (l := [(0, .int .i64 op), (4, .ref 0 0 0), (5, .ref 1 0 0), (6, .ref 2 0 0), (8, .fn (.func f) [] []), (9, aSs .any names), (10, .int .i64 0), (11, .ref 4 0 0)]) (H' := [.cells 0 d.cells, .cells 0 e.cells, .cells 0 den0.cells, .cells 0 (names.map .str), .cells 0 [.hs 3 0 0 names.length 1, aBs .any wd.accept, aRs .any wd.next]]) ⟨(by kernel_rfl), (by kernel_rfl), (by kernel_rfl), (by kernel_rfl), (by kernel_rfl), (by kernel_rfl), (by kernel_rfl), (by kernel_rfl), trivial⟩ ?_) ?_
  · refine Eq.trans (b := [.cells 0 d.cells, .cells 0 e.cells, .cells 0 den0.cells, Blk.sh 3 (.cells 0 (names.map .str)), .cells 0 [.hs 3 0 0 names.length 1, (aBs .any wd.accept).sh 3, (aRs .any wd.next).sh 3]]) (by kernel_rfl) ?_
    rw [Blk.sh, strs_sh, AV.closed_sh _ (aBs_closed _ _), AV.closed_sh _ (aRs_closed _ _)]
  repeat first | refine opsStep ?_ | refine codeStep ?_ | refine drawStep ?_
  refine callP hwe ?_
  iterate 7 refine opsStep ?_
  refine VCode.ent (Ent.fr' (l := [(6, .ref 2 0 0), (8, .fn (.func f) [] []), (10, .int .i64 0), (11, .ref 4 0 0), (12, .ref 5 0 0)]) (H' := [.cells 0 d.cells, .cells 0 e.cells, .cells 0 den0.cells, .cells 0 (names.map .str), .cells 0 [.hs 3 0 0 names.length 1, aBs .any wd.accept, aRs .any wd.next], .cells 0 [aSs we.tk we.tracks, aBs we.ak we.accept, aRs we.nk we.next]]) ⟨(by kernel_rfl), (by kernel_rfl), (by kernel_rfl), (by kernel_rfl), (by kernel_rfl), trivial⟩ (by kernel_rfl)) ?_
  repeat first | refine opsStep ?_ | refine codeStep ?_ | refine drawStep ?_
  refine callF [3] hmd (by simp) (by intro b hb; simp at hb; subst hb; exact (by decide : 3 < 6)) rfl ?_ ?_ ?_ ?_ ?_
  · show [some (Blk.cells 0 (names.map .str))] = [some (Blk.cells 0 (rns _ (names.map .str)))]
    rw [strs_rn]
  · simp [bels, AV.bel, aBs_bel, aRs_bel, aSs_bel]
  · simp [blksBel, Blk.bel, bels_map, AV.bel]
  · show [AV.agg [.hs 3 0 0 names.length 1, aBs .any wd.accept, aRs .any wd.next], AV.agg [aSs we.tk we.tracks, aBs we.ak we.accept, aRs we.nk we.next], _] = _
    rw [rns, rns, rns, rns, AV.rn, AV.rn, AV.rn, rns, rns, rns, rns, rns, rns, rns, rns, AV.closed_rn _ (aBs_closed _ _), AV.closed_rn _ (aRs_closed _ _), AV.closed_rn _ (aBs_closed _ _), AV.closed_rn _ (aRs_closed _ _), AV.closed_rn _ (aSs_closed _ _)]
    rfl
  · rintro o H' (⟨L, hL, rfl, b1, b2, b3, b4, b5, b6, rfl⟩ | ⟨hL, rfl, X, rfl⟩)
    · have hpe := (prd_some (cn := holdsS op) (names := names) hL).2
      obtain ⟨F, hF⟩ : ∃ F, rnB [3] 6 = F := ⟨_, rfl⟩
      have hF9 : ∀ j, F (9 + j) = 14 + j := fun j => by rw [← hF, rnB_ge (φ := [3]) (show 1 ≤ 9 + j by omega)]; show 6 + (9 + j - 1) = _; omega
      repeat first | refine opsStep ?_ | refine codeStep ?_ | refine drawStep ?_
      refine finR (l := [(6, .ref 2 0 0), (7, .int .i64 0)]) (H₁ := [.cells 0 d.cells, .cells 0 e.cells, .cells 0 [.hs 3 0 0 names.length 1, .hs 12 L.length 0 L.length 1, .hs 13 L.length 0 L.length 1], .cells 0 (rns (rnB [3] 6) (names.map .str)), .cells 0 [.hs 3 0 0 names.length 1, aBs .any wd.accept, aRs .any wd.next], .cells 0 [aSs we.tk we.tracks, aBs we.ak we.accept, aRs we.nk we.next],
        b1.rn (rnB [3] 6), b2.rn (rnB [3] 6), b3.rn (rnB [3] 6), b4.rn (rnB [3] 6), b5.rn (rnB [3] 6), b6.rn (rnB [3] 6), .cells L.length (rns (rnB [3] 6) ((L.map (accP (holdsS op) wd we)).map .bool)), .cells L.length (rns (rnB [3] 6) (pmHs 9 (2 ^ names.length) L.length))] ++ (pmRows (L.map (rowX (pf wd we) L))).map (Blk.rn (rnB [3] 6)))
        (v := .tup [.agg [.hs 3 0 0 names.length 1, .hs 12 L.length 0 L.length 1, .hs 13 L.length 0 L.length 1], .int .i64 0]) ⟨(by kernel_rfl), (by kernel_rfl), trivial⟩ (by kernel_rfl) (Ent.refl _ _ _) (by kernel_rfl) ?_
      rw [hF, strs_rn, bools_rn, pmHs_rn F 9 14 _ hF9, pmRows_rn]
      exact .inr ⟨by rw [hb, hpe], h6, L, hL, rfl, _, _, _, _, _, _, _, _, _, _, _, rfl⟩
    · have hpe := (prd_none (cn := holdsS op) (names := names) hL).2
      repeat first | refine opsStep ?_ | refine codeStep ?_ | refine drawStep ?_
      refine finR (l := [(6, .ref 2 0 0), (7, .int .i64 140)]) (H₁ := place (rnB [3] 6) [3] [.cells 0 d.cells, .cells 0 e.cells, .cells 0 den0.cells, .cells 0 (names.map .str), .cells 0 [.hs 3 0 0 names.length 1, aBs .any wd.accept, aRs .any wd.next], .cells 0 [aSs we.tk we.tracks, aBs we.ak we.accept, aRs we.nk we.next]] (.cells 0 (names.map .str) :: X)) (v := .tup [aDen den0, .int .i64 140]) ⟨(by kernel_rfl), (by kernel_rfl), trivial⟩ (by kernel_rfl) (Ent.refl _ _ _) (by kernel_rfl) ?_
      rw [hb, hpe]
      exact .inl ⟨by decide, rfl⟩

end Tab

/- tabardref16.Not, tabardref16.Join; prod's answers as values. -/
namespace Tab
open Go Go.Proofs
set_option maxRecDepth 10000
set_option linter.unusedVariables false
set_option linter.unusedSimpArgs false
set_option linter.unusedSectionVars false

/-! ### Along the diagonal -/

def oneD : Den := ⟨.nil, [], .any, [false], .any, [(.any, [0])]⟩
theorem oneD_ok : DenOk oneD := ⟨by decide, by simp [oneD], by decide, by decide, by simp [oneD, Den.rows]⟩
theorem oneD_right : rightS oneD = true := by decide

def dgP (p : Pr) : Pr := if p = stP then stP else (p.1, p.1)
theorem dgP_st : dgP stP = stP := if_pos rfl
theorem ok_ne {d e : Den} {p : Pr} (h : okS d e p) : p ≠ stP := fun e => by have := h.1; rw [e] at this; simp at this
theorem dgP_ok {d s : Den} {p : Pr} (h : okS d s p) : dgP p = (p.1, p.1) := if_neg (ok_ne h)

section
variable {d s : Den} (hd : rightS d = true) (hs : rightS s = true) (hk : d.tracks.length = s.tracks.length) (h1 : s.accept.length = 1)
include hd hs hk h1
theorem dg_f (x : Pr) (hx : x = stP ∨ okS d s x) : (pf d s x).map dgP = pf d d (dgP x) := by
  have hst : (pst (dgP x)).1 = (pst x).1 ∧ (pst (dgP x)).2 = (pst x).1 := by
    rcases hx with rfl | hx
    · exact ⟨rfl, rfl⟩
    · rw [dgP_ok hx, pst, pst, if_neg (ok_ne hx), if_neg (by intro e; have := hx.1; simp at e; omega)]
      exact ⟨rfl, rfl⟩
  rw [pf, pf, List.map_map, hst.1, hst.2]
  refine List.map_congr_left fun a ha => ?_
  show dgP _ = _
  rw [dgP, if_neg (by simp)]
theorem dg_inj (x y : Pr) (hx : x = stP ∨ okS d s x) (hy : y = stP ∨ okS d s y) (h : dgP x = dgP y) : x = y := by
  rcases hx with rfl | hx
  · rcases hy with rfl | hy
    · rfl
    · rw [dgP_st, dgP_ok hy] at h
      have := congrArg Prod.fst h; have := hy.1; simp at *; omega
  · rcases hy with rfl | hy
    · rw [dgP_st, dgP_ok hx] at h
      have := congrArg Prod.fst h; have := hx.1; simp at *; omega
    · rw [dgP_ok hx, dgP_ok hy] at h
      have e1 := congrArg Prod.fst h
      obtain ⟨_, _, a, b⟩ := hx
      obtain ⟨_, _, a', b'⟩ := hy
      exact Prod.ext e1 (by omega)
theorem dg_prd : (prdR d s).map (List.map dgP) = prdR d d := by
  rw [prdR, prdR]
  have hQ : ∀ x : Pr, (x = stP ∨ okS d s x) → ∀ t ∈ pf d s x, (t = stP ∨ okS d s t) := fun x hx t ht => .inr (pf_ok hd hs hk hx t ht)
  exact explO_map (f := pf d s) (f' := pf d d) dgP (cap := 256) (Q := fun x => x = stP ∨ okS d s x) hQ (dg_inj hd hs hk h1) (dg_f hd hs hk h1) 300 0 [stP] (by simp)
theorem prd_q {L : List Pr} (h : prdR d s = some L) : ∀ x ∈ L, x = stP ∨ okS d s x :=
  fun x hx => by
    rw [← (explO_some h).1] at hx
    exact expl_all (f := pf d s) (Q := fun x => x = stP ∨ okS d s x) (fun y hy t ht => .inr (pf_ok hd hs hk hy t ht)) 300 0 [stP] (by simp) x hx
theorem dg_eq (names : List (List UInt8)) : prdV (holdsS 2) names d s = prdV notS names d d ∧ prdE d s = prdE d d := by
  have hm := dg_prd hd hs hk h1
  cases h : prdR d s with
  | none =>
    rw [h] at hm
    have hm : prdR d d = none := hm.symm
    obtain ⟨a1, a2⟩ := prd_none (cn := holdsS 2) (names := names) h
    obtain ⟨b1, b2⟩ := prd_none (cn := notS) (names := names) hm
    rw [a1, a2, b1, b2]; exact ⟨rfl, rfl⟩
  | some L =>
    rw [h] at hm
    have hm : prdR d d = some (L.map dgP) := hm.symm
    obtain ⟨a1, a2⟩ := prd_some (cn := holdsS 2) (names := names) h
    obtain ⟨b1, b2⟩ := prd_some (cn := notS) (names := names) hm
    have hq := prd_q hd hs hk h1 h
    rw [a1, a2, b1, b2]
    refine ⟨?_, rfl⟩
    rw [prdM, prdM, List.map_map, List.map_map]
    have e1 : L.map (accP (holdsS 2) d s) = L.map (accP notS d d ∘ dgP) := List.map_congr_left fun p hp => by
      rcases hq p hp with rfl | hx
      · rfl
      · rw [Function.comp_apply, dgP_ok hx, accP, accP, if_neg (ok_ne hx), if_neg (by intro e; have := hx.1; simp at e; omega)]
        rfl
    have e2 : L.map (fun p => (SK.any, rowX (pf d s) L p)) = L.map ((fun p => (SK.any, rowX (pf d d) (L.map dgP) p)) ∘ dgP) := List.map_congr_left fun p hp => by
      rw [Function.comp_apply, rowX_map dgP (dg_f hd hs hk h1 p (hq p hp)) fun x hx y hy e => dg_inj hd hs hk h1 _ _ (hq y hy) (.inr (pf_ok hd hs hk (hq p hp) x hx)) e]
    rw [e1, e2]
end

/-! ### As values -/

@[irreducible] def notV (d : Den) : Den := if rightS d = true then prdV notS d.tracks d d else den0
@[irreducible] def joinV (op : Int) (d e : Den) : Den := if (rightS d && rightS e) = true then (if 3 ≤ op ∧ op ≤ 6 then (if (unN d e).length ≤ 6 then prdV (holdsS op) (unN d e) (widenD d (unN d e)) (widenD e (unN d e)) else den0) else den0) else den0

theorem prd_zero {d e : Den} (h : prdE d e = 0) : ∃ L, prdR d e = some L := by
  cases hR : prdR d e with
  | some L => exact ⟨L, rfl⟩
  | none => have := (prd_none (cn := notS) (names := []) hR).2; omega
theorem notV_bad {d : Den} (h : notE d ≠ 0) : notV d = den0 := by
  rw [notV]
  split
  · rename_i hr
    rw [notE, if_pos hr] at h
    cases hR : prdR d d with
    | some L => exact absurd (prd_some (cn := notS) (names := d.tracks) hR).2 h
    | none => exact (prd_none (cn := notS) (names := d.tracks) hR).1
  · rfl
theorem notV_ok {d : Den} {L} (h : notE d = 0) (hL : prdR d d = some L) : notV d = prdM notS d.tracks d d L := by
  have hr : rightS d = true := by
    cases hr : rightS d with
    | true => rfl
    | false => rw [notE, hr] at h; exact absurd h (by simp)
  rw [notV, if_pos hr]
  exact (prd_some hL).1
theorem joinV_bad {op d e} (h : joinE op d e ≠ 0) : joinV op d e = den0 := by
  rw [joinV]
  split
  · rename_i hr
    split
    · rename_i ho
      split
      · rename_i h6
        rw [joinE_made hr ho h6] at h
        cases hR : prdR (widenD d (unN d e)) (widenD e (unN d e)) with
        | some L => exact absurd (prd_some (cn := notS) (names := d.tracks) hR).2 h
        | none => exact (prd_none hR).1
      · rfl
    · rfl
  · rfl
theorem joinE_ok {op d e} (h : joinE op d e = 0) : (rightS d && rightS e) = true ∧ (3 ≤ op ∧ op ≤ 6) ∧ (unN d e).length ≤ 6 := by
  by_cases h1 : (rightS d && rightS e) = true
  · by_cases h2 : 3 ≤ op ∧ op ≤ 6
    · by_cases h3 : (unN d e).length ≤ 6
      · exact ⟨h1, h2, h3⟩
      · rw [joinE_wide h1 h2 h3] at h; omega
    · rw [joinE_range h1 h2] at h; omega
  · rw [joinE_shape (by simpa using h1)] at h; omega
theorem joinV_ok {op d e L} (h : joinE op d e = 0) (hL : prdR (widenD d (unN d e)) (widenD e (unN d e)) = some L) : joinV op d e = prdM (holdsS op) (unN d e) (widenD d (unN d e)) (widenD e (unN d e)) L := by
  obtain ⟨h1, h2, h3⟩ := joinE_ok h
  rw [joinV, if_pos h1, if_pos h2, if_pos h3]
  exact (prd_some hL).1

theorem prd_read {N : Nat} (cn : Bool → Bool → Bool) (names : List (List UInt8)) (d e : Den) (L : List Pr) (hN : N = names.length) :
    Rd (ndH names (L.map (accP cn d e)) (L.map (rowX (pf d e) L)) (2 ^ d.tracks.length)) (ndV N L.length) (aDen (prdM cn names d e L)) := by
  have := ndH_read (N := N) (K := 2 ^ d.tracks.length) (names := names) (acc := L.map (accP cn d e)) (rows := L.map (rowX (pf d e) L)) hN (by simp) (fun r hr => by
    obtain ⟨p, _, rfl⟩ := List.mem_map.1 hr
    simp [rowX, pf_length])
  rw [List.length_map, List.map_map] at this
  exact this

theorem prod_NotV (d : Den) (hd : DenOk d) : Pure Try.prog 18 [aDen d] (.tup [aDen (notV d), .int .i64 (notE d)]) := by
  refine Pure.of_read (by simp [closeds, aDen_closed]) (by simp [AV.closed, closeds, aDen_closed]) (prod_Not d hd) ?_
  rintro o H' (⟨h, rfl, rfl⟩ | ⟨h, L, hL, rfl, rfl⟩)
  · exact ⟨_, rfl, by rw [notV_bad h]; exact .refl _⟩
  · refine ⟨_, rfl, ?_⟩
    rw [notV_ok h hL, h]
    exact Rd.tup (.cons (prd_read notS d.tracks d d L rfl) (.cons (.refl _) .nil))
theorem prod_JoinV (op : Int) (d e : Den) (hd : DenOk d) (he : DenOk e) : Pure Try.prog 23 [.int .i64 op, aDen d, aDen e] (.tup [aDen (joinV op d e), .int .i64 (joinE op d e)]) := by
  refine Pure.of_read (by simp [AV.closed, closeds, aDen_closed]) (by simp [AV.closed, closeds, aDen_closed]) (prod_Join op d e hd he) ?_
  rintro o H' (⟨h, rfl, rfl⟩ | ⟨h, h6, L, hL, rfl, rfl⟩)
  · exact ⟨_, rfl, by rw [joinV_bad h]; exact .refl _⟩
  · refine ⟨_, rfl, ?_⟩
    rw [joinV_ok h hL, h]
    exact Rd.tup (.cons (prd_read (holdsS op) (unN d e) (widenD d (unN d e)) (widenD e (unN d e)) L rfl) (.cons (.refl _) .nil))

theorem r16_Not (d : Den) (hd : DenOk d) : Pure Try.prog 19 [aDen d] (.tup [aDen (notV d), .int .i64 (notE d)]) := by
  have hrd := r12_Right d hd
  refine Pure.of_sw 27 Try.func19 rfl Try.ntmps19 (by kernel_rfl) (Nat.le_of_ble_eq_true (by kernel_rfl)) (by simp [closeds, AV.closed, aSs_closed, aIs_closed, aBs_closed, aRs_closed, aDen_closed]) (by simp [AV.closed, closeds, aSs_closed, aIs_closed, aBs_closed, aRs_closed, aDen_closed]) ?_; refine SW.of_vc ?_
  repeat first | refine opsStep ?_ | refine codeStep ?_ | refine drawStep ?_
  refine callP hrd ?_
  repeat first | refine opsStep ?_ | refine codeStep ?_ | refine drawStep ?_
  refine decB_split (fun h => ?_) (fun h => ?_)
  · have hr : rightS d = false := by simpa using h
    repeat first | refine opsStep ?_ | refine codeStep ?_ | refine drawStep ?_
    exact finV (v' := .tup [aDen den0, .int .i64 3]) (by kernel_rfl) (by rw [notV_bad (by rw [notE, hr]; simp), notE, hr]; rfl)
  have hr : rightS d = true := by simpa using h
  obtain ⟨g1, g2, g3⟩ := rightS_parts hr
  obtain ⟨j1, j2, j3, j4⟩ := tracksS_parts g1
  have w0 := widenE_ok oneD_right j2 j1 (show inAll oneD.tracks d.tracks = true from rfl)
  have wr := widenD_right oneD_right j1 j2
  have wk := widenD_den oneD_ok (by omega) (fun s hs => by have := hd.names s hs; omega) w0
  have hw := r15_Widen d.tk oneD d.tracks oneD_ok (by omega) (fun s hs => by have := hd.names s hs; omega)
  rw [widenR_ok w0, w0] at hw
  have hg := r16_grow 2 d (widenD oneD d.tracks) hd wk hr wr rfl
  obtain ⟨e1, e2⟩ := dg_eq hr wr rfl rfl d.tracks
  rw [e1, e2] at hg
  have e3 : notV d = prdV notS d.tracks d d := by rw [notV, if_pos hr]
  have e4 : notE d = prdE d d := by rw [notE, if_pos hr]
  rw [← e3, ← e4] at hg
  generalize widenD oneD d.tracks = same at *
  iterate 4 (first | refine opsStep ?_ | refine codeStep ?_)
  iterate 6 refine opsStep ?_
  refine VCode.ent (Ent.fr' (l := [(1, .ref 0 0 0), (2, .ref 1 0 0), (4, .ref 5 0 0)]) (H' := [.cells 0 d.cells, .cells 0 den0.cells, .cells 0 [.bool false], .cells 0 [.int .i64 0], .cells 0 [.hs 3 0 0 1 1], .cells 0 [.sl .nil 0 [], .hs 2 0 0 1 1, .hs 4 0 0 1 1]]) ⟨(by kernel_rfl), (by kernel_rfl), (by kernel_rfl), trivial⟩ (by kernel_rfl)) ?_
  repeat first | refine opsStep ?_ | refine codeStep ?_ | refine drawStep ?_
  refine callF [2, 3, 4] (hw.lend (H := [.cells 0 [.bool false], .cells 0 [.int .i64 0], .cells 0 [.hs 1 0 0 1 1]]) («as» := [.agg [.sl .nil 0 [], .hs 0 0 0 1 1, .hs 2 0 0 1 1], aSs d.tk d.tracks]) ?_) (by decide) (by
    intro b hb
    simp at hb
    rcases hb with rfl | rfl | rfl
    · exact (by decide : 2 < 6)
    · exact (by decide : 3 < 6)
    · exact (by decide : 4 < 6)) rfl ?_ ?_ ?_ ?_ ?_
  · refine .cons (.agg (.cons (.refl _) (.cons ?_ (.cons ?_ .nil)))) (.cons (.refl _) .nil)
    · exact Rd.whole (cs := [.bool false]) rfl rfl
    · refine Rd.hs (cs := [.hs 1 0 0 1 1]) rfl rfl (by simp) ?_
      exact .cons (Rd.whole (cs := [.int .i64 0]) rfl rfl) .nil
  · rfl
  · simp [bels, AV.bel, aSs_bel]
  · simp [blksBel, Blk.bel, bels, AV.bel]
  · show [AV.agg [.sl .nil 0 [], .hs 2 0 0 1 1, .hs 4 0 0 1 1], aSs d.tk d.tracks] = _
    rw [rns, rns, rns, AV.rn, AV.closed_rn _ (aSs_closed _ _)]
    rfl
  rintro o H' ⟨rfl, rfl⟩
  iterate 7 refine opsStep ?_
  refine VCode.ent (Ent.fr' (l := [(1, .ref 0 0 0), (2, .ref 1 0 0), (5, .ref 6 0 0)]) (H' := [.cells 0 d.cells, .cells 0 den0.cells, .dead, .dead, .dead, .cells 0 [.sl .nil 0 [], .hs 2 0 0 1 1, .hs 4 0 0 1 1], .cells 0 same.cells]) ⟨(by kernel_rfl), (by kernel_rfl), (by kernel_rfl), trivial⟩ ?_) ?_
  · refine Eq.trans (b := [.cells 0 d.cells, .cells 0 den0.cells, .dead, .dead, .dead, .cells 0 [.sl .nil 0 [], .hs 2 0 0 1 1, .hs 4 0 0 1 1], .cells 0 (rns (rnB [2, 3, 4] 6) same.cells)]) (by kernel_rfl) ?_
    rw [den_rn]
  repeat first | refine opsStep ?_ | refine codeStep ?_ | refine drawStep ?_
  refine callP hg ?_
  repeat first | refine opsStep ?_ | refine codeStep ?_ | refine drawStep ?_
  exact finV (v' := .tup [aDen (notV d), .int .i64 (notE d)]) (by kernel_rfl) rfl

theorem r16_Join (op : Int) (d e : Den) (hd : DenOk d) (he : DenOk e) : Pure Try.prog 24 [.int .i64 op, aDen d, aDen e] (.tup [aDen (joinV op d e), .int .i64 (joinE op d e)]) := by
  have hrd := r12_Right d hd
  have hre := r12_Right e he
  have hbad : joinE op d e ≠ 0 → joinV op d e = den0 := joinV_bad
  have hbe : (rightS d && rightS e) = false → joinE op d e = 3 := joinE_shape
  refine Pure.of_sw 59 Try.func24 rfl Try.ntmps24 (by kernel_rfl) (Nat.le_of_ble_eq_true (by kernel_rfl)) (by simp [closeds, AV.closed, aSs_closed, aIs_closed, aBs_closed, aRs_closed, aDen_closed]) (by simp [AV.closed, closeds, aSs_closed, aIs_closed, aBs_closed, aRs_closed, aDen_closed]) ?_; refine SW.of_vc ?_
  repeat first | refine opsStep ?_ | refine codeStep ?_ | refine drawStep ?_
  refine callP hrd ?_
  repeat first | refine opsStep ?_ | refine codeStep ?_ | refine drawStep ?_
  refine decB_split (fun h => ?_) (fun h => ?_)
  · have hr : rightS d = false := by simpa using h
    have hb := hbe (by rw [hr]; rfl)
    repeat first | refine opsStep ?_ | refine codeStep ?_ | refine drawStep ?_
    exact finV (v' := .tup [aDen den0, .int .i64 3]) (by kernel_rfl) (by rw [hbad (by rw [hb]; decide), hb])
  have hr1 : rightS d = true := by simpa using h
  clear h
  repeat first | refine opsStep ?_ | refine codeStep ?_ | refine drawStep ?_
  refine callP hre ?_
  repeat first | refine opsStep ?_ | refine codeStep ?_ | refine drawStep ?_
  refine decB_split (fun h => ?_) (fun h => ?_)
  · have hr : rightS e = false := by simpa using h
    have hb := hbe (by rw [hr]; simp)
    repeat first | refine opsStep ?_ | refine codeStep ?_ | refine drawStep ?_
    exact finV (v' := .tup [aDen den0, .int .i64 3]) (by kernel_rfl) (by rw [hbad (by rw [hb]; decide), hb])
  have hr2 : rightS e = true := by simpa using h
  have hrr : (rightS d && rightS e) = true := by rw [hr1, hr2]; rfl
  repeat first | refine opsStep ?_ | refine codeStep ?_ | refine drawStep ?_
  refine decB_dec (fun hlo => ?_) (fun hlo => ?_)
  · have hb := joinE_range (op := op) hrr (by omega)
    repeat first | refine opsStep ?_ | refine codeStep ?_ | refine drawStep ?_
    exact finV (v' := .tup [aDen den0, .int .i64 2]) (by kernel_rfl) (by rw [hbad (by rw [hb]; decide), hb])
  repeat first | refine opsStep ?_ | refine codeStep ?_ | refine drawStep ?_
  refine decB_dec (fun hhi => ?_) (fun hhi => ?_)
  · have hb := joinE_range (op := op) hrr (by omega)
    repeat first | refine opsStep ?_ | refine codeStep ?_ | refine drawStep ?_
    exact finV (v' := .tup [aDen den0, .int .i64 2]) (by kernel_rfl) (by rw [hbad (by rw [hb]; decide), hb])
  have hop : 3 ≤ op ∧ op ≤ 6 := by omega
  obtain ⟨jd1, jd2, jd3, jd4⟩ := tracksS_parts (rightS_parts hr1).1
  obtain ⟨je1, je2, je3, je4⟩ := tracksS_parts (rightS_parts hr2).1
  have hto := r04_Together .any (d.tracks ++ e.tracks) (by rw [List.length_append]; omega)
  rw [← unN] at hto
  have hsl : aSs .any (d.tracks ++ e.tracks) = .sl .any (0 + d.tracks.length + e.tracks.length) (((([] : List AV).take (0 * 1) ++ d.tracks.map AV.str).drop 0).take ((0 + d.tracks.length) * 1) ++ e.tracks.map .str) := by
    rw [Nat.zero_mul, List.take_zero, List.nil_append, List.drop_zero, List.take_of_length_le (by simp), aSs, List.length_append, List.map_append, Nat.zero_add]
  rw [hsl] at hto
  repeat first | refine opsStep ?_ | refine codeStep ?_ | refine drawStep ?_
  refine SW.drawn rfl (by kernel_rfl) ?_
  iterate 4 refine drawStep ?_
  refine guardE_of (by simp [Value.cells]) ?_
  refine guardE_of ⟨by omega, by show (0 + d.tracks.length) * 16 ≤ 140737488355328; omega⟩ ?_
  iterate 2 refine drawStep ?_
  refine drawFrz ?_
  refine guardE_of ⟨rfl, by simp [Value.cells]⟩ ?_
  refine guardE_of (by simp [Value.cells]) ?_
  refine guardE_of ⟨by omega, by show (0 + d.tracks.length + e.tracks.length) * 16 ≤ 140737488355328; omega⟩ ?_
  refine ⟨rfl, rfl, (by show (0 + d.tracks.length + e.tracks.length) * 1 = ((([] : List AV).take (0 * 1) ++ d.tracks.map AV.str).drop 0 |>.take ((0 + d.tracks.length) * 1) |>.append (e.tracks.map AV.str)).length; simp), ?_⟩
  repeat first | refine opsStep ?_ | refine codeStep ?_ | refine drawStep ?_
  refine .inl ⟨_, _, [], hto, RdsN_refl _, .inr rfl, none_need, ?_⟩
  repeat first | refine opsStep ?_ | refine codeStep ?_ | refine drawStep ?_
  refine ⟨by kernel_rfl, ?_⟩
  have hun := unN_rises hr1 hr2
  obtain ⟨hi1, hi2⟩ := unN_in (d := d) (e := e)
  have hul := unN_len hr1 hr2
  have hus := unN_sizes hd he
  have hwide := joinE_wide (op := op) hrr hop
  have hmade := joinE_made (op := op) hrr hop
  have hval : (unN d e).length ≤ 6 → joinV op d e = prdV (holdsS op) (unN d e) (widenD d (unN d e)) (widenD e (unN d e)) := fun h6 => by rw [joinV, if_pos hrr, if_pos hop, if_pos h6]
  have hw1 := r15_Widen .any d (unN d e) hd (by omega) hus
  have hw2 := r15_Widen .any e (unN d e) he (by omega) hus
  generalize unN d e = names at *
  refine VCode.ent (Ent.frD (l := [(0, .int .i64 op), (4, .ref 0 0 0), (5, .ref 1 0 0), (6, .ref 2 0 0), (8, aSs .any names)]) (X := [.fro 2 (((([] : List AV).take (0 * 1) ++ d.tracks.map AV.str).drop 0).take ((0 + d.tracks.length) * 1) ++ e.tracks.map .str)]) (H' := [.cells 0 d.cells, .cells 0 e.cells, .cells 0 den0.cells]) ⟨(by kernel_rfl), (by kernel_rfl), (by kernel_rfl), (by kernel_rfl), (by kernel_rfl), trivial⟩ (by kernel_rfl) (Nat.zero_le _) (by simp [frBel, AV.bel, aSs_bel]) (by simp [blksBel, Blk.bel, cells_bel])) ?_
  repeat first | refine opsStep ?_ | refine codeStep ?_ | refine drawStep ?_
  refine decB_dec (fun h6 => ?_) (fun h6 => ?_)
  · have hb := hwide (by omega)
    repeat first | refine opsStep ?_ | refine codeStep ?_ | refine drawStep ?_
    exact finV (v' := .tup [aDen den0, .int .i64 150]) (by kernel_rfl) (by rw [hbad (by rw [hb]; decide), hb])
  have h6 : names.length ≤ 6 := by omega
  have w0 := widenE_ok hr1 hun h6 hi1
  have v0 := widenE_ok hr2 hun h6 hi2
  have wr := widenD_right hr1 h6 hun
  have vr := widenD_right hr2 h6 hun
  have wk := widenD_den hd (by omega) hus w0
  have vk := widenD_den he (by omega) hus v0
  rw [widenR_ok w0, w0] at hw1
  rw [widenR_ok v0, v0] at hw2
  have hg := r16_grow op (widenD d names) (widenD e names) wk vk wr vr rfl
  have e3 := hval h6
  have e4 := hmade h6
  rw [show (widenD d names).tracks = names from rfl, ← e3, ← e4] at hg
  generalize widenD d names = wd at *
  generalize widenD e names = we at *
  repeat first | refine opsStep ?_ | refine codeStep ?_ | refine drawStep ?_
  refine callP hw1 ?_
  repeat first | refine opsStep ?_ | refine codeStep ?_ | refine drawStep ?_
  refine callP hw2 ?_
  repeat first | refine opsStep ?_ | refine codeStep ?_ | refine drawStep ?_
  refine callP hg ?_
  repeat first | refine opsStep ?_ | refine codeStep ?_ | refine drawStep ?_
  exact finV (v' := .tup [aDen (joinV op d e), .int .i64 (joinE op d e)]) (by kernel_rfl) rfl

end Tab

/- tabardlaw16: even, fixed, spoil. -/
namespace Tab
open Go Go.Proofs
set_option maxRecDepth 10000
set_option linter.unusedVariables false
set_option linter.unusedSimpArgs false
set_option linter.unusedSectionVars false

def RowsOf (n kk : Nat) (rb : List Blk) : Prop := rb.length = kk ∧ ∀ (j : Nat) (h : j < rb.length), ∃ r, rb[j] = .cells 0 r ∧ r.length = n
theorem RowsOf.set {n kk j : Nat} {rb : List Blk} {r : List AV} (h : RowsOf n kk rb) (hr : r.length = n) : RowsOf n kk (rb.set j (.cells 0 r)) := by
  refine ⟨by rw [List.length_set]; exact h.1, fun i hi => ?_⟩
  rw [List.getElem_set]
  split
  · exact ⟨r, rfl, hr⟩
  · exact h.2 i (by simpa using hi)
theorem over_len {cs xs : List AV} {o : Nat} (h : o + xs.length ≤ cs.length) : (over cs o xs).length = cs.length := by simp [over]; omega
theorem rowsOf_pm {n : Nat} {rows : List (List Int)} (h : ∀ r ∈ rows, r.length = n) : RowsOf n rows.length (pmRows rows) :=
  ⟨by simp [pmRows], fun j hj => ⟨(rows[j]'(by simpa [pmRows] using hj)).map (.int .i64), by simp [pmRows], by rw [List.length_map]; exact h _ (List.getElem_mem _)⟩⟩

/-- The machine that is written over, behind it the copy of its headers. -/
def slB (tr : List AV) (acc : List Bool) (M K : Nat) : List Blk := [.cells 0 tr, .cells M (acc.map .bool), .cells M (pmHs 3 K M)]
def slH (tr : List AV) (acc : List Bool) (M K : Nat) (rb : List Blk) : List Blk := slB tr acc M K ++ rb
theorem sl_get {tr acc M K rb z} {j : Nat} (h : j < rb.length) : (slH tr acc M K rb ++ [z])[3 + j]? = some rb[j] := by
  rw [slH, slB, List.append_assoc, List.getElem?_append_right (by simp)]
  simp only [List.length_cons, List.length_nil]
  rw [show 3 + j - (0 + 1 + 1 + 1) = j by omega, List.getElem?_append_left h, List.getElem?_eq_getElem h]
theorem sl_set {tr acc M K rb z y} {j : Nat} (h : j < rb.length) : (slH tr acc M K rb ++ [z]).set (3 + j) y = slH tr acc M K (rb.set j y) ++ [z] := by
  rw [slH, slH, slB, List.append_assoc, List.append_assoc, List.set_append_right _ _ (by simp)]
  simp only [List.length_cons, List.length_nil]
  rw [show 3 + j - (0 + 1 + 1 + 1) = j by omega, List.set_append_left _ _ h]
theorem slH_length (tr acc M K rb) : (slH tr acc M K rb).length = 3 + rb.length := by simp [slH, slB]; omega
theorem sl_last {tr acc M K rb x} (h : rb.length = M) : (slH tr acc M K rb ++ [x])[3 + M]? = some x := by rw [← h, ← slH_length tr acc M K rb]; exact get_last _ _

set_option maxHeartbeats 1000000 in
theorem law16_spoil (names : List (List UInt8)) (acc : List Bool) (rows : List (List Int)) (N M K : Nat) (hN : names.length = N) (hA : acc.length = M) (hM : rows.length = M) (hr : ∀ r ∈ rows, r.length = K) (bN : N ≤ 6) (bM : M ≤ 256) (bK : K ≤ 64) :
    ACall Try.prog 22 [ndV N M] (ndH names acc rows K) fun o H' => o = .ret (.tup []) := by
  have hrb := rowsOf_pm hr
  rw [hM] at hrb
  have hH : ndH names acc rows K = slH (names.map .str) acc M K (pmRows rows) := by rw [ndH, ndB, hM]; rfl
  rw [hH]
  generalize pmRows rows = rb at *
  have htr : (names.map AV.str).length = N := by rw [List.length_map]; exact hN
  generalize names.map AV.str = tr at *
  refine ACall.of_sw 58 Try.func22 rfl Try.ntmps22 (by kernel_rfl) (Nat.le_of_ble_eq_true (by kernel_rfl)) ?_; refine SW.of_vc ?_
  iterate 4 (first | refine opsStep ?_ | refine codeStep ?_)
  refine VCode.ent (Ent.fr' (l := [(1, .ref (3 + M) 0 0)]) (H' := slH tr acc M K rb ++ [(Blk.cells 0 [.hs 0 0 0 (N) 1, .hs 1 (M) 0 (M) 1, .hs 2 (M) 0 (M) 1])]) ⟨Eq.trans (b := .ref (slH tr acc M K rb).length 0 0) (by kernel_rfl) (by rw [slH_length, hrb.1]), trivial⟩ (by kernel_rfl)) ?_
  repeat first | refine opsStep ?_ | refine codeStep ?_ | refine drawStep ?_
  refine optE_of (sl_last hrb.1) ?_
  refine guardE_of rfl ?_
  repeat first | refine opsStep ?_ | refine codeStep ?_ | refine drawStep ?_
  refine loopE_of (ι := {i : Nat // i ≤ N} × {tr : List AV // tr.length = N})
    (fun p => (fr [(1, .ref (3 + M) 0 0), (8, .int .i64 N), (9, .int .i64 p.1.1)], slH p.2.1 acc M K rb ++ [(Blk.cells 0 [.hs 0 0 0 (N) 1, .hs 1 (M) 0 (M) 1, .hs 2 (M) 0 (M) 1])])) (fun p => N - p.1.1) ⟨⟨0, by omega⟩, ⟨tr, htr⟩⟩ (Ent.fr' ⟨(by kernel_rfl), (by kernel_rfl), (by kernel_rfl), trivial⟩ (by kernel_rfl)) ?_
  rintro ⟨⟨i, hi⟩, ⟨tr, htr⟩⟩
  repeat first | refine opsStep ?_ | refine codeStep ?_ | refine drawStep ?_
  refine decB_dec (fun h => ?_) (fun h => ?_)
  · have hia : i < N := by have := h; simp at this; omega
    repeat first | refine opsStep ?_ | refine codeStep ?_ | refine drawStep ?_
    refine optE_of (sl_last hrb.1) ?_
    refine guardE_of rfl ?_
    repeat first | refine opsStep ?_ | refine codeStep ?_ | refine drawStep ?_
    refine guardE_of (by simp; omega) ?_
    repeat first | refine opsStep ?_ | refine codeStep ?_ | refine drawStep ?_
    have hsz : 0 + i * 1 + [AV.str [115, 112, 111, 105, 108, 116]].length ≤ tr.length := by simp; omega
    refine guardE_of ⟨rfl, by decide, hsz⟩ ?_
    repeat first | refine opsStep ?_ | refine codeStep ?_ | refine drawStep ?_
    exact ⟨⟨⟨i + 1, by omega⟩, ⟨over tr (0 + i * 1) [.str [115, 112, 111, 105, 108, 116]], by rw [over_len hsz, htr]⟩⟩, (by show N - (i + 1) < N - i; omega), Ent.fr' ⟨(by kernel_rfl), (by kernel_rfl), inc_slot (i := i) (by omega), trivial⟩ (by kernel_rfl)⟩
  repeat first | refine opsStep ?_ | refine codeStep ?_ | refine drawStep ?_
  refine optE_of (sl_last hrb.1) ?_
  refine guardE_of rfl ?_
  repeat first | refine opsStep ?_ | refine codeStep ?_ | refine drawStep ?_
  refine loopE_of (ι := {i : Nat // i ≤ M} × {acc : List Bool // acc.length = M})
    (fun p => (fr [(1, .ref (3 + M) 0 0), (19, .int .i64 M), (20, .int .i64 p.1.1)], slH tr p.2.1 M K rb ++ [(Blk.cells 0 [.hs 0 0 0 (N) 1, .hs 1 (M) 0 (M) 1, .hs 2 (M) 0 (M) 1])])) (fun p => M - p.1.1) ⟨⟨0, by omega⟩, ⟨acc, hA⟩⟩ (Ent.fr' ⟨(by kernel_rfl), (by kernel_rfl), (by kernel_rfl), trivial⟩ (by kernel_rfl)) ?_
  rintro ⟨⟨q, hq⟩, ⟨acc, hacl⟩⟩
  repeat first | refine opsStep ?_ | refine codeStep ?_ | refine drawStep ?_
  refine decB_dec (fun g => ?_) (fun g => ?_)
  · have hqk : q < M := by have := g; simp at this; omega
    have hqa : q < acc.length := by omega
    repeat first | refine opsStep ?_ | refine codeStep ?_ | refine drawStep ?_
    refine SW.drawn rfl (by kernel_rfl) ?_
    repeat first | refine opsStep ?_ | refine codeStep ?_ | refine drawStep ?_
    refine optE_of (sl_last hrb.1) ?_
    refine guardE_of rfl ?_
    repeat first | refine opsStep ?_ | refine codeStep ?_ | refine drawStep ?_
    refine optE_of (sl_last hrb.1) ?_
    refine guardE_of rfl ?_
    repeat first | refine opsStep ?_ | refine codeStep ?_ | refine drawStep ?_
    refine guardE_of (by simp; omega) ?_
    repeat first | refine opsStep ?_ | refine codeStep ?_ | refine drawStep ?_
    refine guardE_of rfl ?_
    refine optE_of rfl ?_
    refine optE_of (c := AV.bool acc[q]) (by show (acc.map AV.bool)[0 + q * 1]? = _; simp [hqa]) ?_
    repeat first | refine opsStep ?_ | refine codeStep ?_ | refine drawStep ?_
    refine guardE_of (by simp; omega) ?_
    repeat first | refine opsStep ?_ | refine codeStep ?_ | refine drawStep ?_
    have hsz : 0 + q * 1 + [AV.bool (!acc[q])].length ≤ (acc.map AV.bool).length := by show 0 + q * 1 + 1 ≤ _; rw [List.length_map]; omega
    refine guardE_of rfl ?_
    refine optE_of rfl ?_
    refine optE_of rfl ?_
    refine guardE_of ⟨rfl, by decide, hsz⟩ ?_
    repeat first | refine opsStep ?_ | refine codeStep ?_ | refine drawStep ?_
    refine ⟨by kernel_rfl, ?_⟩
    repeat first | refine opsStep ?_ | refine codeStep ?_ | refine drawStep ?_
    refine ⟨⟨⟨q + 1, by omega⟩, ⟨acc.set q (!acc[q]), by rw [List.length_set]; exact hacl⟩⟩, (by show M - (q + 1) < M - q; omega), Ent.fr' ⟨(by kernel_rfl), (by kernel_rfl), inc_slot (i := q) (by omega), trivial⟩ ?_⟩
    refine Eq.trans (b := [Blk.cells 0 tr, .cells M (over (acc.map .bool) (0 + q * 1) [.bool (!acc[q])]), .cells M (pmHs 3 K M)] ++ rb ++ [(Blk.cells 0 [.hs 0 0 0 (N) 1, .hs 1 (M) 0 (M) 1, .hs 2 (M) 0 (M) 1])]) (by kernel_rfl) ?_
    rw [Nat.zero_add, Nat.mul_one, over_one (by simp; omega), ← List.map_set]
    rfl
  repeat first | refine opsStep ?_ | refine codeStep ?_ | refine drawStep ?_
  refine optE_of (sl_last hrb.1) ?_
  refine guardE_of rfl ?_
  repeat first | refine opsStep ?_ | refine codeStep ?_ | refine drawStep ?_
  refine loopE_of (ι := {i : Nat // i ≤ M} × {rb : List Blk // RowsOf K M rb})
    (fun p => (fr [(1, .ref (3 + M) 0 0), (36, .int .i64 M), (37, .int .i64 p.1.1)], slH tr acc M K p.2.1 ++ [(Blk.cells 0 [.hs 0 0 0 (N) 1, .hs 1 (M) 0 (M) 1, .hs 2 (M) 0 (M) 1])])) (fun p => M - p.1.1) ⟨⟨0, by omega⟩, ⟨rb, hrb⟩⟩ (Ent.fr' ⟨(by kernel_rfl), (by kernel_rfl), (by kernel_rfl), trivial⟩ (by kernel_rfl)) ?_
  rintro ⟨⟨q, hq⟩, ⟨rb, hrbk⟩⟩
  repeat first | refine opsStep ?_ | refine codeStep ?_ | refine drawStep ?_
  refine decB_dec (fun g => ?_) (fun g => ?_)
  · have hqk : q < M := by have := g; simp at this; omega
    repeat first | refine opsStep ?_ | refine codeStep ?_ | refine drawStep ?_
    refine optE_of (sl_last hrbk.1) ?_
    refine guardE_of rfl ?_
    repeat first | refine opsStep ?_ | refine codeStep ?_ | refine drawStep ?_
    refine guardE_of (by simp; omega) ?_
    repeat first | refine opsStep ?_ | refine codeStep ?_ | refine drawStep ?_
    refine guardE_of rfl ?_
    refine optE_of rfl ?_
    refine optE_of (c := .hs (3 + q) 0 0 K 1) (by show (pmHs 3 K M)[0 + q * 1]? = _; simp [pmHs, hqk]) ?_
    repeat first | refine opsStep ?_ | refine codeStep ?_ | refine drawStep ?_
    refine loopE_of (ι := {i : Nat // i ≤ K} × {rb : List Blk // RowsOf K M rb})
      (fun p => (fr [(1, .ref (3 + M) 0 0), (4, .int .i64 q), (36, .int .i64 M), (37, .int .i64 q), (45, .int .i64 K), (46, .int .i64 p.1.1)], slH tr acc M K p.2.1 ++ [(Blk.cells 0 [.hs 0 0 0 (N) 1, .hs 1 (M) 0 (M) 1, .hs 2 (M) 0 (M) 1])])) (fun p => K - p.1.1) ⟨⟨0, by omega⟩, ⟨rb, hrbk⟩⟩ (Ent.fr' ⟨(by kernel_rfl), (by kernel_rfl), (by kernel_rfl), (by kernel_rfl), (by kernel_rfl), (by kernel_rfl), trivial⟩ (by kernel_rfl)) ?_
    rintro ⟨⟨a, ha⟩, ⟨rb, hrbk⟩⟩
    repeat first | refine opsStep ?_ | refine codeStep ?_ | refine drawStep ?_
    refine decB_dec (fun f => ?_) (fun f => ?_)
    · have haN : a < K := by have := f; simp at this; omega
      have hqr : q < rb.length := by rw [hrbk.1]; exact hqk
      obtain ⟨r, hr1, hr2⟩ := hrbk.2 q hqr
      repeat first | refine opsStep ?_ | refine codeStep ?_ | refine drawStep ?_
      refine optE_of (sl_last hrbk.1) ?_
      refine guardE_of rfl ?_
      repeat first | refine opsStep ?_ | refine codeStep ?_ | refine drawStep ?_
      refine guardE_of (by simp; omega) ?_
      repeat first | refine opsStep ?_ | refine codeStep ?_ | refine drawStep ?_
      refine guardE_of rfl ?_
      refine optE_of rfl ?_
      refine optE_of (c := .hs (3 + q) 0 0 K 1) (by show (pmHs 3 K M)[0 + q * 1]? = _; simp [pmHs, hqk]) ?_
      repeat first | refine opsStep ?_ | refine codeStep ?_ | refine drawStep ?_
      refine guardE_of (by simp; omega) ?_
      repeat first | refine opsStep ?_ | refine codeStep ?_ | refine drawStep ?_
      refine optE_of (c := .cells 0 r) (by rw [← hr1]; exact sl_get hqr) ?_
      refine guardE_of rfl ?_
      have hsz : 0 + a * 1 + [AV.int .i64 (-1)].length ≤ r.length := by simp; omega
      refine guardE_of ⟨rfl, by decide, hsz⟩ ?_
      repeat first | refine opsStep ?_ | refine codeStep ?_ | refine drawStep ?_
      refine ⟨⟨⟨a + 1, by omega⟩, ⟨rb.set q (.cells 0 (over r (0 + a * 1) [.int .i64 (-1)])), hrbk.set (by rw [over_len hsz, hr2])⟩⟩, (by show K - (a + 1) < K - a; omega), Ent.fr' ⟨(by kernel_rfl), (by kernel_rfl), (by kernel_rfl), (by kernel_rfl), (by kernel_rfl), inc_slot (i := a) (by omega), trivial⟩ ?_⟩
      refine Eq.trans (b := (slH tr acc M K rb ++ [(Blk.cells 0 [.hs 0 0 0 (N) 1, .hs 1 (M) 0 (M) 1, .hs 2 (M) 0 (M) 1])]).set (3 + q) (Blk.cells 0 (over r (0 + a * 1) [.int .i64 (-1)]))) (by kernel_rfl) ?_
      exact sl_set hqr
    repeat first | refine opsStep ?_ | refine codeStep ?_ | refine drawStep ?_
    exact ⟨⟨⟨q + 1, by omega⟩, ⟨rb, hrbk⟩⟩, (by show M - (q + 1) < M - q; omega), Ent.fr' ⟨(by kernel_rfl), (by kernel_rfl), inc_slot (i := q) (by omega), trivial⟩ (by kernel_rfl)⟩
  repeat first | refine opsStep ?_ | refine codeStep ?_ | refine drawStep ?_
  exact finR (l := []) (H₁ := slH tr acc M K rb ++ [(Blk.cells 0 [.hs 0 0 0 (N) 1, .hs 1 (M) 0 (M) 1, .hs 2 (M) 0 (M) 1])]) (v := .tup []) trivial (by kernel_rfl) (Ent.refl _ _ _) (by kernel_rfl) rfl

end Tab

/- tabardlaw16: even, fixed. -/
namespace Tab
open Go Go.Proofs
set_option maxRecDepth 10000
set_option linter.unusedVariables false
set_option linter.unusedSimpArgs false
set_option linter.unusedSectionVars false

theorem law16_even : Pure Try.prog 42 [] (aDen evenD) := by
  refine Pure.of_read (R := fun o H' => o = .ret (.agg [.hs 1 0 0 1 1, .hs 2 0 0 3 1, .hs 6 0 0 3 1]) ∧ H' = [.cells 0 [.hs 1 0 0 1 1, .hs 2 0 0 3 1, .hs 6 0 0 3 1], .cells 0 [.str [120]], .cells 0 [.bool false, .bool true, .bool false], .cells 0 [.int .i64 1, .int .i64 2], .cells 0 [.int .i64 1, .int .i64 1], .cells 0 [.int .i64 2, .int .i64 2], .cells 0 [.hs 3 0 0 2 1, .hs 4 0 0 2 1, .hs 5 0 0 2 1]])
    (by simp [closeds]) (aDen_closed _) ?_ ?_
  · refine ACall.of_sw 8 Try.func42 rfl Try.ntmps42 (by kernel_rfl) (Nat.le_of_ble_eq_true (by kernel_rfl)) ?_; refine SW.of_vc ?_
    repeat first | refine opsStep ?_ | refine codeStep ?_ | refine drawStep ?_
    refine optX_of (c := [.bool false, .bool true, .bool false]) (by kernel_rfl) ?_
    repeat first | refine opsStep ?_ | refine codeStep ?_ | refine drawStep ?_
    refine optX_of (c := [.int .i64 1, .int .i64 2]) (by kernel_rfl) ?_
    repeat first | refine opsStep ?_ | refine codeStep ?_ | refine drawStep ?_
    refine optX_of (c := [.int .i64 1, .int .i64 1]) (by kernel_rfl) ?_
    repeat first | refine opsStep ?_ | refine codeStep ?_ | refine drawStep ?_
    refine optX_of (c := [.int .i64 2, .int .i64 2]) (by kernel_rfl) ?_
    repeat first | refine opsStep ?_ | refine codeStep ?_ | refine drawStep ?_
    refine optX_of (c := [.hs 3 0 0 2 1, .hs 4 0 0 2 1, .hs 5 0 0 2 1]) (by kernel_rfl) ?_
    repeat first | refine opsStep ?_ | refine codeStep ?_ | refine drawStep ?_
    exact finR (l := [(0, .ref 0 0 0)]) ⟨(by kernel_rfl), trivial⟩ rfl (Ent.refl _ _ _) (by kernel_rfl) ⟨rfl, rfl⟩
  · rintro o H' ⟨rfl, rfl⟩
    exact ⟨_, rfl, .agg (.cons (Rd.whole rfl rfl) (.cons (Rd.whole rfl rfl) (.cons (.hs rfl rfl (by decide) (.cons (Rd.whole rfl rfl) (.cons (Rd.whole rfl rfl) (.cons (Rd.whole rfl rfl) .nil)))) .nil)))⟩

def oddD : Den := ⟨.any, [[120]], .any, [false, false, true], .any, [(.any, [1, 2]), (.any, [1, 1]), (.any, [2, 2])]⟩
theorem oddD_ok : DenOk oddD := ⟨by decide, by decide, by decide, by decide, by decide⟩
theorem evenD_right : rightS evenD = true := by kernel_rfl
theorem even_L : prdR evenD evenD = some [(-1, -1), (1, 1), (2, 2)] := by kernel_rfl
theorem even_notE : notE evenD = 0 := by rw [notE, if_pos evenD_right]; exact (prd_some (cn := notS) (names := []) even_L).2
theorem even_notV : sameD (notV evenD) oddD = true := by
  rw [notV_ok even_notE even_L, sameD_eq]
  kernel_rfl
theorem prdM_ok {cn names d e L} (hn : names.length * 16 ≤ 140737488351232) (hns : ∀ s ∈ names, s.length ≤ 140737488351232) (hL : L.length ≤ 256) (hk : d.tracks.length ≤ 6) : DenOk (prdM cn names d e L) := by
  have hp : 2 ^ d.tracks.length ≤ 2 ^ 6 := Nat.pow_le_pow_right (by omega) hk
  refine ⟨hn, hns, by simp only [prdM, List.length_map]; omega, by simp only [prdM, List.length_map]; omega, fun r hr => ?_⟩
  simp only [prdM, List.mem_map] at hr
  obtain ⟨p, _, rfl⟩ := hr
  simp only [rowX, List.length_map, pf_length]
  omega
theorem prdR_len {d e L} (h : prdR d e = some L) : L.length ≤ 256 := (explO_some h).2 (by simp)
theorem notV_den {d : Den} (hd : DenOk d) : DenOk (notV d) := by
  rw [notV]
  split
  · rename_i hr
    obtain ⟨g1, _, _⟩ := rightS_parts hr
    obtain ⟨j1, _, _, _⟩ := tracksS_parts g1
    cases hR : prdR d d with
    | some L => rw [(prd_some hR).1]; exact prdM_ok hd.tracks hd.names (prdR_len hR) j1
    | none => rw [(prd_none hR).1]; exact den0_ok
  · exact den0_ok
theorem joinV_den {op} {d e : Den} (hd : DenOk d) (he : DenOk e) : DenOk (joinV op d e) := by
  rw [joinV]
  split
  · split
    · split
      · rename_i h6
        cases hR : prdR (widenD d (unN d e)) (widenD e (unN d e)) with
        | some L => rw [(prd_some hR).1]; exact prdM_ok (by omega) (unN_sizes hd he) (prdR_len hR) h6
        | none => rw [(prd_none hR).1]; exact den0_ok
      · exact den0_ok
    · exact den0_ok
  · exact den0_ok

theorem law16_fixed : Pure Try.prog 20 [] (.bool true) := by
  have hn := prod_NotV evenD evenD_ok
  have hj := prod_JoinV 99 evenD evenD evenD_ok evenD_ok
  have hok := notV_den evenD_ok
  have hsame := even_notV
  have hje : joinE 99 evenD evenD = 2 := joinE_range (by kernel_rfl) (by decide)
  have hjv : joinV 99 evenD evenD = den0 := joinV_bad (by rw [hje]; decide)
  rw [even_notE] at hn
  rw [hje, hjv] at hj
  generalize notV evenD = w at *
  have hsd := r12_SameDense w oddD hok oddD_ok
  rw [hsame] at hsd
  refine Pure.of_sw 35 Try.func20 rfl Try.ntmps20 (by kernel_rfl) (Nat.le_of_ble_eq_true (by kernel_rfl)) (by simp [closeds, AV.closed, aSs_closed, aIs_closed, aBs_closed, aRs_closed, aDen_closed]) (by simp [AV.closed, closeds, aSs_closed, aIs_closed, aBs_closed, aRs_closed, aDen_closed]) ?_; refine SW.of_vc ?_
  repeat first | refine opsStep ?_ | refine codeStep ?_ | refine drawStep ?_
  refine callP law16_even ?_
  repeat first | refine opsStep ?_ | refine codeStep ?_ | refine drawStep ?_
  refine callP hn ?_
  repeat first | refine opsStep ?_ | refine codeStep ?_ | refine drawStep ?_
  refine callP law16_even ?_
  repeat first | refine opsStep ?_ | refine codeStep ?_ | refine drawStep ?_
  refine callP law16_even ?_
  repeat first | refine opsStep ?_ | refine codeStep ?_ | refine drawStep ?_
  refine callP hj ?_
  repeat first | refine opsStep ?_ | refine codeStep ?_ | refine drawStep ?_
  refine optX_of (c := [.bool false, .bool false, .bool true]) (by kernel_rfl) ?_
  repeat first | refine opsStep ?_ | refine codeStep ?_ | refine drawStep ?_
  refine optX_of (c := [.int .i64 1, .int .i64 2]) (by kernel_rfl) ?_
  repeat first | refine opsStep ?_ | refine codeStep ?_ | refine drawStep ?_
  refine optX_of (c := [.int .i64 1, .int .i64 1]) (by kernel_rfl) ?_
  repeat first | refine opsStep ?_ | refine codeStep ?_ | refine drawStep ?_
  refine optX_of (c := [.int .i64 2, .int .i64 2]) (by kernel_rfl) ?_
  repeat first | refine opsStep ?_ | refine codeStep ?_ | refine drawStep ?_
  refine optX_of (c := [.hs 4 0 0 2 1, .hs 5 0 0 2 1, .hs 6 0 0 2 1]) (by kernel_rfl) ?_
  repeat first | refine opsStep ?_ | refine codeStep ?_ | refine drawStep ?_
  refine callB hsd rfl (.cons (.refl _) (.cons (.agg (.cons (Rd.whole (g := 0) (by kernel_rfl) (by kernel_rfl)) (.cons (Rd.whole (g := 0) (by kernel_rfl) (by kernel_rfl)) (.cons (.hs (blk := .cells 0 [.hs 4 0 0 2 1, .hs 5 0 0 2 1, .hs 6 0 0 2 1]) (g := 0) (cs := [.hs 4 0 0 2 1, .hs 5 0 0 2 1, .hs 6 0 0 2 1]) (by kernel_rfl) (by kernel_rfl) (Nat.le_refl 3) (.cons (Rd.whole (g := 0) (by kernel_rfl) (by kernel_rfl)) (.cons (Rd.whole (g := 0) (by kernel_rfl) (by kernel_rfl)) (.cons (Rd.whole (g := 0) (by kernel_rfl) (by kernel_rfl)) .nil)))) .nil)))) .nil)) ?_
  repeat first | refine opsStep ?_ | refine codeStep ?_ | refine drawStep ?_
  exact finB (b' := true) (by kernel_rfl) rfl

end Tab

/- New machines among other blocks. -/
namespace Tab
open Go Go.Proofs
set_option maxRecDepth 10000
set_option linter.unusedVariables false
set_option linter.unusedSimpArgs false
set_option linter.unusedSectionVars false

theorem ndH_sh {names acc rows K} (b : Nat) : (ndH names acc rows K).map (Blk.sh b) = ndB names acc rows.length K (3 + b) ++ pmRows rows := by
  have e : (pmRows rows).map (Blk.sh b) = pmRows rows := by
    rw [pmRows, List.map_map]
    refine List.map_congr_left fun r _ => ?_
    simp only [Function.comp, Blk.sh]
    rw [closeds_sh]
    exact closeds_iff.2 fun a ha => by obtain ⟨x, _, rfl⟩ := List.mem_map.1 ha; simp only [AV.closed]
  have e2 : shs b (pmHs 3 K rows.length) = pmHs (3 + b) K rows.length := by
    rw [pmHs, pmHs, shs_map, List.map_map]
    exact List.map_congr_left fun j _ => by simp only [Function.comp, AV.sh]; congr 1; omega
  rw [ndH, ndB, List.map_append, e]
  simp only [List.map_cons, List.map_nil, Blk.sh, strs_sh, bools_sh, e2, ndB]
theorem ndB_length (names acc M K b) : (ndB names acc M K b).length = 3 := rfl
theorem ndB_bel {names acc M K b n} (h : b + M ≤ n) : blksBel n (ndB names acc M K b) := by
  have := pmHs_bel (K := K) h
  simp only [ndB, blksBel, Blk.bel, bels_map, AV.bel, implies_true, this, and_self]
theorem ndB_rn {names acc M K b c} {f : Nat → Nat} (h : ∀ j, j < M → f (b + j) = c + j) : (ndB names acc M K b).map (Blk.rn f) = ndB names acc M K c := by
  simp only [ndB, List.map_cons, List.map_nil, Blk.rn, strs_rn, bools_rn, pmHs_rn' f b c K M h]

/-- A block made behind the machine is moved ahead of it. -/
theorem Ent.ndIn {nt : Fr} {s : Slots} {H : List Blk} {l : List (Nat × AV)} (pre : List Blk) (x : Blk) {b : Nat} {names : List (List UInt8)} {acc : List Bool} {M K : Nat} {rows : List (List Int)} (hb : pre.length = b) (hk : nt.k ≤ b) (hM : rows.length = M)
    (hs : frOk s (l.map fun q => (q.1, q.2.rn (insF b (M + 3))))) (hH : H = pre.map (Blk.rn (insF b (M + 3))) ++ (ndB names acc M K (b + 3) ++ pmRows rows) ++ [x.rn (insF b (M + 3))])
    (bl : frBel (b + (M + 3) + 1) l) (bp : blksBel (b + (M + 3) + 1) pre) (bx : x.bel (b + (M + 3) + 1)) : Ent nt s H (Tab.fr l) (pre ++ x :: (ndB names acc M K (b + 4) ++ pmRows rows)) := by
  have hq : (ndB names acc M K (b + 4) ++ pmRows rows).length = M + 3 := by simp [ndB_length, pmRows, hM]; omega
  refine Ent.insMid pre (ndB names acc M K (b + 4) ++ pmRows rows) x (by omega) (by rw [hb, hq]; exact frOk_rn hs) ?_ (by rw [hb, hq]; exact bl) ?_
  · rw [hb, hq, hH, List.map_append, pmRows_rn, ndB_rn (c := b + 3) fun j hj => ?_]
    rw [insF, if_neg (by omega), if_neg (by omega)]; omega
  · rw [hb, hq, blksBel_append]
    exact ⟨bp, bx, blksBel_append.2 ⟨ndB_bel (by omega), pmRows_bel _ _⟩⟩

theorem place_take {f} {φ : List Nat} {H H₁ : List Blk} {n : Nat} (hn : n ≤ H.length) (h : ∀ b ∈ φ, n ≤ b) : ∃ Y, place f φ H H₁ = H.take n ++ Y := by
  refine ⟨(place f φ H H₁).drop n, ?_⟩
  have : (place f φ H H₁).take n = H.take n := by
    refine List.ext_getElem? fun i => ?_
    rw [List.getElem?_take, List.getElem?_take]
    split
    · rename_i hi
      exact place_out (by omega) fun hm => by have := h i hm; omega
    · rfl
  rw [← this, List.take_append_drop]

/-- A function that is handed the machine, and of which only the end is known. -/
theorem callNd {P : Program} {f : FuncId} {u : AV} {X : Out → List Blk → Prop} (pre : List Blk) {b : Nat} {names : List (List UInt8)} {acc : List Bool} {M K N : Nat} {rows : List (List Int)} (hb : pre.length = b) (hM : rows.length = M)
    (h : ACall P f [ndV N M] (ndH names acc rows K) fun o _ => o = .ret u) (hu : u.closed) (k : ∀ Y, X (.ret u) (pre ++ Y)) :
    ∃ R : Out → List Blk → Prop, ACall P f [.agg [.hs b 0 0 N 1, .hs (b + 1) M 0 M 1, .hs (b + 2) M 0 M 1]] (pre ++ (ndB names acc M K (b + 3) ++ pmRows rows)) R ∧ ∀ o H', R o H' → X o H' := by
  obtain ⟨W, hW⟩ : ∃ W, pre ++ (ndB names acc M K (b + 3) ++ pmRows rows) = W := ⟨_, rfl⟩
  have hWl : W.length = b + (M + 3) := by rw [← hW]; simp [ndB_length, pmRows, hM, hb]; omega
  have hWg : ∀ j, W[b + j]? = (ndB names acc M K (b + 3) ++ pmRows rows)[j]? := fun j => by
    rw [← hW, List.getElem?_append_right (by omega), hb]; congr 1; omega
  have hWt : W.take b = pre := by rw [← hW, ← hb, List.take_left]
  have hφm : ∀ x ∈ (List.range (M + 3)).map (b + ·), b ≤ x ∧ x < b + (M + 3) := fun x hx => by
    obtain ⟨j, hj, rfl⟩ := List.mem_map.1 hx
    have := List.mem_range.1 hj
    omega
  obtain ⟨F, hF⟩ : ∃ F, rnB ((List.range (M + 3)).map (b + ·)) W.length = F := ⟨_, rfl⟩
  have f1 : ∀ j, j < M + 3 → F j = b + j := fun j hj => by
    rw [← hF]
    refine rnB_lt ?_
    rw [List.getElem?_map, List.getElem?_range hj]; rfl
  have hrn : (ndH names acc rows K).map (Blk.rn F) = ndB names acc M K (b + 3) ++ pmRows rows := by
    rw [ndH, hM, List.map_append, pmRows_rn, ndB_rn (c := b + 3) fun j hj => by rw [f1 _ (by omega)]; omega]
  rw [hW]
  refine callF ((List.range (M + 3)).map (b + ·)) h ?_ ?_ ?_ ?_ ?_ ?_ ?_ ?_
  · exact List.pairwise_map.2 (List.nodup_range.imp fun {x y} h e => h (by omega))
  · intro x hx; have := hφm x hx; omega
  · simp [ndH, ndB_length, pmRows, hM]; omega
  · rw [hF, List.map_map, show (ndH names acc rows K).map (fun x => some (Blk.rn F x)) = ((ndH names acc rows K).map (Blk.rn F)).map some by rw [List.map_map]; rfl, hrn]
    refine List.ext_getElem? fun i => ?_
    rw [List.getElem?_map, List.getElem?_map]
    by_cases hi : i < M + 3
    · rw [List.getElem?_range hi]
      simp only [Option.map_some, Function.comp_apply]
      rw [hWg]
      cases hx : (ndB names acc M K (b + 3) ++ pmRows rows)[i]? with
      | none =>
        have := List.getElem?_eq_none_iff.1 hx
        simp [ndB_length, pmRows, hM] at this
        omega
      | some y => rfl
    · rw [List.getElem?_eq_none (by simp; omega), List.getElem?_eq_none (by simp [ndB_length, pmRows, hM]; omega)]
      rfl
  · simp [ndV, bels, AV.bel]
  · rw [List.length_map, List.length_range, ndH, hM, blksBel_append]
    exact ⟨ndB_bel (by omega), pmRows_bel _ _⟩
  · rw [hF, rns, rns, ndV, AV.rn, rns, rns, rns, rns, AV.rn, AV.rn, AV.rn, f1 0 (by omega), f1 1 (by omega), f1 2 (by omega)]
    rfl
  · rintro o H₁ rfl
    obtain ⟨Y, hY⟩ := place_take (f := rnB ((List.range (M + 3)).map (b + ·)) W.length) (φ := (List.range (M + 3)).map (b + ·)) (H := W) (H₁ := H₁) (n := b) (by omega) fun x hx => (hφm x hx).1
    rw [hY, hWt]
    have := k Y
    rwa [Out.rn, AV.closed_rn _ hu]

end Tab

/- Layer 16: the law ProdNots. -/
namespace Tab
open Go Go.Proofs
set_option maxRecDepth 10000
set_option linter.unusedVariables false
set_option linter.unusedSimpArgs false
set_option linter.unusedSectionVars false

theorem prdM_congr {cn names d e d' e' L} (h1 : d'.rows = d.rows) (h2 : e'.rows = e.rows) (h3 : d'.tracks.length = d.tracks.length) (h4 : d'.accept = d.accept) (h5 : e'.accept = e.accept) : prdM cn names d' e' L = prdM cn names d e L := by
  have : accP cn d' e' = accP cn d e := by funext p; rw [accP, accP, h4, h5]
  rw [prdM, prdM, this, pf_congr h1 h2 h3]
theorem prdV_congr {cn names d e d' e'} (h1 : d'.rows = d.rows) (h2 : e'.rows = e.rows) (h3 : d'.tracks.length = d.tracks.length) (h4 : d'.accept = d.accept) (h5 : e'.accept = e.accept) : prdV cn names d' e' = prdV cn names d e ∧ prdE d' e' = prdE d e := by
  have hR := prdR_congr h1 h2 h3
  cases h : prdR d e with
  | some L =>
    rw [h] at hR
    rw [(prd_some hR).1, (prd_some h).1, (prd_some (cn := cn) (names := names) hR).2, (prd_some (cn := cn) (names := names) h).2, prdM_congr h1 h2 h3 h4 h5]; exact ⟨rfl, rfl⟩
  | none =>
    rw [h] at hR
    rw [(prd_none hR).1, (prd_none h).1, (prd_none (cn := cn) (names := names) hR).2, (prd_none (cn := cn) (names := names) h).2]; exact ⟨rfl, rfl⟩
theorem notV_copy (d : Den) : notV (copyD d) = notV d ∧ notE (copyD d) = notE d := by
  obtain ⟨h1, h2⟩ := prdV_congr (cn := notS) (names := d.tracks) (d := d) (e := d) (d' := copyD d) (e' := copyD d) (copyD_rows d) (copyD_rows d) rfl rfl rfl
  constructor
  · rw [notV, notV, copyD_right, show (copyD d).tracks = d.tracks from rfl, h1]
  · rw [notE, notE, copyD_right, h2]

theorem law16_spoil0 : Pure Try.prog 22 [aDen den0] (.tup []) := by
  refine Pure.of_sw 58 Try.func22 rfl Try.ntmps22 (by kernel_rfl) (Nat.le_of_ble_eq_true (by kernel_rfl)) (by simp [closeds, AV.closed, aSs_closed, aIs_closed, aBs_closed, aRs_closed, aDen_closed]) (by simp [AV.closed, closeds, aSs_closed, aIs_closed, aBs_closed, aRs_closed, aDen_closed]) ?_; refine SW.of_vc ?_
  repeat first | refine opsStep ?_ | refine codeStep ?_ | refine drawStep ?_
  refine loopE_of (ι := Unit) (fun _ => (fr [(1, .ref 0 0 0), (8, .int .i64 0), (9, .int .i64 0)], [.cells 0 den0.cells])) (fun _ => 0) () (Ent.fr' ⟨(by kernel_rfl), (by kernel_rfl), (by kernel_rfl), trivial⟩ (by kernel_rfl)) ?_
  intro _
  repeat first | refine opsStep ?_ | refine codeStep ?_ | refine drawStep ?_
  refine loopE_of (ι := Unit) (fun _ => (fr [(1, .ref 0 0 0), (19, .int .i64 0), (20, .int .i64 0)], [.cells 0 den0.cells])) (fun _ => 0) () (Ent.fr' ⟨(by kernel_rfl), (by kernel_rfl), (by kernel_rfl), trivial⟩ (by kernel_rfl)) ?_
  intro _
  repeat first | refine opsStep ?_ | refine codeStep ?_ | refine drawStep ?_
  refine loopE_of (ι := Unit) (fun _ => (fr [(1, .ref 0 0 0), (36, .int .i64 0), (37, .int .i64 0)], [.cells 0 den0.cells])) (fun _ => 0) () (Ent.fr' ⟨(by kernel_rfl), (by kernel_rfl), (by kernel_rfl), trivial⟩ (by kernel_rfl)) ?_
  intro _
  repeat first | refine opsStep ?_ | refine codeStep ?_ | refine drawStep ?_
  exact finV (v' := .tup []) (by kernel_rfl) rfl

set_option maxHeartbeats 1000000 in
theorem law_ProdNots (d : Den) (hd : DenOk d) : Pure Try.prog 4 [aDen d] (.bool true) := by
  have hcp := r12_CopyDense d hd
  have hsd := r12_SameDense (copyD d) d (copyD_ok hd) hd
  rw [copyD_same] at hsd
  have hnt := prod_Not (copyD d) (copyD_ok hd)
  have hnv := prod_NotV (copyD d) (copyD_ok hd)
  obtain ⟨c1, c2⟩ := notV_copy d
  rw [c1, c2] at hnv
  have hnr := r16_Not d hd
  have hok := notV_den hd
  have hww := r12_SameDense (notV d) (notV d) hok hok
  rw [sameD_refl] at hww
  have hrc := prdR_congr (d := d) (e := d) (copyD_rows d) (copyD_rows d) (show (copyD d).tracks.length = d.tracks.length from rfl)
  have hpc := pf_congr (d := d) (e := d) (copyD_rows d) (copyD_rows d) (show (copyD d).tracks.length = d.tracks.length from rfl)
  have hac : accP notS (copyD d) (copyD d) = accP notS d d := rfl
  have htr : (copyD d).tracks = d.tracks := rfl
  rw [c2, hrc, hpc, hac, htr] at hnt
  have hvb := fun h => notV_bad (d := d) h
  have hvo := fun L h hL => notV_ok (d := d) (L := L) h hL
  have hrdL := fun L => prd_read (N := d.tracks.length) notS d.tracks d d L rfl
  generalize copyD d = mine at *
  refine Pure.of_sw 61 Try.func4 rfl Try.ntmps4 (by kernel_rfl) (Nat.le_of_ble_eq_true (by kernel_rfl)) (by simp [closeds, AV.closed, aSs_closed, aIs_closed, aBs_closed, aRs_closed, aDen_closed]) (by simp [AV.closed, closeds, aSs_closed, aIs_closed, aBs_closed, aRs_closed, aDen_closed]) ?_; refine SW.of_vc ?_
  repeat first | refine opsStep ?_ | refine codeStep ?_ | refine drawStep ?_
  refine callP hcp ?_
  repeat first | refine opsStep ?_ | refine codeStep ?_ | refine drawStep ?_
  refine callS (show closeds [aDen mine] from by simp [closeds, aDen_closed]) hnt (fun X h => by rcases h with ⟨_, h, _⟩ | ⟨_, L, _, h, _⟩ <;> cases h) ?_
  rintro v X (⟨hne, hv, rfl⟩ | ⟨h0, L, hL, hv, rfl⟩)
  · have hv := Out.ret.inj hv
    subst hv
    rw [hvb hne] at hnr hnv hww
    iterate 7 refine opsStep ?_
    refine VCode.ent (Ent.fr' (l := [(1, .ref 0 0 0), (3, .ref 1 0 0), (4, .ref 2 0 0), (5, .int .i64 (notE d))]) (H' := [.cells 0 d.cells, .cells 0 mine.cells, .cells 0 den0.cells]) ⟨(by kernel_rfl), (by kernel_rfl), (by kernel_rfl), (by kernel_rfl), trivial⟩ (by kernel_rfl)) ?_
    repeat first | refine opsStep ?_ | refine codeStep ?_ | refine drawStep ?_
    refine callP hnr ?_
    iterate 7 refine opsStep ?_
    refine VCode.ent (Ent.fr' (l := [(1, .ref 0 0 0), (3, .ref 1 0 0), (4, .ref 2 0 0), (5, .int .i64 (notE d)), (6, .ref 3 0 0), (7, .int .i64 (notE d))]) (H' := [.cells 0 d.cells, .cells 0 mine.cells, .cells 0 den0.cells, .cells 0 den0.cells]) ⟨(by kernel_rfl), (by kernel_rfl), (by kernel_rfl), (by kernel_rfl), (by kernel_rfl), (by kernel_rfl), trivial⟩ (by kernel_rfl)) ?_
    repeat first | refine opsStep ?_ | refine codeStep ?_ | refine drawStep ?_
    refine callP law16_fixed ?_
    repeat first | refine opsStep ?_ | refine codeStep ?_ | refine drawStep ?_
    refine decB_split (fun h => ?_) (fun h => ?_)
    · exact (of_decide_eq_true h rfl).elim
    repeat first | refine opsStep ?_ | refine codeStep ?_ | refine drawStep ?_
    refine callP hww ?_
    repeat first | refine opsStep ?_ | refine codeStep ?_ | refine drawStep ?_
    refine callP hsd ?_
    repeat first | refine opsStep ?_ | refine codeStep ?_ | refine drawStep ?_
    refine callP law16_spoil0 ?_
    repeat first | refine opsStep ?_ | refine codeStep ?_ | refine drawStep ?_
    refine callP hnv ?_
    repeat first | refine opsStep ?_ | refine codeStep ?_ | refine drawStep ?_
    refine decB_split (fun h => ?_) (fun h => ?_)
    · repeat first | refine opsStep ?_ | refine codeStep ?_ | refine drawStep ?_
      refine callP hww ?_
      repeat first | refine opsStep ?_ | refine codeStep ?_ | refine drawStep ?_
      refine callP hsd ?_
      repeat first | refine opsStep ?_ | refine codeStep ?_ | refine drawStep ?_
      exact finB (b' := true) (by kernel_rfl) rfl
    · exact absurd rfl (of_decide_eq_false h)
  · have hv := Out.ret.inj hv
    subst hv
    iterate 4 refine opsStep ?_
    refine opsStep ?_
    refine optE_of (get_last _ _) ?_
    refine guardE_of rfl ?_
    refine opsStep ?_
    refine opsStep ?_
    rw [hvo L h0 hL] at hnr hnv hww
    have hrdL := hrdL L
    obtain ⟨acc, hacc⟩ : ∃ acc, L.map (accP notS d d) = acc := ⟨_, rfl⟩
    obtain ⟨rows, hrows⟩ : ∃ rows, L.map (rowX (pf d d) L) = rows := ⟨_, rfl⟩
    obtain ⟨K, hK⟩ : ∃ K, 2 ^ d.tracks.length = K := ⟨_, rfl⟩
    obtain ⟨M, hM⟩ : ∃ M, L.length = M := ⟨_, rfl⟩
    obtain ⟨N, hN⟩ : ∃ N, d.tracks.length = N := ⟨_, rfl⟩
    have hal : acc.length = M := by rw [← hacc, List.length_map]; exact hM
    have hrl : rows.length = M := by rw [← hrows, List.length_map]; exact hM
    have hrk : ∀ r ∈ rows, r.length = K := fun r hr => by
      rw [← hrows] at hr
      obtain ⟨p, _, rfl⟩ := List.mem_map.1 hr
      rw [← hK]; simp [rowX, pf_length]
    have hprd : prdM notS d.tracks d d L = ⟨.any, d.tracks, .any, acc, .any, rows.map fun r => (.any, r)⟩ := by rw [← hacc, ← hrows, List.map_map]; rfl
    rw [hacc, hrows, hK]
    rw [h0] at hnr hnv
    have hA : ([Blk.cells 0 d.cells, .cells 0 mine.cells] ++ (ndH d.tracks acc rows K).map (Blk.sh 2)) = [Blk.cells 0 d.cells, .cells 0 mine.cells] ++ (ndB d.tracks acc M K (5) ++ pmRows rows) := by rw [ndH_sh, hrl]
    have hAl : ([Blk.cells 0 d.cells, .cells 0 mine.cells] ++ (ndH d.tracks acc rows K).map (Blk.sh 2)).length = 2 + (M + 3) := by rw [hA]; simp [ndB_length, pmRows, hrl]; omega
    refine VCode.ent (s' := fr [(1, .ref 0 0 0), (3, .ref 1 0 0), (4, .ref 2 0 0), (5, .int .i64 0)]) (H' := [.cells 0 d.cells, .cells 0 mine.cells] ++ (Blk.cells 0 [.hs (3) 0 0 N 1, .hs (3 + 1) M 0 M 1, .hs (3 + 2) M 0 M 1]) :: (ndB d.tracks acc M K (6) ++ pmRows rows)) ?_ ?_
    · refine (Ent.fr' (l := [(1, .ref 0 0 0), (3, .ref 1 0 0), (4, .ref ([Blk.cells 0 d.cells, .cells 0 mine.cells] ++ (ndH d.tracks acc rows K).map (Blk.sh 2)).length 0 0), (5, .int .i64 0)])
        (H' := ([Blk.cells 0 d.cells, .cells 0 mine.cells] ++ (ndH d.tracks acc rows K).map (Blk.sh 2)) ++ [.cells 0 [.hs 2 0 0 N 1, .hs 3 M 0 M 1, .hs 4 M 0 M 1]]) ⟨(by kernel_rfl), (by kernel_rfl), (by kernel_rfl), (by kernel_rfl), trivial⟩ ?_).trans ?_
      · refine Eq.trans (b := (([Blk.cells 0 d.cells, .cells 0 mine.cells] ++ (ndH d.tracks acc rows K).map (Blk.sh 2)) ++ [Blk.cells 0 den0.cells]).set ([Blk.cells 0 d.cells, .cells 0 mine.cells] ++ (ndH d.tracks acc rows K).map (Blk.sh 2)).length (Blk.cells 0 (over den0.cells 0 [.hs 2 0 0 d.tracks.length 1, .hs 3 L.length 0 L.length 1, .hs 4 L.length 0 L.length 1]))) (by kernel_rfl) ?_
        rw [set_last, hM, hN]
        rfl
      · refine Ent.ndIn [.cells 0 d.cells, .cells 0 mine.cells] (Blk.cells 0 [.hs (3) 0 0 N 1, .hs (3 + 1) M 0 M 1, .hs (3 + 2) M 0 M 1]) (b := 2) rfl (Nat.zero_le _) hrl ?_ ?_ ?_ ?_ ?_
        · refine ⟨rfl, rfl, ?_, rfl, trivial⟩
          rw [hAl]
          show AV.ref (2 + (M + 3)) 0 0 = AV.ref (insF 2 (M + 3) 2) 0 0
          simp [insF]; omega
        · rw [hA]
          simp [Blk.rn, den_rn, rns, AV.rn, insF]
        · simp [frBel, AV.bel]; omega
        · simp [blksBel, Blk.bel, cells_bel]
        · simp [Blk.bel, bels, AV.bel]; omega
    repeat first | refine opsStep ?_ | refine codeStep ?_ | refine drawStep ?_
    refine callP hnr ?_
    iterate 4 refine opsStep ?_
    refine opsStep ?_
    refine optE_of (get_last _ _) ?_
    refine guardE_of rfl ?_
    iterate 2 refine opsStep ?_
    obtain ⟨W, hWd⟩ : ∃ W, prdM notS d.tracks d d L = W := ⟨_, rfl⟩
    rw [hWd] at hnr hnv hww hprd
    have hBl : ([Blk.cells 0 d.cells, .cells 0 mine.cells] ++ (Blk.cells 0 [.hs (3) 0 0 N 1, .hs (3 + 1) M 0 M 1, .hs (3 + 2) M 0 M 1]) :: (ndB d.tracks acc M K (6) ++ pmRows rows)).length = 3 + (M + 3) := by simp [ndB_length, pmRows, hrl]; omega
    refine VCode.ent (s' := fr [(1, .ref 0 0 0), (3, .ref 1 0 0), (4, .ref 2 0 0), (5, .int .i64 0), (6, .ref 3 0 0), (7, .int .i64 0)]) (H' := [.cells 0 d.cells, .cells 0 mine.cells, (Blk.cells 0 [.hs (4) 0 0 N 1, .hs (4 + 1) M 0 M 1, .hs (4 + 2) M 0 M 1])] ++ .cells 0 W.cells :: (ndB d.tracks acc M K (7) ++ pmRows rows)) ?_ ?_
    · refine (Ent.fr' (l := [(1, .ref 0 0 0), (3, .ref 1 0 0), (4, .ref 2 0 0), (5, .int .i64 0), (6, .ref ([Blk.cells 0 d.cells, .cells 0 mine.cells] ++ (Blk.cells 0 [.hs (3) 0 0 N 1, .hs (3 + 1) M 0 M 1, .hs (3 + 2) M 0 M 1]) :: (ndB d.tracks acc M K (6) ++ pmRows rows)).length 0 0), (7, .int .i64 0)])
        (H' := ([Blk.cells 0 d.cells, .cells 0 mine.cells] ++ (Blk.cells 0 [.hs (3) 0 0 N 1, .hs (3 + 1) M 0 M 1, .hs (3 + 2) M 0 M 1]) :: (ndB d.tracks acc M K (6) ++ pmRows rows)) ++ [.cells 0 W.cells]) ⟨(by kernel_rfl), (by kernel_rfl), (by kernel_rfl), (by kernel_rfl), (by kernel_rfl), (by kernel_rfl), trivial⟩ ?_).trans ?_
      · subst hWd
        refine Eq.trans (b := (([Blk.cells 0 d.cells, .cells 0 mine.cells] ++ (Blk.cells 0 [.hs (3) 0 0 N 1, .hs (3 + 1) M 0 M 1, .hs (3 + 2) M 0 M 1]) :: (ndB d.tracks acc M K (6) ++ pmRows rows)) ++ [Blk.cells 0 den0.cells]).set ([Blk.cells 0 d.cells, .cells 0 mine.cells] ++ (Blk.cells 0 [.hs (3) 0 0 N 1, .hs (3 + 1) M 0 M 1, .hs (3 + 2) M 0 M 1]) :: (ndB d.tracks acc M K (6) ++ pmRows rows)).length (Blk.cells 0 (over den0.cells 0 (prdM notS d.tracks d d L).cells))) (by kernel_rfl) ?_
        rw [set_last]
        rfl
      · refine Ent.ndIn [.cells 0 d.cells, .cells 0 mine.cells, (Blk.cells 0 [.hs (4) 0 0 N 1, .hs (4 + 1) M 0 M 1, .hs (4 + 2) M 0 M 1])] (.cells 0 W.cells) (b := 3) rfl (Nat.zero_le _) hrl ?_ ?_ ?_ ?_ ?_
        · refine ⟨rfl, rfl, rfl, rfl, ?_, rfl, trivial⟩
          rw [hBl]
          show AV.ref (3 + (M + 3)) 0 0 = AV.ref (insF 3 (M + 3) 3) 0 0
          simp [insF]; omega
        · simp [Blk.rn, den_rn, rns, AV.rn, insF]
        · simp [frBel, AV.bel]; omega
        · simp [blksBel, Blk.bel, cells_bel, bels, AV.bel]; omega
        · exact cells_bel _ _
    repeat first | refine opsStep ?_ | refine codeStep ?_ | refine drawStep ?_
    refine callP law16_fixed ?_
    repeat first | refine opsStep ?_ | refine codeStep ?_ | refine drawStep ?_
    refine callB hww rfl (.cons ?_ (.cons (.refl _) .nil)) ?_
    · show Rd ([.cells 0 d.cells, .cells 0 mine.cells, (Blk.cells 0 [.hs (4) 0 0 N 1, .hs (4 + 1) M 0 M 1, .hs (4 + 2) M 0 M 1])] ++ .cells 0 W.cells :: (ndB d.tracks acc M K (7) ++ pmRows rows)) (.agg [.hs 4 0 0 N 1, .hs 5 M 0 M 1, .hs 6 M 0 M 1]) (aDen W)
      rw [hprd]
      refine rd_nd (b := 4) (fun i x hx => ?_) hN.symm hal hrl hrk
      rw [← hx, show ∀ a b c e : Blk, ∀ l, [a, b, c] ++ e :: l = [a, b, c, e] ++ l from fun _ _ _ _ _ => rfl, List.getElem?_append_right (by simp)]
      congr 1; simp
    repeat first | refine opsStep ?_ | refine codeStep ?_ | refine drawStep ?_
    refine callP hsd ?_
    repeat first | refine opsStep ?_ | refine codeStep ?_ | refine drawStep ?_
    obtain ⟨g1, _, _⟩ := rightS_parts (d := d) (by
      cases hr : rightS d with
      | true => rfl
      | false => rw [notE, hr] at h0; simp at h0)
    obtain ⟨j1, _, _, _⟩ := tracksS_parts g1
    have hM256 : M ≤ 256 := by rw [← hM]; exact prdR_len hL
    have hK64 : K ≤ 64 := by rw [← hK]; have : 2 ^ d.tracks.length ≤ 2 ^ 6 := Nat.pow_le_pow_right (by omega) j1; omega
    refine callNd [.cells 0 d.cells, .cells 0 mine.cells, (Blk.cells 0 [.hs (4) 0 0 N 1, .hs (4 + 1) M 0 M 1, .hs (4 + 2) M 0 M 1]), .cells 0 W.cells] (b := 4) rfl hrl (law16_spoil d.tracks acc rows N M K hN hal hrl hrk (by omega) hM256 hK64) (by simp [AV.closed, closeds]) (fun Y => ?_)
    iterate 1 refine opsStep ?_
    refine VCode.ent (s' := fr [(1, .ref 0 0 0), (3, .ref 1 0 0), (5, .int .i64 0), (6, .ref 2 0 0)]) (H' := [.cells 0 d.cells, .cells 0 mine.cells, .cells 0 W.cells]) ?_ ?_
    · refine Ent.pick [0, 1, 3] (by simp) ?_ (fun b hb => absurd hb (Nat.not_lt_zero _)) _ _ rfl (frOk_rn ⟨rfl, rfl, rfl, rfl, trivial⟩) ?_ (by simp [frBel, AV.bel]) (by simp [blksBel, Blk.bel, cells_bel])
      · intro b hb
        simp only [List.mem_cons, List.not_mem_nil, or_false] at hb
        rw [List.length_append]
        show b < 4 + Y.length
        omega
      · intro i x b hx hb
        match i with
        | 0 => simp at hx hb; subst hx; subst hb; simp [Blk.rn, den_rn]
        | 1 => simp at hx hb; subst hx; subst hb; simp [Blk.rn, den_rn]
        | 2 => simp at hx hb; subst hx; subst hb; simp [Blk.rn, den_rn]
        | i + 3 => simp at hx
    repeat first | refine opsStep ?_ | refine codeStep ?_ | refine drawStep ?_
    refine callP hnv ?_
    repeat first | refine opsStep ?_ | refine codeStep ?_ | refine drawStep ?_
    refine callP hww ?_
    repeat first | refine opsStep ?_ | refine codeStep ?_ | refine drawStep ?_
    refine callP hsd ?_
    repeat first | refine opsStep ?_ | refine codeStep ?_ | refine drawStep ?_
    exact finB (b' := true) (by kernel_rfl) rfl

end Tab

/- The product's language. -/
namespace Tab
open Go Go.Proofs
set_option maxRecDepth 10000
set_option linter.unusedVariables false
set_option linter.unusedSimpArgs false
set_option linter.unusedSectionVars false

theorem ix_lt {α : Type} [DecidableEq α] {l : List α} {x : α} (h : x ∈ l) : ∃ hl : ixOf l x < l.length, l[ixOf l x] = x :=
  ⟨List.idxOf_lt_length_of_mem h, List.getElem_idxOf _⟩
theorem rowX_ix {α : Type} [DecidableEq α] (f : α → List α) (L : List α) (s : α) : rowX f L s = (f s).map fun t => (ixOf L t : Int) := rfl

def prodL (cn : Bool → Bool → Bool) (k : Nat) (K J : Lang) : Lang := fun w => letB k w && (!w.isEmpty && cn (K w) (J w))

section
variable {cn : Bool → Bool → Bool} {names : List (List UInt8)} {d e : Den} {L : List Pr} (hd : rightS d = true) (he : rightS e = true) (hk : d.tracks.length = e.tracks.length) (hn : risesS names = true) (hnk : names.length = d.tracks.length) (hL : prdR d e = some L)
include hd he hk hL
theorem prd_mem : ∀ x ∈ L, x = stP ∨ okS d e x := fun x hx => by
  rw [← (explO_some hL).1] at hx
  exact expl_all (f := pf d e) (Q := fun x => x = stP ∨ okS d e x) (fun y hy t ht => .inr (pf_ok hd he hk hy t ht)) 300 0 [stP] (by simp) x hx
omit hd he hk in
theorem prd_nodup : L.Nodup := by
  rw [← (explO_some hL).1]; exact expl_nodup 300 0 [stP] (by simp)
omit hd he hk in
theorem prd_closed : ∀ s ∈ L, ∀ t ∈ pf d e s, t ∈ L := by
  have h1 := (explO_some hL).1
  have h2 := prdR_len hL
  intro s hs t ht
  have := expl_closed (f := pf d e) 300 0 [stP] (fun i hi => by omega) (by rw [h1]; omega) s (by rw [h1]; exact hs) t ht
  rwa [h1] at this
omit hd he hk in
theorem prd_zero' : L[0]? = some stP := by
  obtain ⟨r, h⟩ := expl_prefix (f := pf d e) 300 0 [stP]
  rw [← (explO_some hL).1, h]; rfl

include hn hnk in
theorem prd_right : rightS (prdM cn names d e L) = true := by
  obtain ⟨k1, k2, k3, k4⟩ := tracksS_parts (rightS_parts hd).1
  have hl := prdR_len hL
  have hpos : 0 < L.length := (List.getElem?_eq_some_iff.1 (prd_zero' hL)).1
  have ha : (prdM cn names d e L).accept.length = L.length := by simp [prdM]
  rw [rightS, show (prdM cn names d e L).tracks = names from rfl, ha, tracksS_mk (by omega) hn (by omega) (by omega), decide_eq_true (by simp [prdM] : (prdM cn names d e L).next.length = L.length)]
  simp only [Bool.true_and, List.all_eq_true]
  intro r hr
  simp only [prdM, List.mem_map] at hr
  obtain ⟨q, hq, rfl⟩ := hr
  rw [rowOk, decide_eq_true (by rw [rowX, List.length_map, pf_length, hnk]), Bool.true_and, List.all_eq_true]
  intro x hx
  rw [rowX_ix] at hx
  obtain ⟨t, ht, rfl⟩ := List.mem_map.1 hx
  obtain ⟨this, _⟩ := ix_lt (prd_closed hL q hq t ht)
  simp
  omega

omit hd he hk in
theorem prd_step {i a : Nat} (hi : i < L.length) (ha : a < 2 ^ d.tracks.length) :
    ∃ h : stepN (prdM cn names d e L).rows i a < L.length, L[stepN (prdM cn names d e L).rows i a] = ((stepN d.rows (pst L[i]).1.toNat a : Int), (stepN e.rows (pst L[i]).2.toNat a : Int)) := by
  have hg := pf_get (d := d) (e := e) (p := L[i]) ha
  have hm := prd_closed hL _ (List.getElem_mem hi) _ (List.mem_of_getElem? hg)
  obtain ⟨hlt, hix⟩ := ix_lt hm
  have e1 : (prdM cn names d e L).rows.getD i [] = rowX (pf d e) L L[i] := by
    simp [prdM, Den.rows, List.getD_eq_getElem?_getD, hi]
  have e : stepN (prdM cn names d e L).rows i a = ixOf L ((stepN d.rows (pst L[i]).1.toNat a : Int), (stepN e.rows (pst L[i]).2.toNat a : Int)) := by
    rw [stepN, e1, rowX_ix, List.getD_eq_getElem?_getD, List.getElem?_map, hg]; rfl
  refine ⟨by rw [e]; exact hlt, ?_⟩
  simp only [e]
  exact hix
omit hd he hk in
theorem prd_run : ∀ (w : List Nat) {i : Nat} (hi : i < L.length), Lets d.tracks.length w →
    ∃ h : runN (prdM cn names d e L).rows i w < L.length, w ≠ [] → L[runN (prdM cn names d e L).rows i w] = ((runN d.rows (pst L[i]).1.toNat w : Int), (runN e.rows (pst L[i]).2.toNat w : Int))
  | [], i, hi, _ => ⟨hi, fun h => absurd rfl h⟩
  | a :: w, i, hi, hw => by
    obtain ⟨h1, h2⟩ := prd_step (cn := cn) (names := names) hL hi (hw a (by simp))
    obtain ⟨h3, h4⟩ := prd_run w h1 fun b hb => hw b (by simp [hb])
    refine ⟨h3, fun _ => ?_⟩
    show L[runN (prdM cn names d e L).rows (stepN (prdM cn names d e L).rows i a) w] = ((runN d.rows (stepN d.rows (pst L[i]).1.toNat a) w : Int), (runN e.rows (stepN e.rows (pst L[i]).2.toNat a) w : Int))
    have hp : pst ((stepN d.rows (pst L[i]).1.toNat a : Int), (stepN e.rows (pst L[i]).2.toNat a : Int)) = ((stepN d.rows (pst L[i]).1.toNat a : Int), (stepN e.rows (pst L[i]).2.toNat a : Int)) := by
      rw [pst, if_neg]; simp
    cases w with
    | nil => exact h2
    | cons b w =>
      have := h4 (by simp)
      rw [h2, hp] at this
      exact this
omit hd he in
include hnk in
theorem prd_lang : lang (prdM cn names d e L) = prodL cn d.tracks.length (lang d) (lang e) := by
  obtain ⟨hz, ez⟩ := List.getElem?_eq_some_iff.1 (prd_zero' hL)
  funext w
  rw [lang, langR, prodL, show (prdM cn names d e L).tracks = names from rfl, hnk]
  cases hw : letB d.tracks.length w with
  | false => rfl
  | true =>
    have hw := letB_iff.1 hw
    rw [Bool.true_and, Bool.true_and]
    obtain ⟨h1, h2⟩ := prd_run (cn := cn) (names := names) hL w hz hw
    have ea : accN (prdM cn names d e L).accept (runN (prdM cn names d e L).rows 0 w) = accP cn d e L[runN (prdM cn names d e L).rows 0 w] := by
      generalize runN (prdM cn names d e L).rows 0 w = i at *
      simp [accN, prdM, List.getD_eq_getElem?_getD, List.getElem?_map, h1]
    rw [ea]
    cases w with
    | nil =>
      have : L[runN (prdM cn names d e L).rows 0 []] = stP := ez
      rw [this]; rfl
    | cons a w =>
      rw [h2 (by simp), ez]
      rw [accP, if_neg (by simp)]
      show cn (accN d.accept (runN d.rows 0 (a :: w))) (accN e.accept (runN e.rows 0 (a :: w))) = (!false && cn (lang d (a :: w)) (lang e (a :: w)))
      rw [lang, lang, langR_let hw, langR_let (by rw [← hk]; exact hw)]; rfl
end

theorem prodL_sound {cn k K J} (hK : SoundL k K) (hJ : SoundL k J) : SoundL k (prodL cn k K J) := by
  refine ⟨by simp [prodL], fun w a hw ha => ?_⟩
  have l1 : letB k (w ++ [a]) = true := letB_iff.2 fun b hb => by
    rcases List.mem_append.1 hb with h | h
    · exact hw b h
    · simp at h; omega
  have l2 : letB k (w ++ [a, a]) = true := letB_iff.2 fun b hb => by
    rcases List.mem_append.1 hb with h | h
    · exact hw b h
    · simp at h; omega
  rw [prodL, prodL, l1, l2, hK.2 w a hw ha, hJ.2 w a hw ha]
  cases w <;> simp

/-! ### Not -/

theorem notE_ok {d : Den} (h : notE d = 0) : rightS d = true ∧ ∃ L, prdR d d = some L ∧ notV d = prdM notS d.tracks d d L := by
  have hr : rightS d = true := by
    cases hr : rightS d with
    | true => rfl
    | false => rw [notE, hr] at h; simp at h
  have h' := h
  rw [notE, if_pos hr] at h'
  obtain ⟨L, hL⟩ := prd_zero h'
  exact ⟨hr, L, hL, notV_ok h hL⟩
theorem notE_right {d : Den} (hr : rightS d = true) (h : notE d ≠ 0) : notE d = 140 := by
  rw [notE, if_pos hr] at h ⊢
  cases hR : prdR d d with
  | some L => exact absurd (prd_some (cn := notS) (names := []) hR).2 h
  | none => exact (prd_none (cn := notS) (names := []) hR).2
theorem not_right {d : Den} (h : notE d = 0) : rightS (notV d) = true ∧ (notV d).tracks = d.tracks ∧ lang (notV d) = prodL notS d.tracks.length (lang d) (lang d) := by
  obtain ⟨hr, L, hL, e⟩ := notE_ok h
  obtain ⟨_, h2, _, _⟩ := tracksS_parts (rightS_parts hr).1
  rw [e]
  exact ⟨prd_right hr hr rfl h2 rfl hL, rfl, prd_lang rfl rfl hL⟩
theorem lang_false {d : Den} {w : List Nat} (h : ¬ Lets d.tracks.length w) : lang d w = false := by
  cases e : letB d.tracks.length w with
  | false => rw [lang, langR, e]; rfl
  | true => exact absurd (letB_iff.1 e) h
theorem lang_nil (d : Den) : lang d [] = accN d.accept 0 := by rw [lang, langR_let (fun a ha => absurd ha (by simp))]; rfl
theorem notL_notL {d : Den} (h : lang d [] = false) : prodL notS d.tracks.length (prodL notS d.tracks.length (lang d) (lang d)) (prodL notS d.tracks.length (lang d) (lang d)) = lang d := by
  funext w
  cases w with
  | nil => rw [h]; rfl
  | cons a w =>
    simp only [prodL, notS]
    cases e : letB d.tracks.length (a :: w) with
    | false => rw [lang_false (fun k => by rw [letB_iff.2 k] at e; simp at e)]; rfl
    | true => simp

theorem not_sound {d : Den} (h : notE d = 0) (hs : soundD d = true) : soundD (notV d) = true := by
  obtain ⟨hr, _⟩ := notE_ok h
  obtain ⟨h1, h2, h3⟩ := not_right h
  rw [soundD_iff hr] at hs
  rw [soundD_iff h1, h2, h3]
  exact prodL_sound hs hs
theorem not_nil {d : Den} (h : notE d = 0) : ∃ l, (notV d).accept = false :: l := by
  obtain ⟨hr, L, hL, e⟩ := notE_ok h
  obtain ⟨r, hr⟩ := expl_prefix (f := pf d d) 300 0 [stP]
  rw [(explO_some hL).1] at hr
  rw [e, prdM, hr]
  exact ⟨_, rfl⟩
theorem not_takes {d : Den} (h : notE d = 0) {w : List Nat} (hw : Lets d.tracks.length w) (hne : w ≠ []) : lang (notV d) w = !lang d w := by
  obtain ⟨_, _, h3⟩ := not_right h
  rw [h3, prodL, letB_iff.2 hw]
  cases w with
  | nil => exact absurd rfl hne
  | cons a w => simp [notS]
theorem lang_copy (d : Den) : lang (copyD d) = lang d := by
  funext w
  rw [lang, lang, langR, langR, copyD_rows]; rfl
theorem not_not {d : Den} (h : notE d = 0) (h2 : notE (notV d) = 0) (hn : lang d [] = false) : sameD (minD (copyD d)) (minD (notV (notV d))) = true := by
  obtain ⟨hr, _⟩ := notE_ok h
  obtain ⟨a1, a2, a3⟩ := not_right h
  obtain ⟨b1, b2, b3⟩ := not_right h2
  refine minD_same (by rw [copyD_right]; exact hr) b1 (by rw [b2, a2]; rfl) ?_
  rw [lang_copy, b3, a2, a3]
  exact (notL_notL hn).symm

end Tab

/- Layer 16: the law ProdJoins. -/
namespace Tab
open Go Go.Proofs
set_option maxRecDepth 10000
set_option linter.unusedVariables false
set_option linter.unusedSimpArgs false
set_option linter.unusedSectionVars false

theorem unN_copy (d e : Den) : unN (copyD d) (copyD e) = unN d e := rfl
theorem widenD_copy (d : Den) (names) : widenD (copyD d) names = widenD d names := by
  rw [widenD, widenD, copyD_rows]; rfl
theorem joinV_copy (op : Int) (d e : Den) : joinV op (copyD d) (copyD e) = joinV op d e ∧ joinE op (copyD d) (copyD e) = joinE op d e := by
  constructor
  · rw [joinV, joinV, copyD_right, copyD_right, unN_copy, widenD_copy, widenD_copy]
  · rw [joinE, joinE, copyD_right, copyD_right, unN_copy, widenD_copy, widenD_copy]

set_option maxHeartbeats 1000000 in
theorem law_ProdJoins (op : Int) (d e : Den) (hd : DenOk d) (he : DenOk e) : Pure Try.prog 5 [.int .i64 op, aDen d, aDen e] (.bool true) := by
  have hcd := r12_CopyDense d hd
  have hce := r12_CopyDense e he
  have hsd := r12_SameDense (copyD d) d (copyD_ok hd) hd
  have hse := r12_SameDense (copyD e) e (copyD_ok he) he
  rw [copyD_same] at hsd hse
  have hnt := prod_Join op (copyD d) (copyD e) (copyD_ok hd) (copyD_ok he)
  obtain ⟨c1, c2⟩ := joinV_copy op d e
  rw [c2, unN_copy, widenD_copy, widenD_copy] at hnt
  have hnr := r16_Join op d e hd he
  have hok := joinV_den (op := op) hd he
  have hww := r12_SameDense (joinV op d e) (joinV op d e) hok hok
  rw [sameD_refl] at hww
  have hvb := fun h => joinV_bad (op := op) (d := d) (e := e) h
  have hvo := fun L h hL => joinV_ok (op := op) (d := d) (e := e) (L := L) h hL
  generalize copyD d = a at *
  generalize copyD e = b at *
  have hcl : closeds [.int .i64 op, aDen a, aDen b] := by simp [closeds, aDen_closed, AV.closed]
  refine Pure.of_sw 66 Try.func5 rfl Try.ntmps5 (by kernel_rfl) (Nat.le_of_ble_eq_true (by kernel_rfl)) (by simp [closeds, AV.closed, aSs_closed, aIs_closed, aBs_closed, aRs_closed, aDen_closed]) (by simp [AV.closed, closeds, aSs_closed, aIs_closed, aBs_closed, aRs_closed, aDen_closed]) ?_; refine SW.of_vc ?_
  repeat first | refine opsStep ?_ | refine codeStep ?_ | refine drawStep ?_
  refine SW.drawn rfl (by kernel_rfl) ?_
  repeat first | refine opsStep ?_ | refine codeStep ?_ | refine drawStep ?_
  refine .inl ⟨_, _, [], hcd, RdsN_refl _, .inr rfl, none_need, ?_⟩
  repeat first | refine opsStep ?_ | refine codeStep ?_ | refine drawStep ?_
  refine .inl ⟨_, _, [], hce, RdsN_refl _, .inr rfl, none_need, ?_⟩
  repeat first | refine opsStep ?_ | refine codeStep ?_ | refine drawStep ?_
  refine ⟨by kernel_rfl, ?_⟩
  refine VCode.ent (Ent.fr' (l := [(0, .int .i64 op), (4, .ref 0 0 0), (5, .ref 1 0 0), (7, .ref 2 0 0), (8, .ref 3 0 0)]) (H' := [Blk.cells 0 d.cells, .cells 0 e.cells, .cells 0 a.cells, .cells 0 b.cells]) ⟨(by kernel_rfl), (by kernel_rfl), (by kernel_rfl), (by kernel_rfl), (by kernel_rfl), trivial⟩ (by kernel_rfl)) ?_
  repeat first | refine opsStep ?_ | refine codeStep ?_ | refine drawStep ?_
  refine callS hcl hnt (fun X h => by rcases h with ⟨_, h, _⟩ | ⟨_, _, L, _, h, _⟩ <;> cases h) ?_
  rintro v X (⟨hne, hv, rfl⟩ | ⟨h0, h6, L, hL, hv, rfl⟩)
  · have hv := Out.ret.inj hv
    subst hv
    rw [hvb hne] at hnr hww
    iterate 7 refine opsStep ?_
    refine VCode.ent (Ent.fr' (l := [(0, .int .i64 op), (4, .ref 0 0 0), (5, .ref 1 0 0), (7, .ref 2 0 0), (8, .ref 3 0 0), (9, .ref 4 0 0), (10, .int .i64 (joinE op d e))]) (H' := [Blk.cells 0 d.cells, .cells 0 e.cells, .cells 0 a.cells, .cells 0 b.cells] ++ [.cells 0 den0.cells]) ⟨(by kernel_rfl), (by kernel_rfl), (by kernel_rfl), (by kernel_rfl), (by kernel_rfl), (by kernel_rfl), (by kernel_rfl), trivial⟩ (by kernel_rfl)) ?_
    repeat first | refine opsStep ?_ | refine codeStep ?_ | refine drawStep ?_
    refine callP hnr ?_
    iterate 7 refine opsStep ?_
    refine VCode.ent (Ent.fr' (l := [(4, .ref 0 0 0), (5, .ref 1 0 0), (7, .ref 2 0 0), (8, .ref 3 0 0), (9, .ref 4 0 0), (10, .int .i64 (joinE op d e)), (11, .ref 5 0 0), (12, .int .i64 (joinE op d e))]) (H' := [Blk.cells 0 d.cells, .cells 0 e.cells, .cells 0 a.cells, .cells 0 b.cells] ++ [.cells 0 den0.cells, .cells 0 den0.cells]) ⟨(by kernel_rfl), (by kernel_rfl), (by kernel_rfl), (by kernel_rfl), (by kernel_rfl), (by kernel_rfl), (by kernel_rfl), (by kernel_rfl), trivial⟩ (by kernel_rfl)) ?_
    repeat first | refine opsStep ?_ | refine codeStep ?_ | refine drawStep ?_
    refine callP law16_fixed ?_
    repeat first | refine opsStep ?_ | refine codeStep ?_ | refine drawStep ?_
    refine decB_split (fun h => ?_) (fun h => ?_)
    · exact (of_decide_eq_true h rfl).elim
    repeat first | refine opsStep ?_ | refine codeStep ?_ | refine drawStep ?_
    refine callP hww ?_
    repeat first | refine opsStep ?_ | refine codeStep ?_ | refine drawStep ?_
    refine callP hsd ?_
    repeat first | refine opsStep ?_ | refine codeStep ?_ | refine drawStep ?_
    refine callP hse ?_
    repeat first | refine opsStep ?_ | refine codeStep ?_ | refine drawStep ?_
    refine callP law16_spoil0 ?_
    repeat first | refine opsStep ?_ | refine codeStep ?_ | refine drawStep ?_
    refine callP hsd ?_
    repeat first | refine opsStep ?_ | refine codeStep ?_ | refine drawStep ?_
    refine callP hse ?_
    repeat first | refine opsStep ?_ | refine codeStep ?_ | refine drawStep ?_
    exact finB (b' := true) (by kernel_rfl) rfl
  · have hv := Out.ret.inj hv
    subst hv
    iterate 4 refine opsStep ?_
    refine opsStep ?_
    refine optE_of (get_last _ _) ?_
    refine guardE_of rfl ?_
    refine opsStep ?_
    refine opsStep ?_
    rw [hvo L h0 hL] at hnr hww
    obtain ⟨f1, f2, _⟩ := joinE_ok h0
    generalize unN d e = names at *
    obtain ⟨wd, hwd⟩ : ∃ wd, widenD d names = wd := ⟨_, rfl⟩
    obtain ⟨we, hwe⟩ : ∃ we, widenD e names = we := ⟨_, rfl⟩
    have hwt : wd.tracks = names := by rw [← hwd]; rfl
    rw [hwd, hwe] at hL hnr hww ⊢
    obtain ⟨acc, hacc⟩ : ∃ acc, L.map (accP (holdsS op) wd we) = acc := ⟨_, rfl⟩
    obtain ⟨rows, hrows⟩ : ∃ rows, L.map (rowX (pf wd we) L) = rows := ⟨_, rfl⟩
    obtain ⟨K, hK⟩ : ∃ K, 2 ^ names.length = K := ⟨_, rfl⟩
    obtain ⟨M, hM⟩ : ∃ M, L.length = M := ⟨_, rfl⟩
    obtain ⟨N, hN⟩ : ∃ N, names.length = N := ⟨_, rfl⟩
    have hal : acc.length = M := by rw [← hacc, List.length_map]; exact hM
    have hrl : rows.length = M := by rw [← hrows, List.length_map]; exact hM
    have hrk : ∀ r ∈ rows, r.length = K := fun r hr => by
      rw [← hrows] at hr
      obtain ⟨p, _, rfl⟩ := List.mem_map.1 hr
      rw [← hK]; simp [rowX, pf_length, hwt]
    have hprd : prdM (holdsS op) names wd we L = ⟨.any, names, .any, acc, .any, rows.map fun r => (.any, r)⟩ := by rw [← hacc, ← hrows, List.map_map]; rfl
    rw [hacc, hrows, hK]
    rw [h0] at hnr
    have hA : ([Blk.cells 0 d.cells, .cells 0 e.cells, .cells 0 a.cells, .cells 0 b.cells] ++ (ndH names acc rows K).map (Blk.sh 4)) = [Blk.cells 0 d.cells, .cells 0 e.cells, .cells 0 a.cells, .cells 0 b.cells] ++ (ndB names acc M K (7) ++ pmRows rows) := by rw [ndH_sh, hrl]
    have hAl : ([Blk.cells 0 d.cells, .cells 0 e.cells, .cells 0 a.cells, .cells 0 b.cells] ++ (ndH names acc rows K).map (Blk.sh 4)).length = 4 + (M + 3) := by rw [hA]; simp [ndB_length, pmRows, hrl]; omega
    refine VCode.ent (s' := fr [(0, .int .i64 op), (4, .ref 0 0 0), (5, .ref 1 0 0), (7, .ref 2 0 0), (8, .ref 3 0 0), (9, .ref 4 0 0), (10, .int .i64 0)]) (H' := [Blk.cells 0 d.cells, .cells 0 e.cells, .cells 0 a.cells, .cells 0 b.cells] ++ (Blk.cells 0 [.hs (5) 0 0 N 1, .hs (5 + 1) M 0 M 1, .hs (5 + 2) M 0 M 1]) :: (ndB names acc M K (8) ++ pmRows rows)) ?_ ?_
    · refine (Ent.fr' (l := [(0, .int .i64 op), (4, .ref 0 0 0), (5, .ref 1 0 0), (7, .ref 2 0 0), (8, .ref 3 0 0), (9, .ref ([Blk.cells 0 d.cells, .cells 0 e.cells, .cells 0 a.cells, .cells 0 b.cells] ++ (ndH names acc rows K).map (Blk.sh 4)).length 0 0), (10, .int .i64 0)])
        (H' := ([Blk.cells 0 d.cells, .cells 0 e.cells, .cells 0 a.cells, .cells 0 b.cells] ++ (ndH names acc rows K).map (Blk.sh 4)) ++ [.cells 0 [.hs 4 0 0 N 1, .hs 5 M 0 M 1, .hs 6 M 0 M 1]]) ⟨(by kernel_rfl), (by kernel_rfl), (by kernel_rfl), (by kernel_rfl), (by kernel_rfl), (by kernel_rfl), (by kernel_rfl), trivial⟩ ?_).trans ?_
      · refine Eq.trans (b := (([Blk.cells 0 d.cells, .cells 0 e.cells, .cells 0 a.cells, .cells 0 b.cells] ++ (ndH names acc rows K).map (Blk.sh 4)) ++ [Blk.cells 0 den0.cells]).set ([Blk.cells 0 d.cells, .cells 0 e.cells, .cells 0 a.cells, .cells 0 b.cells] ++ (ndH names acc rows K).map (Blk.sh 4)).length (Blk.cells 0 (over den0.cells 0 [.hs 4 0 0 names.length 1, .hs 5 L.length 0 L.length 1, .hs 6 L.length 0 L.length 1]))) (by kernel_rfl) ?_
        rw [set_last, hM, hN]
        rfl
      · refine Ent.ndIn [Blk.cells 0 d.cells, .cells 0 e.cells, .cells 0 a.cells, .cells 0 b.cells] (Blk.cells 0 [.hs (5) 0 0 N 1, .hs (5 + 1) M 0 M 1, .hs (5 + 2) M 0 M 1]) (b := 4) rfl (Nat.zero_le _) hrl ?_ ?_ ?_ ?_ ?_
        · refine ⟨rfl, rfl, rfl, rfl, rfl, ?_, rfl, trivial⟩
          rw [hAl]
          show AV.ref (4 + (M + 3)) 0 0 = AV.ref (insF 4 (M + 3) 4) 0 0
          simp [insF]; omega
        · rw [hA]
          simp [Blk.rn, den_rn, rns, AV.rn, insF]
        · simp [frBel, AV.bel]; omega
        · simp [blksBel, Blk.bel, cells_bel]
        · simp [Blk.bel, bels, AV.bel]; omega
    repeat first | refine opsStep ?_ | refine codeStep ?_ | refine drawStep ?_
    refine callP hnr ?_
    iterate 4 refine opsStep ?_
    refine opsStep ?_
    refine optE_of (get_last _ _) ?_
    refine guardE_of rfl ?_
    iterate 2 refine opsStep ?_
    obtain ⟨W, hWd⟩ : ∃ W, prdM (holdsS op) names wd we L = W := ⟨_, rfl⟩
    rw [hWd] at hnr hww hprd
    have hBl : ([Blk.cells 0 d.cells, .cells 0 e.cells, .cells 0 a.cells, .cells 0 b.cells] ++ (Blk.cells 0 [.hs (5) 0 0 N 1, .hs (5 + 1) M 0 M 1, .hs (5 + 2) M 0 M 1]) :: (ndB names acc M K (8) ++ pmRows rows)).length = 5 + (M + 3) := by simp [ndB_length, pmRows, hrl]; omega
    refine VCode.ent (s' := fr [(4, .ref 0 0 0), (5, .ref 1 0 0), (7, .ref 2 0 0), (8, .ref 3 0 0), (9, .ref 4 0 0), (10, .int .i64 0), (11, .ref 5 0 0), (12, .int .i64 0)]) (H' := ([Blk.cells 0 d.cells, .cells 0 e.cells, .cells 0 a.cells, .cells 0 b.cells] ++ [(Blk.cells 0 [.hs (6) 0 0 N 1, .hs (6 + 1) M 0 M 1, .hs (6 + 2) M 0 M 1])]) ++ .cells 0 W.cells :: (ndB names acc M K (9) ++ pmRows rows)) ?_ ?_
    · refine (Ent.fr' (l := [(4, .ref 0 0 0), (5, .ref 1 0 0), (7, .ref 2 0 0), (8, .ref 3 0 0), (9, .ref 4 0 0), (10, .int .i64 0), (11, .ref ([Blk.cells 0 d.cells, .cells 0 e.cells, .cells 0 a.cells, .cells 0 b.cells] ++ (Blk.cells 0 [.hs (5) 0 0 N 1, .hs (5 + 1) M 0 M 1, .hs (5 + 2) M 0 M 1]) :: (ndB names acc M K (8) ++ pmRows rows)).length 0 0), (12, .int .i64 0)])
        (H' := ([Blk.cells 0 d.cells, .cells 0 e.cells, .cells 0 a.cells, .cells 0 b.cells] ++ (Blk.cells 0 [.hs (5) 0 0 N 1, .hs (5 + 1) M 0 M 1, .hs (5 + 2) M 0 M 1]) :: (ndB names acc M K (8) ++ pmRows rows)) ++ [.cells 0 W.cells]) ⟨(by kernel_rfl), (by kernel_rfl), (by kernel_rfl), (by kernel_rfl), (by kernel_rfl), (by kernel_rfl), (by kernel_rfl), (by kernel_rfl), trivial⟩ ?_).trans ?_
      · subst hWd
        refine Eq.trans (b := (([Blk.cells 0 d.cells, .cells 0 e.cells, .cells 0 a.cells, .cells 0 b.cells] ++ (Blk.cells 0 [.hs (5) 0 0 N 1, .hs (5 + 1) M 0 M 1, .hs (5 + 2) M 0 M 1]) :: (ndB names acc M K (8) ++ pmRows rows)) ++ [Blk.cells 0 den0.cells]).set ([Blk.cells 0 d.cells, .cells 0 e.cells, .cells 0 a.cells, .cells 0 b.cells] ++ (Blk.cells 0 [.hs (5) 0 0 N 1, .hs (5 + 1) M 0 M 1, .hs (5 + 2) M 0 M 1]) :: (ndB names acc M K (8) ++ pmRows rows)).length (Blk.cells 0 (over den0.cells 0 (prdM (holdsS op) names wd we L).cells))) (by kernel_rfl) ?_
        rw [set_last]
        rfl
      · refine Ent.ndIn ([Blk.cells 0 d.cells, .cells 0 e.cells, .cells 0 a.cells, .cells 0 b.cells] ++ [(Blk.cells 0 [.hs (6) 0 0 N 1, .hs (6 + 1) M 0 M 1, .hs (6 + 2) M 0 M 1])]) (.cells 0 W.cells) (b := 5) rfl (Nat.zero_le _) hrl ?_ ?_ ?_ ?_ ?_
        · refine ⟨rfl, rfl, rfl, rfl, rfl, rfl, ?_, rfl, trivial⟩
          rw [hBl]
          show AV.ref (5 + (M + 3)) 0 0 = AV.ref (insF 5 (M + 3) 5) 0 0
          simp [insF]; omega
        · simp [Blk.rn, den_rn, rns, AV.rn, insF]
        · simp [frBel, AV.bel]; omega
        · simp [blksBel, Blk.bel, cells_bel, bels, AV.bel]; omega
        · exact cells_bel _ _
    repeat first | refine opsStep ?_ | refine codeStep ?_ | refine drawStep ?_
    refine callP law16_fixed ?_
    repeat first | refine opsStep ?_ | refine codeStep ?_ | refine drawStep ?_
    refine callB hww rfl (.cons ?_ (.cons (.refl _) .nil)) ?_
    · show Rd (([Blk.cells 0 d.cells, .cells 0 e.cells, .cells 0 a.cells, .cells 0 b.cells] ++ [(Blk.cells 0 [.hs (6) 0 0 N 1, .hs (6 + 1) M 0 M 1, .hs (6 + 2) M 0 M 1])]) ++ .cells 0 W.cells :: (ndB names acc M K (9) ++ pmRows rows)) (.agg [.hs 6 0 0 N 1, .hs 7 M 0 M 1, .hs 8 M 0 M 1]) (aDen W)
      rw [hprd]
      refine rd_nd (b := 6) (fun i x hx => ?_) hN.symm hal hrl hrk
      rw [← hx, show ∀ a b c d e f : Blk, ∀ l, ([a, b, c, d] ++ [e]) ++ f :: l = [a, b, c, d, e, f] ++ l from fun _ _ _ _ _ _ _ => rfl, List.getElem?_append_right (by simp)]
      congr 1; simp
    repeat first | refine opsStep ?_ | refine codeStep ?_ | refine drawStep ?_
    refine callP hsd ?_
    repeat first | refine opsStep ?_ | refine codeStep ?_ | refine drawStep ?_
    refine callP hse ?_
    repeat first | refine opsStep ?_ | refine codeStep ?_ | refine drawStep ?_
    have hM256 : M ≤ 256 := by rw [← hM]; exact prdR_len hL
    have hK64 : K ≤ 64 := by rw [← hK]; have : 2 ^ names.length ≤ 2 ^ 6 := Nat.pow_le_pow_right (by omega) h6; omega
    refine callNd (([Blk.cells 0 d.cells, .cells 0 e.cells, .cells 0 a.cells, .cells 0 b.cells] ++ [(Blk.cells 0 [.hs (6) 0 0 N 1, .hs (6 + 1) M 0 M 1, .hs (6 + 2) M 0 M 1])]) ++ [.cells 0 W.cells]) (b := 6) rfl hrl (law16_spoil names acc rows N M K hN hal hrl hrk (by omega) hM256 hK64) (by simp [AV.closed, closeds]) (fun Y => ?_)
    iterate 1 refine opsStep ?_
    refine VCode.ent (s' := fr [(4, .ref 0 0 0), (5, .ref 1 0 0), (7, .ref 2 0 0), (8, .ref 3 0 0)]) (H' := [Blk.cells 0 d.cells, .cells 0 e.cells, .cells 0 a.cells, .cells 0 b.cells]) ?_ ?_
    · refine Ent.pick [0, 1, 2, 3] (by simp) ?_ (fun b hb => absurd hb (Nat.not_lt_zero _)) _ _ rfl (frOk_rn ⟨rfl, rfl, rfl, rfl, trivial⟩) ?_ (by simp [frBel, AV.bel]) (by simp [blksBel, Blk.bel, cells_bel])
      · intro b hb
        simp only [List.mem_cons, List.not_mem_nil, or_false] at hb
        rw [List.length_append]
        show b < 6 + Y.length
        omega
      · intro i x b hx hb
        match i with
        | 0 => simp at hx hb; subst hx; subst hb; simp [Blk.rn, den_rn]
        | 1 => simp at hx hb; subst hx; subst hb; simp [Blk.rn, den_rn]
        | 2 => simp at hx hb; subst hx; subst hb; simp [Blk.rn, den_rn]
        | 3 => simp at hx hb; subst hx; subst hb; simp [Blk.rn, den_rn]
        | i + 4 => simp at hx
    repeat first | refine opsStep ?_ | refine codeStep ?_ | refine drawStep ?_
    refine callP hsd ?_
    repeat first | refine opsStep ?_ | refine codeStep ?_ | refine drawStep ?_
    refine callP hse ?_
    repeat first | refine opsStep ?_ | refine codeStep ?_ | refine drawStep ?_
    exact finB (b' := true) (by kernel_rfl) rfl

end Tab
