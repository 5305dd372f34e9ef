/- Lemmas for this claim: part 10. No condition. -/
import Derived.Test.YtbglkpnchafdpaaZ0
import Derived.Test.YtbglkpnchafdpaaZ8
import Derived.Test.YtbglkpnchafdpaaZ9
import Derived.DeepKeys4
/- Pairs of numbers, numbered as they are met. -/
namespace Tab
open Go Go.Proofs
set_option maxRecDepth 10000
set_option linter.unusedVariables false
set_option linter.unusedSimpArgs false
set_option linter.unusedSectionVars false

def pv2 (p : Int × Int) : Value := .agg #[.int .i64 p.1, .int .i64 p.2]
theorem pv2_inj {p q : Int × Int} (h : pv2 p = pv2 q) : p = q := by
  obtain ⟨a, b⟩ := p
  obtain ⟨c, d⟩ := q
  simp only [pv2, Value.agg.injEq, Array.mk.injEq, List.cons.injEq, Value.int.injEq, true_and, and_true] at h
  simp [h.1, h.2]
def ok2 (p : Int × Int) : Prop := (-(2^63) ≤ p.1 ∧ p.1 < 2^63) ∧ (-(2^63) ≤ p.2 ∧ p.2 < 2^63)
theorem mapPI : NumMap Try.prog 114 80 3 where
  map := (by kernel_rfl)
  law := Maps.Keyed.of_law (deep_law_laid ((by kernel_rfl) : laidOutB Try.prog = true) (m := 2) (by decide) (of_decide_eq_true (by kernel_rfl)) (by kernel_rfl) (by kernel_rfl))
  zero := mapII.zero
theorem keyP {p : Int × Int} (h : ok2 p) : ∃ l, keyOf Try.prog 80 (pv2 p) = some l := by
  have hu : Try.prog.underlying 80 = some (.array 2 3) := (by kernel_rfl)
  obtain ⟨a, b⟩ := p
  unfold keyOf
  rw [hu]
  have hi : Try.prog.underlying 3 = some (.int .i64) := (by kernel_rfl)
  have hc : Try.prog.cellsOf 80 = 2 := (by kernel_rfl)
  have hc1 : Try.prog.cellsOf 3 = 1 := (by kernel_rfl)
  have hw : ∀ x : Int, (-(2^63) ≤ x ∧ x < 2^63) → (Lit.int .i64 x).wf = true := fun x h => by
    simp only [Lit.wf, Bool.and_eq_true, decide_eq_true_eq, show IntKind.i64.min = -9223372036854775808 from rfl, show IntKind.i64.max = 9223372036854775807 from rfl]
    omega
  have e1 : ∀ (n : Nat) (x : Int), (-(2^63) ≤ x ∧ x < 2^63) → Try.prog.keyLits (n + 1) 3 [.int .i64 x] = some [.int .i64 x] := fun n x h => by
    unfold Program.keyLits
    rw [hi]
    exact if_pos ⟨rfl, hw x h⟩
  have e2 : ∀ n : Nat, Try.prog.keyLits (n + 2) 80 [.int .i64 a, .int .i64 b] = some [.int .i64 a, .int .i64 b] := fun n => by
    unfold Program.keyLits
    rw [hu]
    simp only
    rw [if_pos (by rw [hc]; rfl), hc1]
    simp [List.range_succ, e1 n a h.1, e1 n b h.2]
  obtain ⟨n, hn⟩ : ∃ n, Try.prog.types.size = n + 1 := ⟨Try.prog.types.size - 1, by have : 0 < Try.prog.types.size := (Nat.le_of_ble_eq_true (by kernel_rfl)); omega⟩
  refine ⟨.string (keyBytes [.int .i64 a, .int .i64 b]), ?_⟩
  show (if (Try.prog.keyType 80 && Value.formed Try.prog 80 (pv2 (a, b))) = true then Option.map (fun ls => Lit.string (keyBytes ls)) (Try.prog.keyLits (Try.prog.types.size + 1) 80 (pv2 (a, b)).cells.toList) else none) = _
  rw [if_pos (by kernel_rfl), hn]
  rw [show (pv2 (a, b)).cells.toList = [.int .i64 a, .int .i64 b] from rfl, e2 n]
  rfl

/-- What the closure answers: the number of a pair; and the pairs that are met then. -/
def met2 (L : List (Int × Int)) (p : Int × Int) : List (Int × Int) := if p ∈ L then L else L ++ [p]
theorem canon_split1 (a b : Int) (L : List (Int × Int)) (d : Den) (x3 : List Int) (hL : L.Nodup) (hl : L.length < 2^40) (hok : ∀ p ∈ L, ok2 p) (hp : ok2 (a, b)) :
    ACall Try.prog 98 [.int .i64 a, .int .i64 b, .ref 2 0 0] [.cells 0 d.cells, .dict (dI (L.map pv2)), .cells 0 [.mp 1], .cells 0 (x3.map (.int .i64))]
      fun o H' => o = .ret (.int .i64 ((met2 L (a, b)).idxOf (a, b) : Nat)) ∧ H' = [.cells 0 d.cells, .dict (dI ((met2 L (a, b)).map pv2)), .cells 0 [.mp 1], .cells 0 (x3.map (.int .i64))] := by
  have hn2 : (L.map pv2).Nodup := List.Pairwise.map _ (fun p q h e => h (pv2_inj e)) hL
  have hks : ∀ x ∈ L.map pv2, ∃ q, keyOf Try.prog 80 x = some q := fun x hx => by
    obtain ⟨y, hy, rfl⟩ := List.mem_map.1 hx
    exact keyP (hok y hy)
  obtain ⟨lx, hlx⟩ := keyP hp
  refine ACall.of_sw 26 Try.func98 rfl Try.ntmps98 (by kernel_rfl) (Nat.le_of_ble_eq_true (by kernel_rfl)) ?_; refine SW.of_vc ?_
  repeat first | refine opsStep ?_ | refine codeStep ?_ | refine drawStep ?_
  refine look_num mapPI (kv := pv2 (a, b)) (by kernel_rfl) hlx hn2 hks (fun p hp => ?_) (fun hp => ?_)
  · obtain ⟨q, hq, hqe⟩ : ∃ q, L[p]? = some q ∧ pv2 q = pv2 (a, b) := by
      rw [List.getElem?_map, Option.map_eq_some_iff] at hp; exact hp
    have hqe := pv2_inj hqe
    subst hqe
    have hm := List.mem_of_getElem? hq
    have hix : L.idxOf (a, b) = p := by
      obtain ⟨k1, e1⟩ := List.getElem?_eq_some_iff.1 hq
      have hlt := List.idxOf_lt_length_of_mem hm
      have e2 := List.getElem_idxOf hlt
      rcases Nat.lt_trichotomy (L.idxOf (a, b)) p with k | k | k
      · exact absurd (e2.trans e1.symm) (List.pairwise_iff_getElem.1 hL _ _ hlt k1 k)
      · exact k
      · exact absurd (e1.trans e2.symm) (List.pairwise_iff_getElem.1 hL _ _ k1 hlt k)
    repeat first | refine opsStep ?_ | refine codeStep ?_ | refine drawStep ?_
    refine finR (l := [(5, .int .i64 (p : Nat))]) (v := .int .i64 (p : Nat)) (H₁ := [.cells 0 d.cells, .dict (dI (L.map pv2)), .cells 0 [.mp 1], .cells 0 (x3.map (.int .i64))] ++ [.cells 0 [.int .i64 a, .int .i64 b]]) ⟨(by kernel_rfl), trivial⟩ (by kernel_rfl) (Ent.drop (Nat.le_of_ble_eq_true (by kernel_rfl)) (by first | (simp [frBel, blksBel, Blk.bel, AV.bel, bels, bels_append, bels_map, aSs_bel, aIs_bel, aBs_bel, aRs_bel, aDen_bel, cells_bel]; done) | (simp only [List.drop_zero, ← List.map_take, ← List.map_drop, List.map_map, frBel, blksBel, Blk.bel, AV.bel, bels, bels_append, bels_map, aSs_bel, aIs_bel, aBs_bel, aRs_bel, aDen_bel, cells_bel]; simp [AV.bel, aSs_bel, aIs_bel, aBs_bel, aRs_bel, aDen_bel, cells_bel])) (by first | (simp [frBel, blksBel, Blk.bel, AV.bel, bels, bels_append, bels_map, aSs_bel, aIs_bel, aBs_bel, aRs_bel, aDen_bel, cells_bel]; done) | (simp only [List.drop_zero, ← List.map_take, ← List.map_drop, List.map_map, frBel, blksBel, Blk.bel, AV.bel, bels, bels_append, bels_map, aSs_bel, aIs_bel, aBs_bel, aRs_bel, aDen_bel, cells_bel]; simp [AV.bel, aSs_bel, aIs_bel, aBs_bel, aRs_bel, aDen_bel, cells_bel]))) (by kernel_rfl) ?_
    rw [met2, if_pos hm, hix]
    exact ⟨rfl, rfl⟩
  · have hm : (a, b) ∉ L := fun h => hp (List.mem_map.2 ⟨_, h, rfl⟩)
    repeat first | refine opsStep ?_ | refine codeStep ?_ | refine drawStep ?_
    refine put_num mapPI (kv := pv2 (a, b)) (n := (dI (L.map pv2)).length) (by kernel_rfl) hlx hks hp (dI_length _) ?_
    repeat first | refine opsStep ?_ | refine codeStep ?_ | refine drawStep ?_
    refine finR (l := [(5, .int .i64 ((dI (L.map pv2)).length : Nat))]) (v := .int .i64 ((dI (L.map pv2)).length : Nat)) (H₁ := [.cells 0 d.cells, .dict (dI (L.map pv2 ++ [pv2 (a, b)])), .cells 0 [.mp 1], .cells 0 (x3.map (.int .i64))] ++ [.cells 0 [.int .i64 a, .int .i64 b]]) ⟨(by kernel_rfl), trivial⟩ (by kernel_rfl) (Ent.drop (Nat.le_of_ble_eq_true (by kernel_rfl)) (by first | (simp [frBel, blksBel, Blk.bel, AV.bel, bels, bels_append, bels_map, aSs_bel, aIs_bel, aBs_bel, aRs_bel, aDen_bel, cells_bel]; done) | (simp only [List.drop_zero, ← List.map_take, ← List.map_drop, List.map_map, frBel, blksBel, Blk.bel, AV.bel, bels, bels_append, bels_map, aSs_bel, aIs_bel, aBs_bel, aRs_bel, aDen_bel, cells_bel]; simp [AV.bel, aSs_bel, aIs_bel, aBs_bel, aRs_bel, aDen_bel, cells_bel])) (by first | (simp [frBel, blksBel, Blk.bel, AV.bel, bels, bels_append, bels_map, aSs_bel, aIs_bel, aBs_bel, aRs_bel, aDen_bel, cells_bel]; done) | (simp only [List.drop_zero, ← List.map_take, ← List.map_drop, List.map_map, frBel, blksBel, Blk.bel, AV.bel, bels, bels_append, bels_map, aSs_bel, aIs_bel, aBs_bel, aRs_bel, aDen_bel, cells_bel]; simp [AV.bel, aSs_bel, aIs_bel, aBs_bel, aRs_bel, aDen_bel, cells_bel]))) (by kernel_rfl) ?_
    rw [met2, if_neg hm, dI_length, List.length_map, List.idxOf_append, if_neg hm, List.map_append]
    exact ⟨by simp, rfl⟩

end Tab

/- The states told apart once more. -/
namespace Tab
open Go Go.Proofs
set_option maxRecDepth 10000
set_option linter.unusedVariables false
set_option linter.unusedSimpArgs false
set_option linter.unusedSectionVars false

/-- A row: the pairs met and the number, ahead of the letter a. -/
def rowN (cls : List Int) (r : List Int) (L : List (Int × Int)) (n : Nat) : Nat → List (Int × Int) × Nat
  | 0 => (L, n)
  | a + 1 =>
    let x := rowN cls r L n a
    let p : Int × Int := ((x.2 : Int) * (r.length + 1) + a, cls.getD (r.getD a 0).toNat 0)
    (met2 x.1 p, (met2 x.1 p).idxOf p)
theorem met2_length (L p) : (met2 L p).length ≤ L.length + 1 := by rw [met2]; split <;> simp
theorem met2_mem (L p) : p ∈ met2 L p := by rw [met2]; split <;> simp_all
theorem met2_idx (L p) : (met2 L p).idxOf p ≤ L.length := by
  have := List.idxOf_lt_length_of_mem (met2_mem L p)
  have := met2_length L p
  omega
theorem rowN_bound (cls r L) (n : Nat) : ∀ a, (rowN cls r L n a).1.length ≤ L.length + a ∧ (rowN cls r L n a).2 ≤ max n (L.length + a)
  | 0 => ⟨Nat.le_refl _, Nat.le_max_left _ _⟩
  | a + 1 => by
    obtain ⟨h1, h2⟩ := rowN_bound cls r L n a
    simp only [rowN]
    have := met2_length (rowN cls r L n a).1 (((rowN cls r L n a).2 : Int) * (r.length + 1) + a, cls.getD (r.getD a 0).toNat 0)
    have := met2_idx (rowN cls r L n a).1 (((rowN cls r L n a).2 : Int) * (r.length + 1) + a, cls.getD (r.getD a 0).toNat 0)
    constructor <;> omega
theorem met2_nodup {L p} (h : List.Nodup L) : (met2 L p).Nodup := by
  rw [met2]
  split
  · exact h
  · rename_i hx
    exact List.nodup_append.2 ⟨h, by simp, by intro a ha b hb e; simp only [List.mem_singleton] at hb; subst hb; subst e; exact hx ha⟩
theorem rowN_nodup (cls r L) (n : Nat) (h : List.Nodup L) : ∀ a, (rowN cls r L n a).1.Nodup
  | 0 => h
  | a + 1 => by simp only [rowN]; exact met2_nodup (rowN_nodup cls r L n h a)

theorem ok2_mk {a b : Int} (h1 : -(2^63) ≤ a) (h2 : a < 2^63) (h3 : -(2^63) ≤ b) (h4 : b < 2^63) : ok2 (a, b) := ⟨⟨h1, h2⟩, ⟨h3, h4⟩⟩
theorem rowN_ok {cls r : List Int} (hc : ∀ v ∈ cls, 0 ≤ v ∧ v ≤ 300) (hr : r.length ≤ 64) {L : List (Int × Int)} {n : Nat} (hL : ∀ p ∈ L, ok2 p) (hl : L.length ≤ 2^30) (hn : n ≤ 2^30) : ∀ a, a ≤ r.length → ∀ p ∈ (rowN cls r L n a).1, ok2 p
  | 0, _ => hL
  | a + 1, ha => by
    have ih := rowN_ok hc hr hL hl hn a (by omega)
    have hb := (rowN_bound cls r L n a).2
    simp only [rowN]
    intro p hp
    rw [met2] at hp
    have : p ∈ (rowN cls r L n a).1 ∨ p = (((rowN cls r L n a).2 : Int) * (r.length + 1) + a, cls.getD (r.getD a 0).toNat 0) := by
      split at hp
      · exact .inl hp
      · simpa using hp
    rcases this with h | h
    · exact ih p h
    · subst h
      have h2 : ((rowN cls r L n a).2 : Int) * (r.length + 1) ≤ 2^31 * 65 := Int.mul_le_mul (by omega) (by omega) (by omega) (by omega)
      have h3 : 0 ≤ ((rowN cls r L n a).2 : Int) * (r.length + 1) := Int.mul_nonneg (by omega) (by omega)
      refine ok2_mk (by omega) (by omega) ?_ ?_
      all_goals
       simp only [List.getD_eq_getElem?_getD]
       cases e : cls[(r[a]?.getD 0).toNat]? with
       | none => simp
       | some v => have := hc v (List.mem_of_getElem? e); simp only [Option.getD_some]; omega

/-- The pairs met ahead of the row q, and the row's number. -/
def spL (cls : List Int) (rows : List (List Int)) : Nat → List (Int × Int)
  | 0 => []
  | q + 1 => (rowN cls (rows.getD q []) (spL cls rows q) (cls.getD q 0).toNat (rows.getD q []).length).1
def spV (cls : List Int) (rows : List (List Int)) (q : Nat) : Nat := (rowN cls (rows.getD q []) (spL cls rows q) (cls.getD q 0).toNat (rows.getD q []).length).2
def spN (cls : List Int) (rows : List (List Int)) : List Int := (List.range rows.length).map fun q => (spV cls rows q : Int)

theorem cls_le {cls : List Int} (hc : ∀ v ∈ cls, 0 ≤ v ∧ v ≤ 300) (q : Nat) : (cls.getD q 0).toNat ≤ 300 ∧ 0 ≤ cls.getD q 0 := by
  simp only [List.getD_eq_getElem?_getD]
  cases e : cls[q]? with
  | none => simp
  | some v => have := hc v (List.mem_of_getElem? e); simp only [Option.getD_some]; omega
theorem spL_ok {cls : List Int} {rows : List (List Int)} (hc : ∀ v ∈ cls, 0 ≤ v ∧ v ≤ 300) (hr : ∀ r ∈ rows, r.length ≤ 64) : ∀ q, q ≤ rows.length → rows.length ≤ 256 → (spL cls rows q).length ≤ q * 64 ∧ (spL cls rows q).Nodup ∧ ∀ p ∈ spL cls rows q, ok2 p
  | 0, _, _ => ⟨Nat.zero_le _, List.nodup_nil, by simp [spL]⟩
  | q + 1, hq, h256 => by
    obtain ⟨h1, h2, h3⟩ := spL_ok hc hr q (by omega) h256
    have hg : rows.getD q [] ∈ rows := by simp [List.getD_eq_getElem?_getD, show q < rows.length by omega]
    have hrl := hr _ hg
    have hcl := (cls_le hc q).1
    have hb := (rowN_bound cls (rows.getD q []) (spL cls rows q) (cls.getD q 0).toNat (rows.getD q []).length).1
    refine ⟨by rw [spL]; omega, rowN_nodup _ _ _ _ h2 _, ?_⟩
    rw [spL]
    exact rowN_ok hc hrl h3 (by omega) (by omega) _ (Nat.le_refl _)

theorem canon_split (k : SK) (d : Den) (hd : DenOk d) (hr : rightS d = true) (cls : List Int) (hl : cls.length = d.accept.length) (hc : ∀ v ∈ cls, 0 ≤ v ∧ v ≤ 300) :
    Pure Try.prog 82 [aDen d, aIs k cls] (.tup [aIs .any (denL (spN cls d.rows)), .int .i64 ((metL [] (spN cls d.rows)).length : Nat)]) := by
  obtain ⟨g1, g2, g3⟩ := rightS_parts hr
  obtain ⟨j1, j2, j3, j4⟩ := tracksS_parts g1
  have hrl : d.rows.length = cls.length := by simp [Den.rows]; omega
  have hn := hd.next
  have hrow : ∀ r ∈ d.rows, r.length ≤ 64 := fun r h => by rw [rows_len hr r h]; exact by have : 2 ^ d.tracks.length ≤ 2 ^ 6 := Nat.pow_le_pow_right (by omega) j1; omega
  have hsp := fun q (h : q ≤ d.rows.length) => spL_ok hc hrow q h (by omega)
  refine Pure.of_sw 61 Try.func82 rfl Try.ntmps82 (by kernel_rfl) (Nat.le_of_ble_eq_true (by kernel_rfl)) (by simp [closeds, AV.closed, aSs_closed, aIs_closed, aBs_closed, aRs_closed, aDen_closed]) (by simp [AV.closed, closeds, aSs_closed, aIs_closed, aBs_closed, aRs_closed, aDen_closed]) ?_; refine SW.of_vc ?_
  repeat first | refine opsStep ?_ | refine codeStep ?_ | refine drawStep ?_
  refine guardE_of ⟨by omega, by omega, by show (8 : Int) * (cls.length : Int) ≤ 281474976710656; omega, by omega⟩ ?_
  repeat first | refine opsStep ?_ | refine codeStep ?_ | refine drawStep ?_
  refine loopE_of (ι := {q : Nat // q ≤ cls.length})
    (fun q => (fr [(1, aIs k cls), (2, .ref 0 0 0), (7, .fn (.func 98) [] [.ref 2 0 0]), (8, .hs 3 0 0 cls.length 1), (20, aRs d.nk d.next), (21, .int .i64 d.next.length), (22, .int .i64 q.1)], [Blk.cells 0 d.cells, .dict (dI ((spL cls d.rows q.1).map pv2)), .cells 0 [.mp 1], .cells 0 ((partL (fun j => (spV cls d.rows j : Int)) cls.length (q.1)).map (.int .i64))]))
    (fun q => cls.length - q.1) ⟨0, by omega⟩ (Ent.fr' ⟨(by kernel_rfl), (by kernel_rfl), (by kernel_rfl), (by kernel_rfl), (by kernel_rfl), (by kernel_rfl), (by kernel_rfl), trivial⟩ ?_) ?_
  · refine Eq.trans (b := [.cells 0 d.cells, .dict [], .cells 0 [.mp 1], Blk.cells 0 (reps [.int .i64 0] cls.length)]) (by kernel_rfl) ?_
    rw [reps_one, partL_zero]; simp [spL, dI_nil]
  rintro ⟨q, hq⟩
  obtain ⟨m1, m2, m3⟩ := hsp q (by omega)
  have hpl := partL_length (fun j => (spV cls d.rows j : Int)) cls.length q
  repeat first | refine opsStep ?_ | refine codeStep ?_ | refine drawStep ?_
  refine decB_dec (fun h => ?_) (fun h => ?_)
  · have hqn : q < d.next.length := by have := h; simp at this; omega
    have hrw : d.rows.getD q [] = (d.next[q]).2 := by simp [Den.rows, List.getD_eq_getElem?_getD, hqn]
    have hlen := (rowOk_parts (g3 _ (List.getElem_mem hqn))).1
    have hval := (rowOk_parts (g3 _ (List.getElem_mem hqn))).2
    have h64 : (d.next[q]).2.length ≤ 64 := by rw [← hrw]; exact hrow _ (by rw [hrw]; exact List.mem_map.2 ⟨_, List.getElem_mem hqn, rfl⟩)
    have hcq := cls_le hc q
    have e1 : spL cls d.rows (q + 1) = (rowN cls (d.next[q]).2 (spL cls d.rows q) (cls.getD q 0).toNat (d.next[q]).2.length).1 := by rw [spL, hrw]
    have e2 : spV cls d.rows q = (rowN cls (d.next[q]).2 (spL cls d.rows q) (cls.getD q 0).toNat (d.next[q]).2.length).2 := by rw [spV, hrw]
    generalize hLe : spL cls d.rows q = L at *
    repeat first | refine opsStep ?_ | refine codeStep ?_ | refine drawStep ?_
    refine guardE_of (by simp; omega) ?_
    repeat first | refine opsStep ?_ | refine codeStep ?_ | refine drawStep ?_
    refine optE_of (c := aIs (d.next[q]).1 (d.next[q]).2) (by simp [Value.cells, hqn]) ?_
    repeat first | refine opsStep ?_ | refine codeStep ?_ | refine drawStep ?_
    refine guardE_of (by simp; omega) ?_
    repeat first | refine opsStep ?_ | refine codeStep ?_ | refine drawStep ?_
    refine optE_of (c := .int .i64 ((cls.getD q 0).toNat : Nat)) ?_ ?_
    · simp [Value.cells, List.getD_eq_getElem?_getD, show q < cls.length by omega]
      have := hcq.2
      simp [List.getD_eq_getElem?_getD, show q < cls.length by omega] at this
      omega
    repeat first | refine opsStep ?_ | refine codeStep ?_ | refine drawStep ?_
    generalize hre : d.next[q] = r at *
    refine loopE_of (ι := {a : Nat // a ≤ r.2.length})
      (fun a => (fr [(1, aIs k cls), (2, .ref 0 0 0), (7, .fn (.func 98) [] [.ref 2 0 0]), (8, .hs 3 0 0 cls.length 1), (9, .int .i64 q), (10, aIs r.1 r.2), (11, .int .i64 ((rowN cls r.2 L (cls.getD q 0).toNat a.1).2 : Nat)), (20, aRs d.nk d.next), (21, .int .i64 d.next.length), (22, .int .i64 q), (31, aIs r.1 r.2), (32, .int .i64 r.2.length), (33, .int .i64 a.1)], [Blk.cells 0 d.cells, .dict (dI (((rowN cls r.2 L (cls.getD q 0).toNat a.1).1).map pv2)), .cells 0 [.mp 1], .cells 0 ((partL (fun j => (spV cls d.rows j : Int)) cls.length (q)).map (.int .i64))]))
      (fun a => r.2.length - a.1) ⟨0, by omega⟩ (Ent.fr' ⟨(by kernel_rfl), (by kernel_rfl), (by kernel_rfl), (by kernel_rfl), (by kernel_rfl), (by kernel_rfl), (by kernel_rfl), (by kernel_rfl), (by kernel_rfl), (by kernel_rfl), (by kernel_rfl), (by kernel_rfl), (by kernel_rfl), trivial⟩ (by kernel_rfl)) ?_
    rintro ⟨a, ha⟩
    have hb := rowN_bound cls r.2 L (cls.getD q 0).toNat a
    have hnd := rowN_nodup cls r.2 L (cls.getD q 0).toNat m2 a
    have hok := rowN_ok hc h64 m3 (by omega) (by omega) (n := (cls.getD q 0).toNat) a ha
    repeat first | refine opsStep ?_ | refine codeStep ?_ | refine drawStep ?_
    refine decB_dec (fun h => ?_) (fun h => ?_)
    · have hal : a < r.2.length := by have := h; simp at this; omega
      have hv := hval _ (List.getElem_mem hal)
      have e3 : rowN cls r.2 L (cls.getD q 0).toNat (a + 1) = (met2 (rowN cls r.2 L (cls.getD q 0).toNat a).1 (((rowN cls r.2 L (cls.getD q 0).toNat a).2 : Int) * (r.2.length + 1) + a, cls.getD (r.2.getD a 0).toNat 0), (met2 (rowN cls r.2 L (cls.getD q 0).toNat a).1 (((rowN cls r.2 L (cls.getD q 0).toNat a).2 : Int) * (r.2.length + 1) + a, cls.getD (r.2.getD a 0).toNat 0)).idxOf (((rowN cls r.2 L (cls.getD q 0).toNat a).2 : Int) * (r.2.length + 1) + a, cls.getD (r.2.getD a 0).toNat 0)) := rfl
      generalize rowN cls r.2 L (cls.getD q 0).toNat a = x at *
      obtain ⟨xl, xn⟩ := x
      simp only at hb hnd hok e3
      have ga : r.2.getD a 0 = r.2[a] := by simp [List.getD_eq_getElem?_getD, hal]
      rw [ga] at e3
      have hct := cls_le hc (r.2[a]).toNat
      have w1 : IntKind.wrap .i64 ((r.2.length : Int) + 1) = r.2.length + 1 := IntWalk.i64_in _ (by omega)
      have u1 : (xn : Int) * ((r.2.length : Int) + 1) ≤ 2^31 * 65 := Int.mul_le_mul (by omega) (by omega) (by omega) (by omega)
      have u2 : 0 ≤ (xn : Int) * ((r.2.length : Int) + 1) := Int.mul_nonneg (by omega) (by omega)
      have w2 : IntKind.wrap .i64 ((xn : Int) * ((r.2.length : Int) + 1)) = (xn : Int) * (r.2.length + 1) := IntWalk.i64_in _ (by omega)
      have w3 : IntKind.wrap .i64 ((xn : Int) * ((r.2.length : Int) + 1) + (a : Int)) = (xn : Int) * (r.2.length + 1) + a := IntWalk.i64_in _ (by omega)
      have hcall := canon_split1 ((xn : Int) * (r.2.length + 1) + a) (cls.getD (r.2[a]).toNat 0) xl d (partL (fun j => (spV cls d.rows j : Int)) cls.length q) hnd (by omega) hok (ok2_mk (by omega) (by omega) (by omega) (by omega))
      repeat first | refine opsStep ?_ | refine codeStep ?_ | refine drawStep ?_
      refine guardE_of (by simp; omega) ?_
      repeat first | refine opsStep ?_ | refine codeStep ?_ | refine drawStep ?_
      refine optE_of (c := .int .i64 r.2[a]) (by simp [Value.cells, hal]) ?_
      repeat first | refine opsStep ?_ | refine codeStep ?_ | refine drawStep ?_
      refine guardE_of (by omega) ?_
      repeat first | refine opsStep ?_ | refine codeStep ?_ | refine drawStep ?_
      refine optE_of (c := .int .i64 (cls.getD (r.2[a]).toNat 0)) (by simp [Value.cells, List.getD_eq_getElem?_getD, show (r.2[a]).toNat < cls.length by omega]) ?_
      rw [w1, w2, w3]
      repeat first | refine opsStep ?_ | refine codeStep ?_ | refine drawStep ?_
      refine callH hcall ?_
      repeat first | refine opsStep ?_ | refine codeStep ?_ | refine drawStep ?_
      refine ⟨⟨a + 1, by omega⟩, (by show r.2.length - (a + 1) < r.2.length - a; omega), Ent.fr' ⟨(by kernel_rfl), (by kernel_rfl), (by kernel_rfl), (by kernel_rfl), (by kernel_rfl), (by kernel_rfl), ?_, (by kernel_rfl), (by kernel_rfl), (by kernel_rfl), (by kernel_rfl), (by kernel_rfl), inc_slot (i := a) (by omega), trivial⟩ ?_⟩
      · show AV.int .i64 _ = AV.int .i64 ((rowN cls r.2 L (cls.getD q 0).toNat (a + 1)).2 : Nat)
        rw [e3]
      · refine Eq.trans (b := [Blk.cells 0 d.cells, .dict (dI ((met2 xl ((xn : Int) * (r.2.length + 1) + a, cls.getD (r.2[a]).toNat 0)).map pv2)), .cells 0 [.mp 1], .cells 0 ((partL (fun j => (spV cls d.rows j : Int)) cls.length (q)).map (.int .i64))]) (by kernel_rfl) ?_
        show _ = [Blk.cells 0 d.cells, .dict (dI (((rowN cls r.2 L (cls.getD q 0).toNat (a + 1)).1).map pv2)), .cells 0 [.mp 1], .cells 0 ((partL (fun j => (spV cls d.rows j : Int)) cls.length (q)).map (.int .i64))]
        rw [e3]
    · have hal : a = r.2.length := by have := h; simp at this; omega
      subst hal
      rw [← e1, ← e2]
      repeat first | refine opsStep ?_ | refine codeStep ?_ | refine drawStep ?_
      refine guardE_of (by simp; omega) ?_
      repeat first | refine opsStep ?_ | refine codeStep ?_ | refine drawStep ?_
      refine guardE_of ⟨rfl, by decide, by show 0 + q * 1 + 1 ≤ ((partL (fun j => (spV cls d.rows j : Int)) cls.length q).map (AV.int .i64)).length; rw [List.length_map, hpl]; omega⟩ ?_
      repeat first | refine opsStep ?_ | refine codeStep ?_ | refine drawStep ?_
      refine ⟨⟨q + 1, by omega⟩, (by show cls.length - (q + 1) < cls.length - q; omega), Ent.fr' ⟨(by kernel_rfl), (by kernel_rfl), (by kernel_rfl), (by kernel_rfl), (by kernel_rfl), (by kernel_rfl), inc_slot (i := q) (by omega), trivial⟩ ?_⟩
      refine Eq.trans (b := [.cells 0 d.cells, .dict (dI ((spL cls d.rows (q + 1)).map pv2)), .cells 0 [.mp 1], .cells 0 (over ((partL (fun j => (spV cls d.rows j : Int)) cls.length q).map (AV.int .i64)) (0 + q * 1) [.int .i64 (spV cls d.rows q : Nat)])]) (by kernel_rfl) ?_
      rw [Nat.zero_add, Nat.mul_one, over_one (by rw [List.length_map, hpl]; omega)]
      show _ = [Blk.cells 0 d.cells, .dict (dI ((spL cls d.rows (q + 1)).map pv2)), .cells 0 [.mp 1], .cells 0 ((partL (fun j => (spV cls d.rows j : Int)) cls.length (q + 1)).map (.int .i64))]
      rw [← partL_step, List.map_set]
  · have hqn : q = cls.length := by have := h; simp at this; omega
    subst hqn
    have hdn := canon_dense .any (spN cls d.rows) (by simp [spN]; omega) (fun v hv => ?_)
    rotate_left
    · obtain ⟨i, hi, rfl⟩ := List.mem_map.1 hv
      have hi := List.mem_range.1 hi
      have hb := (rowN_bound cls (d.rows.getD i []) (spL cls d.rows i) (cls.getD i 0).toNat (d.rows.getD i []).length).2
      have h64 := hrow _ (show d.rows.getD i [] ∈ d.rows by simp [List.getD_eq_getElem?_getD, hi])
      have := (hsp i (by omega)).1
      have := (cls_le hc i).1
      simp only [spV]
      omega
    have hsl : aIs .any (spN cls d.rows) = .sl .any cls.length ((partL (fun j => (spV cls d.rows j : Int)) cls.length cls.length).map (.int .i64)) := by
      rw [aIs, partL_full, spN, hrl]; simp
    rw [hsl] at hdn
    have hfit : cls.length * 1 = ((partL (fun j => (spV cls d.rows j : Int)) cls.length cls.length).map (AV.int .i64)).length := by rw [List.length_map, partL_length]; omega
    generalize (partL (fun j => (spV cls d.rows j : Int)) cls.length cls.length).map (AV.int .i64) = cs at *
    repeat first | refine opsStep ?_ | refine codeStep ?_ | refine drawStep ?_
    refine callZ 3 (g := 0) (cs := cs) (by kernel_rfl) hdn (.hs (b := 3) (g := 0) (by kernel_rfl) hfit .nil) ?_
    repeat first | refine opsStep ?_ | refine codeStep ?_ | refine drawStep ?_
    exact finV (v' := .tup [aIs .any (denL (spN cls d.rows)), .int .i64 ((metL [] (spN cls d.rows)).length : Nat)]) (by kernel_rfl) rfl

end Tab

/- Which states are alike: the plain law of split and classes. -/
namespace Tab
open Go Go.Proofs
set_option maxRecDepth 10000
set_option linter.unusedVariables false
set_option linter.unusedSimpArgs false
set_option linter.unusedSectionVars false

/-! ### split tells apart -/

theorem met2_prefix (L : List (Int × Int)) (p) : ∃ r, met2 L p = L ++ r := by
  rw [met2]; split
  · exact ⟨[], by simp⟩
  · exact ⟨[p], rfl⟩
theorem rowN_prefix (cls r L) (n : Nat) : ∀ a, ∃ s, (rowN cls r L n a).1 = L ++ s
  | 0 => ⟨[], by simp [rowN]⟩
  | a + 1 => by
    obtain ⟨s, hs⟩ := rowN_prefix cls r L n a
    simp only [rowN]
    obtain ⟨t, ht⟩ := met2_prefix (rowN cls r L n a).1 (((rowN cls r L n a).2 : Int) * (r.length + 1) + a, cls.getD (r.getD a 0).toNat 0)
    exact ⟨s ++ t, by rw [ht, hs, List.append_assoc]⟩
theorem rowN_le (cls r L) (n : Nat) (a : Nat) : ∀ b, ∃ s, (rowN cls r L n (a + b)).1 = (rowN cls r L n a).1 ++ s
  | 0 => ⟨[], by simp⟩
  | b + 1 => by
    obtain ⟨s, hs⟩ := rowN_le cls r L n a b
    rw [← Nat.add_assoc]
    simp only [rowN]
    obtain ⟨t, ht⟩ := met2_prefix (rowN cls r L n (a + b)).1 (((rowN cls r L n (a + b)).2 : Int) * (r.length + 1) + (a + b : Nat), cls.getD (r.getD (a + b) 0).toNat 0)
    exact ⟨s ++ t, by rw [ht, hs, List.append_assoc]⟩
theorem spL_le (cls rows) (q : Nat) : ∀ b, ∃ s, spL cls rows (q + b) = spL cls rows q ++ s
  | 0 => ⟨[], by simp⟩
  | b + 1 => by
    obtain ⟨s, hs⟩ := spL_le cls rows q b
    rw [← Nat.add_assoc, spL]
    obtain ⟨t, ht⟩ := rowN_prefix cls (rows.getD (q + b) []) (spL cls rows (q + b)) (cls.getD (q + b) 0).toNat (rows.getD (q + b) []).length
    exact ⟨s ++ t, by rw [ht, hs, List.append_assoc]⟩

/-- The number of a row ahead of the letter a is the place of its pair among all pairs. -/
theorem rowN_at {cls r L} {n : Nat} {P : List (Int × Int)} {a : Nat} (h : ∃ s, P = (rowN cls r L n (a + 1)).1 ++ s) :
    (((rowN cls r L n a).2 : Int) * (r.length + 1) + a, cls.getD (r.getD a 0).toNat 0) ∈ P ∧ (rowN cls r L n (a + 1)).2 = P.idxOf (((rowN cls r L n a).2 : Int) * (r.length + 1) + a, cls.getD (r.getD a 0).toNat 0) := by
  obtain ⟨s, rfl⟩ := h
  simp only [rowN]
  have hm := met2_mem (rowN cls r L n a).1 (((rowN cls r L n a).2 : Int) * (r.length + 1) + a, cls.getD (r.getD a 0).toNat 0)
  exact ⟨List.mem_append.2 (.inl hm), by rw [List.idxOf_append, if_pos hm]⟩

theorem idx_inj' {α : Type} [BEq α] [LawfulBEq α] {l : List α} {a b : α} (ha : a ∈ l) (hb : b ∈ l) (h : l.idxOf a = l.idxOf b) : a = b := by
  have h1 := List.getElem_idxOf (List.idxOf_lt_length_of_mem ha)
  have h2 := List.getElem_idxOf (List.idxOf_lt_length_of_mem hb)
  rw [← h1, ← h2]
  simp only [h]

theorem rowN_inj {cls r r'} {L L' P : List (Int × Int)} {n n' : Nat} (hk : r.length = r'.length) : ∀ a, (∃ s, P = (rowN cls r L n a).1 ++ s) → (∃ s, P = (rowN cls r' L' n' a).1 ++ s) →
    ((rowN cls r L n a).2 = (rowN cls r' L' n' a).2 ↔ n = n' ∧ ∀ b, b < a → cls.getD (r.getD b 0).toNat 0 = cls.getD (r'.getD b 0).toNat 0)
  | 0, _, _ => by simp [rowN]
  | a + 1, h, h' => by
    obtain ⟨s, hs⟩ := h
    obtain ⟨s', hs'⟩ := h'
    obtain ⟨u, hu⟩ := rowN_le cls r L n a 1
    obtain ⟨u', hu'⟩ := rowN_le cls r' L' n' a 1
    have ih := rowN_inj (P := P) (L := L) (L' := L') (n := n) (n' := n') (cls := cls) hk a ⟨u ++ s, by rw [← List.append_assoc, ← hu]; exact hs⟩ ⟨u' ++ s', by rw [← List.append_assoc, ← hu']; exact hs'⟩
    obtain ⟨m1, e1⟩ := rowN_at (P := P) ⟨s, hs⟩
    obtain ⟨m2, e2⟩ := rowN_at (P := P) ⟨s', hs'⟩
    constructor
    · intro h
      rw [e1, e2] at h
      have he := idx_inj' m1 m2 h
      simp only [Prod.mk.injEq] at he
      rw [hk] at he
      have hx : ((rowN cls r L n a).2 : Int) * (r'.length + 1) = ((rowN cls r' L' n' a).2 : Int) * (r'.length + 1) := by omega
      have hx := Int.eq_of_mul_eq_mul_right (by omega) hx
      obtain ⟨k1, k2⟩ := ih.1 (by omega)
      refine ⟨k1, fun b hb => ?_⟩
      by_cases e : b = a
      · subst e; exact he.2
      · exact k2 b (by omega)
    · rintro ⟨h1, h2⟩
      rw [e1, e2, ih.2 ⟨h1, fun b hb => h2 b (by omega)⟩, h2 a (by omega), hk]

theorem spV_iff {cls : List Int} {rows : List (List Int)} {p q K : Nat} (hp : p < rows.length) (hq : q < rows.length) (hk : ∀ r ∈ rows, r.length = K) (h0 : 0 ≤ cls.getD p 0) (h1 : 0 ≤ cls.getD q 0) :
    spV cls rows p = spV cls rows q ↔ cls.getD p 0 = cls.getD q 0 ∧ ∀ a, a < K → cls.getD (stepN rows p a) 0 = cls.getD (stepN rows q a) 0 := by
  have gp : rows.getD p [] ∈ rows := by simp [List.getD_eq_getElem?_getD, hp]
  have gq : rows.getD q [] ∈ rows := by simp [List.getD_eq_getElem?_getD, hq]
  have kp := hk _ gp
  have kq := hk _ gq
  have pre : ∀ x, x < rows.length → ∃ s, spL cls rows rows.length = (rowN cls (rows.getD x []) (spL cls rows x) (cls.getD x 0).toNat (rows.getD x []).length).1 ++ s := fun x hx => by
    obtain ⟨s, hs⟩ := spL_le cls rows (x + 1) (rows.length - (x + 1))
    rw [show x + 1 + (rows.length - (x + 1)) = rows.length by omega] at hs
    exact ⟨s, by rw [hs, spL]⟩
  have a1 := pre p hp
  have a2 := pre q hq
  rw [kp] at a1
  rw [kq] at a2
  rw [spV, spV, kp, kq, rowN_inj (P := spL cls rows rows.length) (by rw [kp, kq]) K a1 a2]
  simp only [stepN]
  constructor
  · rintro ⟨h, k⟩; exact ⟨by omega, k⟩
  · rintro ⟨h, k⟩; exact ⟨by rw [h], k⟩

theorem denL_length (l) : (denL l).length = l.length := by simp [denL]
theorem denL_iff {l : List Int} {i j : Nat} (hi : i < l.length) (hj : j < l.length) : (denL l).getD i 0 = (denL l).getD j 0 ↔ l.getD i 0 = l.getD j 0 := by
  have hm : ∀ x, x < l.length → l.getD x 0 ∈ metL [] l := fun x hx => (metL_mem _ _ _).2 (.inr (by simp [List.getD_eq_getElem?_getD, hx]))
  have e : ∀ x, x < l.length → (denL l).getD x 0 = ((metL [] l).idxOf (l.getD x 0) : Int) := fun x hx => by
    rw [List.getD_eq_getElem?_getD, denL, List.getElem?_map, List.getElem?_range hx]; rfl
  rw [e i hi, e j hj]
  constructor
  · intro h
    exact idx_inj' (hm i hi) (hm j hj) (by omega)
  · intro h; rw [h]
theorem denL_range {l : List Int} {v : Int} (h : v ∈ denL l) : 0 ≤ v ∧ v < l.length := by
  obtain ⟨i, hi, rfl⟩ := List.mem_map.1 h
  have hi := List.mem_range.1 hi
  have hm : l.getD i 0 ∈ metL [] l := (metL_mem _ _ _).2 (.inr (by simp [List.getD_eq_getElem?_getD, hi]))
  have h1 := List.idxOf_lt_length_of_mem hm
  have h2 := metL_len l []
  simp only [List.length_nil] at h2
  omega

/-! ### How many there are -/

theorem nodup_sub {α : Type} [DecidableEq α] : ∀ {a b : List α}, a.Nodup → (∀ x ∈ a, x ∈ b) → a.length ≤ b.length
  | [], _, _, _ => Nat.zero_le _
  | x :: a, b, hn, h => by
    have hx := h x (by simp)
    obtain ⟨h1, h2⟩ := List.nodup_cons.1 hn
    have := nodup_sub (a := a) (b := b.erase x) h2 fun y hy => (List.mem_erase_of_ne (fun e : y = x => h1 (e ▸ hy))).2 (h y (by simp [hy]))
    rw [List.length_erase_of_mem hx] at this
    have : 0 < b.length := List.length_pos_of_mem hx
    simp only [List.length_cons]
    omega

abbrev disN (l : List Int) : Nat := (metL [] l).length
theorem dis_le (l : List Int) : disN l ≤ l.length := by have := metL_len l []; simpa using this
theorem dis_pos {l : List Int} (h : 0 < l.length) : 0 < disN l := by
  cases l with
  | nil => simp at h
  | cons x l => exact List.length_pos_of_mem ((metL_mem x (x :: l) []).2 (.inr (by simp)))

theorem dis_refine {l m : List Int} (hl : l.length = m.length) (h : ∀ i j, i < l.length → j < l.length → m.getD i 0 = m.getD j 0 → l.getD i 0 = l.getD j 0) :
    disN l ≤ disN m ∧ (disN l = disN m → ∀ i j, i < l.length → j < l.length → l.getD i 0 = l.getD j 0 → m.getD i 0 = m.getD j 0) := by
  let g : Int → Int := fun x => l.getD (m.idxOf x) 0
  have hg : ∀ i, i < l.length → g (m.getD i 0) = l.getD i 0 := fun i hi => by
    have hm : m.getD i 0 ∈ m := by simp [List.getD_eq_getElem?_getD, ← hl, hi]
    have h1 := List.idxOf_lt_length_of_mem hm
    refine h _ _ (by omega) hi ?_
    rw [List.getD_eq_getElem?_getD, List.getElem?_eq_getElem h1, List.getElem_idxOf]; rfl
  have mem : ∀ x, x ∈ metL [] l → ∃ i, i < l.length ∧ l.getD i 0 = x := fun x hx => by
    have := (metL_mem x l []).1 hx
    simp only [List.not_mem_nil, false_or] at this
    obtain ⟨i, hi, rfl⟩ := List.getElem_of_mem this
    exact ⟨i, hi, by simp [List.getD_eq_getElem?_getD, hi]⟩
  have memm : ∀ i, i < l.length → m.getD i 0 ∈ metL [] m := fun i hi => (metL_mem _ _ _).2 (.inr (by simp [List.getD_eq_getElem?_getD, ← hl, hi]))
  have hn := metL_nodup l [] List.nodup_nil
  have hnm := metL_nodup m [] List.nodup_nil
  refine ⟨?_, fun he i j hi hj hij => ?_⟩
  · have := nodup_sub (b := (metL [] m).map g) hn fun x hx => by
      obtain ⟨i, hi, rfl⟩ := mem x hx
      exact List.mem_map.2 ⟨m.getD i 0, memm i hi, hg i hi⟩
    simpa using this
  · refine Classical.byContradiction fun hne => ?_
    have := nodup_sub (b := ((metL [] m).erase (m.getD i 0)).map g) hn fun x hx => by
      obtain ⟨k, hk, rfl⟩ := mem x hx
      by_cases hki : m.getD k 0 = m.getD i 0
      · refine List.mem_map.2 ⟨m.getD j 0, (List.mem_erase_of_ne (fun e => hne e.symm)).2 (memm j hj), ?_⟩
        rw [hg j hj, ← hij, ← hg i hi, ← hki, hg k hk]
      · exact List.mem_map.2 ⟨m.getD k 0, (List.mem_erase_of_ne hki).2 (memm k hk), hg k hk⟩
    rw [List.length_map, List.length_erase_of_mem (memm i hi)] at this
    have hp : 0 < (metL [] m).length := List.length_pos_of_mem (memm i hi)
    simp only [disN] at he
    omega

/-! ### classes -/

/-- States told apart, again and again, until their number stays. -/
def clsL (rows : List (List Int)) : Nat → List Int → Nat → List Int
  | 0, cls, _ => cls
  | f + 1, cls, c => if disN (spN cls rows) = c then denL (spN cls rows) else clsL rows f (denL (spN cls rows)) (disN (spN cls rows))
def cls0 (acc : List Bool) : List Int := acc.map fun b => if b then 1 else 0
def clsD (d : Den) : List Int := clsL d.rows (d.accept.length + 1) (cls0 d.accept) 0

theorem dis_den (l : List Int) : disN (denL l) = disN l := by
  have h := fun i j (hi : i < l.length) (hj : j < l.length) => denL_iff (l := l) hi hj
  have h1 := (dis_refine (l := denL l) (m := l) (denL_length l) fun i j hi hj e => (h i j (by rwa [denL_length] at hi) (by rwa [denL_length] at hj)).2 e).1
  have h2 := (dis_refine (l := l) (m := denL l) (denL_length l).symm fun i j hi hj e => (h i j hi hj).1 e).1
  omega

/-- Letters of a word. -/
abbrev Lets (k : Nat) (w : List Nat) : Prop := ∀ a ∈ w, a < 2 ^ k
def accN (acc : List Bool) (q : Nat) : Bool := acc.getD q false
/-- Are two states alike? -/
def Alike (d : Den) (p q : Nat) : Prop := ∀ w, Lets d.tracks.length w → accN d.accept (runN d.rows p w) = accN d.accept (runN d.rows q w)

structure ClsInv (d : Den) (cls : List Int) : Prop where
  len : cls.length = d.accept.length
  rng : ∀ v ∈ cls, 0 ≤ v ∧ v ≤ 300
  acc : ∀ p q, p < d.accept.length → q < d.accept.length → cls.getD p 0 = cls.getD q 0 → accN d.accept p = accN d.accept q
  apart : ∀ p q, p < d.accept.length → q < d.accept.length → cls.getD p 0 ≠ cls.getD q 0 → ∃ w, Lets d.tracks.length w ∧ accN d.accept (runN d.rows p w) ≠ accN d.accept (runN d.rows q w)

theorem cls_nonneg {d : Den} {cls : List Int} (h : ClsInv d cls) (q : Nat) : 0 ≤ cls.getD q 0 := (cls_le h.rng q).2
theorem rows_length {d : Den} (hr : rightS d = true) : d.rows.length = d.accept.length := by
  obtain ⟨_, h2, _⟩ := rightS_parts hr
  simp [Den.rows, h2]
theorem sp_iff {d : Den} (hr : rightS d = true) {cls : List Int} (h : ClsInv d cls) {p q : Nat} (hp : p < d.accept.length) (hq : q < d.accept.length) :
    (denL (spN cls d.rows)).getD p 0 = (denL (spN cls d.rows)).getD q 0 ↔ cls.getD p 0 = cls.getD q 0 ∧ ∀ a, a < 2 ^ d.tracks.length → cls.getD (stepN d.rows p a) 0 = cls.getD (stepN d.rows q a) 0 := by
  have hl := rows_length hr
  rw [denL_iff (by simp [spN]; omega) (by simp [spN]; omega), ← spV_iff (by omega) (by omega) (rows_len hr) (cls_nonneg h p) (cls_nonneg h q)]
  have e : ∀ x, x < d.accept.length → (spN cls d.rows).getD x 0 = (spV cls d.rows x : Int) := fun x hx => by
    rw [List.getD_eq_getElem?_getD, spN, List.getElem?_map, List.getElem?_range (by omega)]; rfl
  rw [e p hp, e q hq]
  omega
theorem sp_inv {d : Den} (hr : rightS d = true) {cls : List Int} (h : ClsInv d cls) : ClsInv d (denL (spN cls d.rows)) := by
  have hl := rows_length hr
  have h256 := (tracksS_parts (rightS_parts hr).1).2.2.2
  have hsl : (spN cls d.rows).length = d.accept.length := by simp [spN, hl]
  refine ⟨by rw [denL_length, hsl], fun v hv => ?_, fun p q hp hq e => h.acc p q hp hq ((sp_iff hr h hp hq).1 e).1, fun p q hp hq e => ?_⟩
  · have := denL_range hv; omega
  · by_cases hc : cls.getD p 0 = cls.getD q 0
    · have : ¬ ∀ a, a < 2 ^ d.tracks.length → cls.getD (stepN d.rows p a) 0 = cls.getD (stepN d.rows q a) 0 := fun k => e ((sp_iff hr h hp hq).2 ⟨hc, k⟩)
      have : ∃ a, a < 2 ^ d.tracks.length ∧ cls.getD (stepN d.rows p a) 0 ≠ cls.getD (stepN d.rows q a) 0 :=
        Classical.byContradiction fun k => this fun a ha => Classical.byContradiction fun k' => k ⟨a, ha, k'⟩
      obtain ⟨a, ha, hne⟩ := this
      obtain ⟨_, _, _, p1⟩ := stepN_ok hr hp ha
      obtain ⟨_, _, _, q1⟩ := stepN_ok hr hq ha
      obtain ⟨w, hw, hd⟩ := h.apart _ _ p1 q1 hne
      exact ⟨a :: w, fun b hb => by
        rcases List.mem_cons.1 hb with rfl | hb
        · exact ha
        · exact hw b hb, hd⟩
    · exact h.apart p q hp hq hc
theorem sp_more {d : Den} (hr : rightS d = true) {cls : List Int} (h : ClsInv d cls) : disN cls ≤ disN (spN cls d.rows) := by
  have hl := rows_length hr
  have hlen := h.len
  rw [← dis_den (spN cls d.rows)]
  refine (dis_refine (by rw [denL_length]; simp [spN]; omega) fun i j hi hj e => ?_).1
  exact ((sp_iff hr h (by omega) (by omega)).1 e).1
/-- Where their number stays, alike ones share a class, and only they. -/
theorem sp_done {d : Den} (hr : rightS d = true) {cls : List Int} (h : ClsInv d cls) (he : disN (spN cls d.rows) = disN cls) {p q : Nat} (hp : p < d.accept.length) (hq : q < d.accept.length) :
    (denL (spN cls d.rows)).getD p 0 = (denL (spN cls d.rows)).getD q 0 ↔ Alike d p q := by
  have hl := rows_length hr
  have hlen := h.len
  have hb := (dis_refine (l := cls) (m := denL (spN cls d.rows)) (by rw [denL_length]; simp [spN]; omega) fun i j hi hj e => ((sp_iff hr h (by omega) (by omega)).1 e).1).2 (by rw [dis_den]; omega)
  constructor
  · intro e w
    induction w generalizing p q with
    | nil => exact fun _ => h.acc p q hp hq ((sp_iff hr h hp hq).1 e).1
    | cons a w ih =>
      intro hw
      have ha := hw a (by simp)
      obtain ⟨_, _, _, p1⟩ := stepN_ok hr hp ha
      obtain ⟨_, _, _, q1⟩ := stepN_ok hr hq ha
      exact ih p1 q1 (hb _ _ (by omega) (by omega) (((sp_iff hr h hp hq).1 e).2 a ha)) fun b hb => hw b (by simp [hb])
  · intro k
    refine Classical.byContradiction fun hne => ?_
    obtain ⟨w, hw, hd⟩ := (sp_inv hr h).apart p q hp hq hne
    exact hd (k w hw)

theorem cls0_inv (d : Den) : ClsInv d (cls0 d.accept) := by
  have e : ∀ p, p < d.accept.length → (cls0 d.accept).getD p 0 = if accN d.accept p = true then 1 else 0 := fun p hp => by
    simp [cls0, accN, List.getD_eq_getElem?_getD, hp]
  refine ⟨by simp [cls0], fun v hv => ?_, fun p q hp hq h => ?_, fun p q hp hq h => ⟨[], fun a ha => absurd ha (by simp), ?_⟩⟩
  · obtain ⟨b, _, rfl⟩ := List.mem_map.1 hv
    cases b <;> simp
  · rw [e p hp, e q hq] at h
    cases h1 : accN d.accept p <;> cases h2 : accN d.accept q <;> simp_all
  · rw [e p hp, e q hq] at h
    simp only [runN, List.foldl_nil]
    intro k
    rw [k] at h
    exact h rfl

/-- What the classes are: alike states share one, and only they. -/
structure Ner (d : Den) (cls : List Int) : Prop where
  len : cls.length = d.accept.length
  rng : ∀ v ∈ cls, 0 ≤ v ∧ v ≤ 300
  iff : ∀ p q, p < d.accept.length → q < d.accept.length → (cls.getD p 0 = cls.getD q 0 ↔ Alike d p q)

theorem clsL_ner {d : Den} (hr : rightS d = true) : ∀ (f : Nat) (cls : List Int) (c : Nat), ClsInv d cls → (c = 0 ∨ c = disN cls) → d.accept.length + 1 ≤ f + c → Ner d (clsL d.rows f cls c)
  | 0, cls, c, h, hc, hf => by
    have := dis_le cls
    have := h.len
    omega
  | f + 1, cls, c, h, hc, hf => by
    rw [clsL]
    have hl := rows_length hr
    have hpos := right_pos hr
    have hi := sp_inv hr h
    split
    · rename_i he
      have hp : 0 < disN (spN cls d.rows) := dis_pos (by rw [spN, List.length_map, List.length_range]; omega)
      have hc : c = disN cls := by omega
      exact ⟨hi.len, hi.rng, fun p q hp hq => sp_done hr h (by omega) hp hq⟩
    · have := sp_more hr h
      exact clsL_ner hr f _ _ hi (.inr (dis_den _).symm) (by omega)
theorem clsD_ner {d : Den} (hr : rightS d = true) : Ner d (clsD d) := clsL_ner hr _ _ _ (cls0_inv d) (.inl rfl) (Nat.le_refl _)

end Tab

/- canon.classes, canon.Classes. -/
namespace Tab
open Go Go.Proofs
set_option maxRecDepth 10000
set_option linter.unusedVariables false
set_option linter.unusedSimpArgs false
set_option linter.unusedSectionVars false

def initF (acc : List Bool) (j : Nat) : Int := if accN acc j then 1 else 0
theorem init_cls0 (acc : List Bool) : (List.range acc.length).map (initF acc) = cls0 acc := by
  refine List.ext_getElem (by simp [cls0]) fun i h1 h2 => ?_
  have hi : i < acc.length := by simpa using h1
  simp [initF, cls0, accN, List.getD_eq_getElem?_getD, hi]
theorem partL_skip {f : Nat → Int} {n a : Nat} (h : f a = 0) : partL f n (a + 1) = partL f n a := by
  rw [partL, partL]
  refine List.map_congr_left fun j _ => ?_
  by_cases e : j = a
  · subst e; simp [h]
  · by_cases h1 : j < a
    · rw [if_pos h1, if_pos (by omega)]
    · rw [if_neg h1, if_neg (by omega)]

theorem canon_classes (d : Den) (hd : DenOk d) (hr : rightS d = true) : Pure Try.prog 69 [aDen d] (aIs .any (clsD d)) := by
  have h2 := hd.accept
  have h256 := (tracksS_parts (rightS_parts hr).1).2.2.2
  refine Pure.of_sw 38 Try.func69 rfl Try.ntmps69 (by kernel_rfl) (Nat.le_of_ble_eq_true (by kernel_rfl)) (by simp [closeds, AV.closed, aSs_closed, aIs_closed, aBs_closed, aRs_closed, aDen_closed]) (by simp [AV.closed, closeds, aSs_closed, aIs_closed, aBs_closed, aRs_closed, aDen_closed]) ?_; refine SW.of_vc ?_
  repeat first | refine opsStep ?_ | refine codeStep ?_ | refine drawStep ?_
  refine guardE_of ⟨by omega, by omega, by show (8 : Int) * (d.accept.length : Int) ≤ 281474976710656; omega, by omega⟩ ?_
  repeat first | refine opsStep ?_ | refine codeStep ?_ | refine drawStep ?_
  refine loopE_of (ι := {q : Nat // q ≤ d.accept.length})
    (fun q => (fr [(1, .ref 0 0 0), (3, .hs 1 0 0 d.accept.length 1), (14, aBs d.ak d.accept), (15, .int .i64 d.accept.length), (16, .int .i64 q.1)], [Blk.cells 0 d.cells, Blk.cells 0 ((partL (initF d.accept) d.accept.length (q.1)).map (.int .i64))]))
    (fun q => d.accept.length - q.1) ⟨0, by omega⟩ (Ent.fr' ⟨(by kernel_rfl), (by kernel_rfl), (by kernel_rfl), (by kernel_rfl), (by kernel_rfl), trivial⟩ ?_) ?_
  · refine Eq.trans (b := [Blk.cells 0 d.cells, Blk.cells 0 (reps [.int .i64 0] d.accept.length)]) (by kernel_rfl) ?_
    rw [reps_one, partL_zero]; simp
  rintro ⟨q, hq⟩
  have hpl := partL_length (initF d.accept) d.accept.length q
  repeat first | refine opsStep ?_ | refine codeStep ?_ | refine drawStep ?_
  refine decB_dec (fun h => ?_) (fun h => ?_)
  · have hqn : q < d.accept.length := by have := h; simp at this; omega
    have ha : accN d.accept q = d.accept[q] := by simp [accN, List.getD_eq_getElem?_getD, hqn]
    repeat first | refine opsStep ?_ | refine codeStep ?_ | refine drawStep ?_
    refine guardE_of (by simp; omega) ?_
    repeat first | refine opsStep ?_ | refine codeStep ?_ | refine drawStep ?_
    refine optE_of (c := .bool d.accept[q]) (by simp [Value.cells, hqn]) ?_
    repeat first | refine opsStep ?_ | refine codeStep ?_ | refine drawStep ?_
    refine decB_split (fun h => ?_) (fun h => ?_)
    · repeat first | refine opsStep ?_ | refine codeStep ?_ | refine drawStep ?_
      refine guardE_of (by simp; omega) ?_
      repeat first | refine opsStep ?_ | refine codeStep ?_ | refine drawStep ?_
      refine guardE_of ⟨rfl, by decide, by show 0 + q * 1 + 1 ≤ ((partL (initF d.accept) d.accept.length q).map (AV.int .i64)).length; rw [List.length_map, hpl]; omega⟩ ?_
      repeat first | refine opsStep ?_ | refine codeStep ?_ | refine drawStep ?_
      refine ⟨⟨q + 1, by omega⟩, (by show d.accept.length - (q + 1) < d.accept.length - q; omega), Ent.fr' ⟨(by kernel_rfl), (by kernel_rfl), (by kernel_rfl), (by kernel_rfl), inc_slot (i := q) (by omega), trivial⟩ ?_⟩
      refine Eq.trans (b := [Blk.cells 0 d.cells, Blk.cells 0 (over ((partL (initF d.accept) d.accept.length q).map (AV.int .i64)) (0 + q * 1) [.int .i64 1])]) (by kernel_rfl) ?_
      rw [Nat.zero_add, Nat.mul_one, over_one (by rw [List.length_map, hpl]; omega)]
      show _ = [Blk.cells 0 d.cells, Blk.cells 0 ((partL (initF d.accept) d.accept.length (q + 1)).map (.int .i64))]
      rw [← partL_step, List.map_set, show initF d.accept q = 1 by rw [initF, ha, h]; rfl]
    · repeat first | refine opsStep ?_ | refine codeStep ?_ | refine drawStep ?_
      refine ⟨⟨q + 1, by omega⟩, (by show d.accept.length - (q + 1) < d.accept.length - q; omega), Ent.fr' ⟨(by kernel_rfl), (by kernel_rfl), (by kernel_rfl), (by kernel_rfl), inc_slot (i := q) (by omega), trivial⟩ ?_⟩
      refine Eq.trans (b := [Blk.cells 0 d.cells, Blk.cells 0 ((partL (initF d.accept) d.accept.length (q)).map (.int .i64))]) (by kernel_rfl) ?_
      show _ = [Blk.cells 0 d.cells, Blk.cells 0 ((partL (initF d.accept) d.accept.length (q + 1)).map (.int .i64))]
      rw [partL_skip (by rw [initF, ha, h]; rfl)]
  · have hqn : q = d.accept.length := by have := h; simp at this; omega
    subst hqn
    refine VCode.ent (Ent.freezeLast (l := [(1, .ref 0 0 0), (3, .hs 1 0 0 d.accept.length 1)]) (l' := [(1, .ref 0 0 0), (3, .sl .any d.accept.length ((partL (initF d.accept) d.accept.length d.accept.length).map (.int .i64)))])
      (cs := (partL (initF d.accept) d.accept.length d.accept.length).map (.int .i64)) (g := 0) (n := d.accept.length) (es := 1) [.cells 0 d.cells] 3 ⟨(by kernel_rfl), (by kernel_rfl), trivial⟩ (by kernel_rfl) (by kernel_rfl) (by kernel_rfl) (by rw [List.length_map, hpl, Nat.mul_one]) (Nat.zero_le _) ⟨(by kernel_rfl), (by kernel_rfl), trivial⟩ (by first | (simp [frBel, blksBel, Blk.bel, AV.bel, bels, bels_append, bels_map, aSs_bel, aIs_bel, aBs_bel, aRs_bel, aDen_bel, cells_bel]; done) | (simp only [List.drop_zero, ← List.map_take, ← List.map_drop, List.map_map, frBel, blksBel, Blk.bel, AV.bel, bels, bels_append, bels_map, aSs_bel, aIs_bel, aBs_bel, aRs_bel, aDen_bel, cells_bel]; simp [AV.bel, aSs_bel, aIs_bel, aBs_bel, aRs_bel, aDen_bel, cells_bel])) (by first | (simp [frBel, blksBel, Blk.bel, AV.bel, bels, bels_append, bels_map, aSs_bel, aIs_bel, aBs_bel, aRs_bel, aDen_bel, cells_bel]; done) | (simp only [List.drop_zero, ← List.map_take, ← List.map_drop, List.map_map, frBel, blksBel, Blk.bel, AV.bel, bels, bels_append, bels_map, aSs_bel, aIs_bel, aBs_bel, aRs_bel, aDen_bel, cells_bel]; simp [AV.bel, aSs_bel, aIs_bel, aBs_bel, aRs_bel, aDen_bel, cells_bel]))) ?_
    have e0 : AV.sl .any d.accept.length ((partL (initF d.accept) d.accept.length d.accept.length).map (.int .i64)) = aIs .any (cls0 d.accept) := by
      rw [partL_full, init_cls0, aIs]; simp [cls0]
    rw [e0]
    repeat first | refine opsStep ?_ | refine codeStep ?_ | refine drawStep ?_
    refine loopE_of (ι := {x : Nat × List Int × Nat // ClsInv d x.2.1 ∧ (x.2.2 = 0 ∨ x.2.2 = disN x.2.1) ∧ d.accept.length + 1 ≤ x.1 + x.2.2 ∧ clsL d.rows x.1 x.2.1 x.2.2 = clsD d})
      (fun x => (fr [(1, .ref 0 0 0), (3, aIs .any x.1.2.1), (6, .int .i64 (x.1.2.2 : Nat))], [.cells 0 d.cells])) (fun x => x.1.1)
      ⟨(d.accept.length + 1, cls0 d.accept, 0), cls0_inv d, .inl rfl, Nat.le_refl _, rfl⟩ (Ent.fr' ⟨(by kernel_rfl), (by kernel_rfl), (by kernel_rfl), trivial⟩ (by kernel_rfl)) ?_
    rintro ⟨⟨f, cls, c⟩, hi, hc, hf, he⟩
    simp only at hi hc hf he
    have hsplit := canon_split .any d hd hr cls hi.len hi.rng
    have hmore := sp_more hr hi
    have hlen := hi.len
    have hdl := dis_le cls
    have hni := sp_inv hr hi
    obtain ⟨f, rfl⟩ : ∃ g, f = g + 1 := ⟨f - 1, by omega⟩
    rw [clsL] at he
    have hdd := (dis_den (spN cls d.rows)).symm
    have hdl2 := dis_le (spN cls d.rows)
    rw [show (metL [] (spN cls d.rows)).length = disN (spN cls d.rows) from rfl] at hsplit
    generalize denL (spN cls d.rows) = nx at *
    generalize disN (spN cls d.rows) = nc at *
    repeat first | refine opsStep ?_ | refine codeStep ?_ | refine drawStep ?_
    refine callP hsplit ?_
    repeat first | refine opsStep ?_ | refine codeStep ?_ | refine drawStep ?_
    refine decB_dec (fun h => ?_) (fun h => ?_)
    · have hcc : nc = c := by have := h; simp at this; omega
      rw [if_pos hcc] at he
      repeat first | refine opsStep ?_ | refine codeStep ?_ | refine drawStep ?_
      exact finV (v' := aIs .any nx) (by kernel_rfl) (by rw [he])
    · have hcc : ¬ nc = c := by have := h; simp at this; omega
      rw [if_neg hcc] at he
      repeat first | refine opsStep ?_ | refine codeStep ?_ | refine drawStep ?_
      exact ⟨⟨(f, nx, nc), hni, .inr hdd, by simp only []; omega, he⟩, Nat.lt_succ_self f, Ent.fr' ⟨(by kernel_rfl), (by kernel_rfl), (by kernel_rfl), trivial⟩ (by kernel_rfl)⟩

/-- Of each state the least one alike. -/
def lstD (d : Den) : List Int := (clsD d).map fun c => ((clsD d).idxOf c : Int)
theorem lstD_length {d : Den} (hr : rightS d = true) : (lstD d).length = d.accept.length := by rw [lstD, List.length_map]; exact (clsD_ner hr).len

theorem canon_Classes (d : Den) (hd : DenOk d) (hr : rightS d = true) : Pure Try.prog 48 [aDen d] (.tup [aIs .any (lstD d), .int .i64 0]) := by
  have hR := table_Right d hd
  rw [rightE_ok hr] at hR
  have hC := canon_classes d hd hr
  have hl := (clsD_ner hr).len
  have h256 := (tracksS_parts (rightS_parts hr).1).2.2.2
  have hix := fun (q : Nat) (hq : q < (clsD d).length) => show (lstD d).getD q 0 = idxI (clsD d) (clsD d)[q] by
    rw [idxI, if_pos (List.idxOf_lt_length_of_mem (List.getElem_mem hq))]
    simp [lstD, List.getD_eq_getElem?_getD, hq]
  have hfull : (List.range (clsD d).length).map (fun j => (lstD d).getD j 0) = lstD d := by
    refine List.ext_getElem (by simp [lstD]) fun i h1 h2 => ?_
    simp [List.getD_eq_getElem?_getD, h2]
  have hidx := fun x => slices_Index_I .any (clsD d) x (by omega)
  generalize clsD d = cls at *
  refine Pure.of_sw 34 Try.func48 rfl Try.ntmps48 (by kernel_rfl) (Nat.le_of_ble_eq_true (by kernel_rfl)) (by simp [closeds, AV.closed, aSs_closed, aIs_closed, aBs_closed, aRs_closed, aDen_closed]) (by simp [AV.closed, closeds, aSs_closed, aIs_closed, aBs_closed, aRs_closed, aDen_closed]) ?_; refine SW.of_vc ?_
  repeat first | refine opsStep ?_ | refine codeStep ?_ | refine drawStep ?_
  refine callP hR ?_
  repeat first | refine opsStep ?_ | refine codeStep ?_ | refine drawStep ?_
  refine callP hC ?_
  repeat first | refine opsStep ?_ | refine codeStep ?_ | refine drawStep ?_
  refine guardE_of ⟨by omega, by omega, by show (8 : Int) * (cls.length : Int) ≤ 281474976710656; omega, by omega⟩ ?_
  repeat first | refine opsStep ?_ | refine codeStep ?_ | refine drawStep ?_
  refine loopE_of (ι := {q : Nat // q ≤ cls.length})
    (fun q => (fr [(5, aIs .any cls), (6, .hs 1 0 0 cls.length 1), (19, aIs .any cls), (20, .int .i64 cls.length), (21, .int .i64 q.1)], [Blk.cells 0 d.cells, Blk.cells 0 ((partL (fun j => (lstD d).getD j 0) cls.length q.1).map (.int .i64))]))
    (fun q => cls.length - q.1) ⟨0, by omega⟩ (Ent.fr' ⟨(by kernel_rfl), (by kernel_rfl), (by kernel_rfl), (by kernel_rfl), (by kernel_rfl), trivial⟩ ?_) ?_
  · refine Eq.trans (b := [Blk.cells 0 d.cells, Blk.cells 0 (reps [.int .i64 0] cls.length)]) (by kernel_rfl) ?_
    rw [reps_one, partL_zero]; simp
  rintro ⟨q, hq⟩
  have hpl := partL_length (fun j => (lstD d).getD j 0) cls.length q
  repeat first | refine opsStep ?_ | refine codeStep ?_ | refine drawStep ?_
  refine decB_dec (fun h => ?_) (fun h => ?_)
  · have hqn : q < cls.length := by have := h; simp at this; omega
    repeat first | refine opsStep ?_ | refine codeStep ?_ | refine drawStep ?_
    refine guardE_of (by simp; omega) ?_
    repeat first | refine opsStep ?_ | refine codeStep ?_ | refine drawStep ?_
    refine optE_of (c := .int .i64 cls[q]) (by simp [Value.cells, hqn]) ?_
    repeat first | refine opsStep ?_ | refine codeStep ?_ | refine drawStep ?_
    refine callP (hidx cls[q]) ?_
    repeat first | refine opsStep ?_ | refine codeStep ?_ | refine drawStep ?_
    refine guardE_of (by simp; omega) ?_
    repeat first | refine opsStep ?_ | refine codeStep ?_ | refine drawStep ?_
    refine guardE_of ⟨rfl, by decide, by show 0 + q * 1 + 1 ≤ ((partL (fun j => (lstD d).getD j 0) cls.length q).map (AV.int .i64)).length; rw [List.length_map, hpl]; omega⟩ ?_
    repeat first | refine opsStep ?_ | refine codeStep ?_ | refine drawStep ?_
    refine ⟨⟨q + 1, by omega⟩, (by show cls.length - (q + 1) < cls.length - q; omega), Ent.fr' ⟨(by kernel_rfl), (by kernel_rfl), (by kernel_rfl), (by kernel_rfl), inc_slot (i := q) (by omega), trivial⟩ ?_⟩
    refine Eq.trans (b := [Blk.cells 0 d.cells, Blk.cells 0 (over ((partL (fun j => (lstD d).getD j 0) cls.length q).map (AV.int .i64)) (0 + q * 1) [.int .i64 (idxI cls cls[q])])]) (by kernel_rfl) ?_
    rw [Nat.zero_add, Nat.mul_one, over_one (by rw [List.length_map, hpl]; omega), ← hix q hqn]
    show _ = [Blk.cells 0 d.cells, Blk.cells 0 ((partL (fun j => (lstD d).getD j 0) cls.length (q + 1)).map (.int .i64))]
    rw [← partL_step, List.map_set]
  · have hqn : q = cls.length := by have := h; simp at this; omega
    subst hqn
    rw [partL_full, hfull] at hpl
    rw [partL_full, hfull]
    repeat first | refine opsStep ?_ | refine codeStep ?_ | refine drawStep ?_
    refine finH (l := [(2, .hs 1 0 0 cls.length 1), (3, .int .i64 0)]) (H₁ := [Blk.cells 0 d.cells, Blk.cells 0 ((lstD d).map (.int .i64))]) ⟨(by kernel_rfl), (by kernel_rfl), trivial⟩ (by kernel_rfl) (Ent.freeze (b := 1) (g := 0) (n := cls.length) (es := 1) (cs := (lstD d).map (.int .i64)) 2 (by kernel_rfl) (by kernel_rfl) (by rw [List.length_map, hpl, Nat.mul_one])) ?_
    refine Eq.trans (b := some (.tup [.sl .any cls.length ((lstD d).map (.int .i64)), .int .i64 0])) (by kernel_rfl) ?_
    rw [aIs, hpl]

theorem canon_Classes_bad (d : Den) (hd : DenOk d) (hr : rightS d = false) : Pure Try.prog 48 [aDen d] (.tup [.sl .nil 0 [], .int .i64 3]) := by
  have hR := table_Right d hd
  rw [rightE_bad hr] at hR
  refine Pure.of_sw 34 Try.func48 rfl Try.ntmps48 (by kernel_rfl) (Nat.le_of_ble_eq_true (by kernel_rfl)) (by simp [closeds, AV.closed, aSs_closed, aIs_closed, aBs_closed, aRs_closed, aDen_closed]) (by simp [AV.closed, closeds, aSs_closed, aIs_closed, aBs_closed, aRs_closed, aDen_closed]) ?_; refine SW.of_vc ?_
  repeat first | refine opsStep ?_ | refine codeStep ?_ | refine drawStep ?_
  refine callP hR ?_
  repeat first | refine opsStep ?_ | refine codeStep ?_ | refine drawStep ?_
  exact finV (v' := .tup [.sl .nil 0 [], .int .i64 3]) (by kernel_rfl) rfl

end Tab

/- canon.Minimal. -/
namespace Tab
open Go Go.Proofs
set_option maxRecDepth 10000
set_option linter.unusedVariables false
set_option linter.unusedSimpArgs false
set_option linter.unusedSectionVars false

def lstN (d : Den) (q : Nat) : Nat := ((lstD d).getD q 0).toNat
theorem lst_cast {d : Den} {q : Nat} (h : q < (clsD d).length) : (lstD d).getD q 0 = (lstN d q : Int) ∧ lstN d q < (clsD d).length := by
  have e : (lstD d).getD q 0 = ((clsD d).idxOf (clsD d)[q] : Int) := by simp [lstD, List.getD_eq_getElem?_getD, h]
  have := List.idxOf_lt_length_of_mem (List.getElem_mem h)
  constructor
  · rw [lstN, e]; simp
  · rw [lstN, e]; simpa using this
/-- Where a state leads, letter by letter, in classes. -/
def minF (d : Den) (q : Nat) : List Nat := (List.range (2 ^ d.tracks.length)).map fun a => lstN d (stepN d.rows q a)
theorem minF_length (d q) : (minF d q).length = 2 ^ d.tracks.length := by simp [minF]
def minR (d : Den) : List Nat := expl (minF d) 300 0 [0]
def minD (d : Den) : Den := ⟨.any, d.tracks, .any, (minR d).map (accN d.accept), .any, (minR d).map fun q => (.any, rowX (minF d) (minR d) q)⟩

def numL (n : Nat) (L : List Nat) : List Int := (List.range n).map fun j => if j ∈ L then (L.idxOf j : Int) else -1
theorem numL_length (n L) : (numL n L).length = n := by simp [numL]
theorem numL_get {n L j} (h : j < n) : (numL n L)[j]'(by rw [numL_length]; exact h) = if j ∈ L then (L.idxOf j : Int) else -1 := by simp [numL]
theorem numL_set {n : Nat} {L : List Nat} {x : Nat} (hx : x ∉ L) : (numL n L).set x (L.length : Int) = numL n (L ++ [x]) := by
  refine List.ext_getElem (by simp [numL]) fun j h1 h2 => ?_
  simp only [numL, List.getElem_set, List.getElem_map, List.getElem_range, List.mem_append, List.mem_singleton, List.idxOf_append]
  by_cases e : x = j
  · subst e; simp [hx]
  · have e' : ¬ j = x := fun k => e k.symm
    rw [if_neg e]
    by_cases hj : j ∈ L
    · simp [hj]
    · simp [hj, e']
theorem numL_nil (n : Nat) : numL n [] = List.replicate n (-1) := by
  refine List.ext_getElem (by simp [numL]) fun j h1 h2 => ?_
  simp [numL]

set_option maxHeartbeats 1000000 in
theorem canon_Minimal (d : Den) (hd : DenOk d) (hr : rightS d = true) : Pure Try.prog 27 [aDen d] (.tup [aDen (minD d), .int .i64 0]) := by
  have hC := canon_Classes d hd hr
  have hll := lstD_length hr
  have hcl := (clsD_ner hr).len
  have hpos := right_pos hr
  have h256 := (tracksS_parts (rightS_parts hr).1).2.2.2
  have hk6 := (tracksS_parts (rightS_parts hr).1).1
  have hK : 2 ^ d.tracks.length ≤ 64 := by have : 2 ^ d.tracks.length ≤ 2 ^ 6 := Nat.pow_le_pow_right (by omega) hk6; omega
  have h1 := hd.tracks
  have hlc := fun q (h : q < d.accept.length) => lst_cast (d := d) (q := q) (by omega)
  have hfl := fun q => minF_length d q
  have hfq := fun (q a : Nat) (hq : q < d.accept.length) (ha : a < 2 ^ d.tracks.length) => show (minF d q).getD a 0 = lstN d (stepN d.rows q a) by
    rw [List.getD_eq_getElem?_getD, minF, List.getElem?_map, List.getElem?_range ha]; rfl
  refine Pure.of_read (by simp [closeds, aDen_closed]) (by simp [AV.closed, closeds, aDen_closed])
    (R := fun o H' => o = .ret (.tup [.agg [aSs .any d.tracks, .hs 5 (minR d).length 0 (minR d).length 1, .hs 6 (minR d).length 0 (minR d).length 1], .int .i64 0]) ∧
      ∃ b0 b1 b2 b3 b4, H' = [b0, b1, b2, b3, b4, .cells (minR d).length (((minR d).map (accN d.accept)).map .bool), .cells (minR d).length (((minR d).map (rowX (minF d) (minR d))).map (aIs .any))]) ?_ ?_
  rotate_left
  · rintro o H' ⟨rfl, b0, b1, b2, b3, b4, rfl⟩
    refine ⟨_, rfl, .tup (.cons (.agg (.cons (.refl _) (.cons ?_ (.cons ?_ .nil)))) (.cons (.refl _) .nil))⟩
    · show Rd _ _ (aBs .any ((minR d).map (accN d.accept)))
      rw [aBs, List.length_map]
      exact Rd.whole rfl (by simp)
    · have e : aRs .any (minD d).next = .sl .any (minR d).length (((minR d).map (rowX (minF d) (minR d))).map (aIs .any)) := by simp [aRs, minD, Function.comp_def]
      show Rd _ _ (aRs .any (minD d).next)
      rw [e]
      exact Rd.whole rfl (by simp)
  have hRe : expl (minF d) (300 - 0) 0 [0] = minR d := rfl
  generalize minR d = R at *
  refine ACall.of_sw 114 Try.func27 rfl Try.ntmps27 (by kernel_rfl) (Nat.le_of_ble_eq_true (by kernel_rfl)) ?_; refine SW.of_vc ?_
  repeat first | refine opsStep ?_ | refine codeStep ?_ | refine drawStep ?_
  refine callP hC ?_
  repeat first | refine opsStep ?_ | refine codeStep ?_ | refine drawStep ?_
  refine guardE_of ⟨by omega, by omega, by show (8 : Int) * ((lstD d).length : Int) ≤ 281474976710656; omega, by omega⟩ ?_
  repeat first | refine opsStep ?_ | refine codeStep ?_ | refine drawStep ?_
  refine loopE_of (ι := {q : Nat // q ≤ d.accept.length})
    (fun q => (fr [(1, .ref 0 0 0), (2, .ref 1 0 0), (4, aIs .any (lstD d)), (6, .hs 2 0 0 d.accept.length 1), (28, .int .i64 d.accept.length), (29, .int .i64 q.1)], [Blk.cells 0 d.cells, .cells 0 [.sl .nil 0 [], .sl .nil 0 [], .sl .nil 0 []], Blk.cells 0 ((partL (fun _ => -1) d.accept.length q.1).map (.int .i64))]))
    (fun q => d.accept.length - q.1) ⟨0, by omega⟩ (Ent.fr' ⟨(by kernel_rfl), (by kernel_rfl), (by kernel_rfl), ?_, ?_, (by kernel_rfl), trivial⟩ ?_) ?_
  · rw [← hll]; kernel_rfl
  · rw [← hll]; kernel_rfl
  · refine Eq.trans (b := [Blk.cells 0 d.cells, .cells 0 [.sl .nil 0 [], .sl .nil 0 [], .sl .nil 0 []], Blk.cells 0 (reps [.int .i64 0] (lstD d).length)]) (by kernel_rfl) ?_
    rw [reps_one, partL_zero, hll]; simp
  rintro ⟨q, hq⟩
  have hpl := partL_length (fun _ => -1) d.accept.length q
  repeat first | refine opsStep ?_ | refine codeStep ?_ | refine drawStep ?_
  refine decB_dec (fun h => ?_) (fun h => ?_)
  · have hqn : q < d.accept.length := by have := h; simp at this; omega
    repeat first | refine opsStep ?_ | refine codeStep ?_ | refine drawStep ?_
    refine guardE_of (by simp; omega) ?_
    repeat first | refine opsStep ?_ | refine codeStep ?_ | refine drawStep ?_
    refine guardE_of ⟨rfl, by decide, by show 0 + q * 1 + 1 ≤ ((partL (fun _ => -1) d.accept.length q).map (AV.int .i64)).length; rw [List.length_map, hpl]; omega⟩ ?_
    repeat first | refine opsStep ?_ | refine codeStep ?_ | refine drawStep ?_
    refine ⟨⟨q + 1, by omega⟩, (by show d.accept.length - (q + 1) < d.accept.length - q; omega), Ent.fr' ⟨(by kernel_rfl), (by kernel_rfl), (by kernel_rfl), (by kernel_rfl), (by kernel_rfl), inc_slot (i := q) (by omega), trivial⟩ ?_⟩
    refine Eq.trans (b := [Blk.cells 0 d.cells, .cells 0 [.sl .nil 0 [], .sl .nil 0 [], .sl .nil 0 []], Blk.cells 0 (over ((partL (fun _ => -1) d.accept.length q).map (AV.int .i64)) (0 + q * 1) [.int .i64 (-1)])]) (by kernel_rfl) ?_
    rw [Nat.zero_add, Nat.mul_one, over_one (by rw [List.length_map, hpl]; omega)]
    show _ = [Blk.cells 0 d.cells, .cells 0 [.sl .nil 0 [], .sl .nil 0 [], .sl .nil 0 []], Blk.cells 0 ((partL (fun _ => -1) d.accept.length (q + 1)).map (.int .i64))]
    rw [← partL_step, List.map_set]
  have hqn : q = d.accept.length := by have := h; simp at this; omega
  subst hqn
  have e0 : partL (fun _ => -1) d.accept.length d.accept.length = numL d.accept.length [] := by
    rw [partL_full, numL_nil]; exact List.ext_getElem (by simp) (by simp)
  rw [e0]
  repeat first | refine opsStep ?_ | refine codeStep ?_ | refine drawStep ?_
  refine guardE_of (by simp; omega) ?_
  repeat first | refine opsStep ?_ | refine codeStep ?_ | refine drawStep ?_
  refine guardE_of ⟨rfl, by decide, by show 0 + 0 * 1 + 1 ≤ ((numL d.accept.length []).map (AV.int .i64)).length; rw [List.length_map, numL_length]; omega⟩ ?_
  repeat first | refine opsStep ?_ | refine codeStep ?_ | refine drawStep ?_
  refine callP (slices_Clone_S d.tk d.tracks (by omega)) ?_
  repeat first | refine opsStep ?_ | refine codeStep ?_ | refine drawStep ?_
  refine loopE_of (ι := {x : Nat × List Nat × Nat // x.1 ≤ x.2.1.length ∧ expl (minF d) (300 - x.1) x.1 x.2.1 = R ∧ x.2.1.Nodup ∧ (∀ y ∈ x.2.1, y < d.accept.length) ∧ (∀ j, j < x.1 → ∀ s, x.2.1[j]? = some s → ∀ t ∈ minF d s, t ∈ x.2.1)})
    (fun x => (fr [(1, .ref 0 0 0), (2, .ref 1 0 0), (4, aIs .any (lstD d)), (6, .hs 2 0 0 d.accept.length 1), (8, .hs 3 (x.1.2.2) 0 (x.1.2.1).length 1), (9, .ref 4 0 0), (10, .int .i64 (x.1.1))], [Blk.cells 0 d.cells, .cells 0 [.sl .nil 0 [], .sl .nil 0 [], .sl .nil 0 []], .cells 0 (((numL d.accept.length x.1.2.1)).map (.int .i64)), .cells (x.1.2.2) ((x.1.2.1).map fun x : Nat => .int .i64 (x : Int)), .cells 0 [aSs .any d.tracks, .hs 5 (x.1.1) 0 (x.1.1) 1, .hs 6 (x.1.1) 0 (x.1.1) 1], .cells (x.1.1) ((((x.1.2.1.take x.1.1).map (accN d.accept))).map .bool), .cells (x.1.1) ((((x.1.2.1.take x.1.1).map (rowX (minF d) x.1.2.1))).map (aIs .any))]))
    (fun x => 300 - x.1.1) ⟨(0, [0], 0), by simp, hRe, by simp, by simpa using hpos, by simp⟩
    (((Ent.fr' (l := [(1, .ref 0 0 0), (2, .ref 1 0 0), (4, aIs .any (lstD d)), (6, .hs 2 0 0 d.accept.length 1), (8, .hs 3 (0) 0 ([0]).length 1), (9, .ref 4 0 0), (10, .int .i64 ((0 : Nat)))])
      (H' := [.cells 0 d.cells, .cells 0 [.sl .nil 0 [], .sl .nil 0 [], .sl .nil 0 []], .cells 0 ((numL d.accept.length [0]).map (.int .i64)), .cells 0 [.int .i64 (0 : Nat)], .cells 0 [aSs .any d.tracks, .sl .nil 0 [], .sl .nil 0 []]]) ⟨(by kernel_rfl), (by kernel_rfl), (by kernel_rfl), (by kernel_rfl), (by kernel_rfl), (by kernel_rfl), (by kernel_rfl), trivial⟩ ?_).trans (Ent.nilCell 4 1 1 rfl rfl)).trans (Ent.nilCell 4 2 1 rfl rfl) |>.to rfl) ?_
  · refine Eq.trans (b := [.cells 0 d.cells, .cells 0 [.sl .nil 0 [], .sl .nil 0 [], .sl .nil 0 []], .cells 0 (over ((numL d.accept.length []).map (AV.int .i64)) (0 + 0 * 1) [.int .i64 0]), .cells 0 [.int .i64 (0 : Nat)], .cells 0 [aSs .any d.tracks, .sl .nil 0 [], .sl .nil 0 []]]) (by kernel_rfl) ?_
    rw [Nat.zero_add, Nat.mul_one, over_one (by rw [List.length_map, numL_length]; omega)]
    have := numL_set (n := d.accept.length) (L := []) (x := 0) (by simp)
    rw [show [0] = [] ++ [0] from rfl, ← this, List.map_set]
    rfl
  rintro ⟨⟨i, L, g⟩, hi, hex, hnd, hlt, hcz⟩
  simp only at hi hex hnd hlt hcz
  have hLn := nodup_le hnd hlt
  repeat first | refine opsStep ?_ | refine codeStep ?_ | refine drawStep ?_
  refine decB_dec (fun h => ?_) (fun h => ?_)
  · have hiL : i < L.length := by have := h; simp at this; omega
    obtain ⟨q, hqe⟩ : ∃ q, L[i] = q := ⟨_, rfl⟩
    have hqn : q < d.accept.length := hqe ▸ hlt _ (List.getElem_mem hiL)
    have hgq : L[i]? = some q := by rw [List.getElem?_eq_getElem hiL, hqe]
    obtain ⟨_, hnx, hrows⟩ := rightS_parts hr
    have hqx : q < d.next.length := by omega
    obtain ⟨l1, l2⟩ := rowOk_parts (hrows _ (List.getElem_mem hqx))
    have hst := fun a (ha : a < 2 ^ d.tracks.length) => stepN_ok hr hqn ha
    have hrowq : d.next[q]? = some d.next[q] := List.getElem?_eq_getElem hqx
    rw [show 300 - i = (300 - (i + 1)) + 1 by omega, expl_some hgq] at hex
    have hacc : d.accept[q]? = some (accN d.accept q) := by simp [accN, List.getD_eq_getElem?_getD, hqn]
    have haccn : (L.take (i + 1)).map (accN d.accept) = (L.take i).map (accN d.accept) ++ [accN d.accept q] := by
      rw [List.take_succ_eq_append_getElem hiL, List.map_append, hqe]; rfl
    have hrown : (L.take (i + 1)).map (rowX (minF d) (metL L (minF d q))) = (L.take i).map (rowX (minF d) L) ++ [rowX (minF d) (metL L (minF d q)) q] := by
      rw [List.take_succ_eq_append_getElem hiL, List.map_append, hqe]
      congr 1
      refine List.map_congr_left fun s hs => ?_
      obtain ⟨j, hj, rfl⟩ := List.getElem_of_mem hs
      have hji : j < i := by simp at hj; omega
      obtain ⟨r, hrr⟩ := metL_prefix (minF d q) L
      rw [hrr]
      exact rowX_grow (hcz j hji _ (by simp [List.getElem?_eq_getElem (show j < L.length by omega)]))
    have hall : (List.range (2 ^ d.tracks.length)).map (fun j => ((metL L (minF d q)).idxOf ((minF d q).getD j 0) : Int)) = rowX (minF d) (metL L (minF d q)) q := by
      rw [rowX]
      refine List.ext_getElem (by simp [hfl]) fun j h1 h2 => ?_
      have : j < (minF d q).length := by simpa using h2
      simp [List.getD_eq_getElem?_getD, this]
    have hal : ((L.take i).map (accN d.accept)).length = i := by simp; omega
    have hrwl : ((L.take i).map (rowX (minF d) L)).length = i := by simp; omega
    generalize (L.take i).map (accN d.accept) = acs at *
    generalize (L.take i).map (rowX (minF d) L) = rws at *
    generalize hre : d.next[q] = r at *
    obtain ⟨rk, rl⟩ := r
    simp only at l1 l2 hst
    repeat first | refine opsStep ?_ | refine codeStep ?_ | refine drawStep ?_
    refine guardE_of (by simp; omega) ?_
    repeat first | refine opsStep ?_ | refine codeStep ?_ | refine drawStep ?_
    refine guardE_of rfl ?_
    refine optE_of rfl ?_
    refine optE_of (c := .int .i64 (q : Nat)) (by simp [Value.cells, hgq]) ?_
    repeat first | refine opsStep ?_ | refine codeStep ?_ | refine drawStep ?_
    refine guardE_of (by simp; omega) ?_
    repeat first | refine opsStep ?_ | refine codeStep ?_ | refine drawStep ?_
    refine optE_of (c := aIs rk rl) (by simp [Value.cells, hrowq]) ?_
    repeat first | refine opsStep ?_ | refine codeStep ?_ | refine drawStep ?_
    refine guardE_of ⟨by omega, by omega, by show (8 : Int) * (rl.length : Int) ≤ 281474976710656; omega, by omega⟩ ?_
    repeat first | refine opsStep ?_ | refine codeStep ?_ | refine drawStep ?_
    refine guardE_of (by simp; omega) ?_
    repeat first | refine opsStep ?_ | refine codeStep ?_ | refine drawStep ?_
    refine optE_of (c := aIs rk rl) (by simp [Value.cells, hrowq]) ?_
    repeat first | refine opsStep ?_ | refine codeStep ?_ | refine drawStep ?_
    refine loopE_of (ι := {y : Nat × Nat // y.1 ≤ rl.length})
      (fun y => (fr [(1, .ref 0 0 0), (2, .ref 1 0 0), (4, aIs .any (lstD d)), (6, .hs 2 0 0 d.accept.length 1), (8, .hs 3 (y.1.2) 0 ((metL L ((minF d q).take y.1.1))).length 1), (9, .ref 4 0 0), (10, .int .i64 (i)), (11, .int .i64 (q : Nat)), (12, .hs 7 0 0 rl.length 1), (64, aIs rk rl), (65, .int .i64 rl.length), (66, .int .i64 y.1.1)],
        [Blk.cells 0 d.cells, .cells 0 [.sl .nil 0 [], .sl .nil 0 [], .sl .nil 0 []], .cells 0 (((numL d.accept.length (metL L ((minF d q).take y.1.1)))).map (.int .i64)), .cells (y.1.2) (((metL L ((minF d q).take y.1.1))).map fun x : Nat => .int .i64 (x : Int)), .cells 0 [aSs .any d.tracks, .hs 5 (i) 0 (i) 1, .hs 6 (i) 0 (i) 1], .cells (i) ((acs).map .bool), .cells (i) ((rws).map (aIs .any))] ++ [.cells 0 ((partL (fun j => ((metL L (minF d q)).idxOf ((minF d q).getD j 0) : Int)) rl.length y.1.1).map (.int .i64))]))
      (fun y => rl.length - y.1.1) ⟨(0, g), by simp⟩ (Ent.fr' ⟨(by kernel_rfl), (by kernel_rfl), (by kernel_rfl), (by kernel_rfl), (by kernel_rfl), (by kernel_rfl), (by kernel_rfl), (by kernel_rfl), (by kernel_rfl), (by kernel_rfl), (by kernel_rfl), (by kernel_rfl), trivial⟩ ?_) ?_
    · refine Eq.trans (b := [Blk.cells 0 d.cells, .cells 0 [.sl .nil 0 [], .sl .nil 0 [], .sl .nil 0 []], .cells 0 (((numL d.accept.length L)).map (.int .i64)), .cells (g) ((L).map fun x : Nat => .int .i64 (x : Int)), .cells 0 [aSs .any d.tracks, .hs 5 (i) 0 (i) 1, .hs 6 (i) 0 (i) 1], .cells (i) ((acs).map .bool), .cells (i) ((rws).map (aIs .any))] ++ [.cells 0 (reps [.int .i64 0] rl.length)]) (by kernel_rfl) ?_
      rw [reps_one, partL_zero]; simp [metL]
    rintro ⟨⟨a, g⟩, ha⟩
    have ha : a ≤ rl.length := ha
    have hpl := partL_length (fun j => ((metL L (minF d q)).idxOf ((minF d q).getD j 0) : Int)) rl.length a
    have hLa : ∀ y ∈ metL L ((minF d q).take a), y < d.accept.length := fun y hy => by
      rcases (metL_mem _ _ _).1 hy with hy | hy
      · exact hlt y hy
      · obtain ⟨b, hb, rfl⟩ := List.mem_map.1 (List.mem_of_mem_take hy)
        have hb := List.mem_range.1 hb
        have := (hlc _ (hst b hb).2.2.2).2
        omega
    have hLan := metL_nodup ((minF d q).take a) L hnd
    have hLal := nodup_le hLan hLa
    refine VCode.ent (Ent.fr' (l := [(1, .ref 0 0 0), (2, .ref 1 0 0), (4, aIs .any (lstD d)), (6, .hs 2 0 0 d.accept.length 1), (8, .hs 3 (g) 0 ((metL L ((minF d q).take a))).length 1), (9, .ref 4 0 0), (10, .int .i64 (i)), (11, .int .i64 (q : Nat)), (12, .hs 7 0 0 rl.length 1), (64, aIs rk rl), (65, .int .i64 rl.length), (66, .int .i64 (a : Nat))])
        (H' := [Blk.cells 0 d.cells, .cells 0 [.sl .nil 0 [], .sl .nil 0 [], .sl .nil 0 []], .cells 0 (((numL d.accept.length (metL L ((minF d q).take a)))).map (.int .i64)), .cells (g) (((metL L ((minF d q).take a))).map fun x : Nat => .int .i64 (x : Int)), .cells 0 [aSs .any d.tracks, .hs 5 (i) 0 (i) 1, .hs 6 (i) 0 (i) 1], .cells (i) ((acs).map .bool), .cells (i) ((rws).map (aIs .any))] ++ [.cells 0 ((partL (fun j => ((metL L (minF d q)).idxOf ((minF d q).getD j 0) : Int)) rl.length (a)).map (.int .i64))]) ⟨(by kernel_rfl), (by kernel_rfl), (by kernel_rfl), (by kernel_rfl), (by kernel_rfl), (by kernel_rfl), (by kernel_rfl), (by kernel_rfl), (by kernel_rfl), (by kernel_rfl), (by kernel_rfl), (by kernel_rfl), trivial⟩ (by kernel_rfl)) ?_
    repeat first | refine opsStep ?_ | refine codeStep ?_ | refine drawStep ?_
    refine decB_dec (fun hg => ?_) (fun hg => ?_)
    · have hal : a < rl.length := by have := hg; simp at this; omega
      have haK : a < 2 ^ d.tracks.length := by omega
      obtain ⟨s1, s2, s3, s4⟩ := hst a haK
      obtain ⟨c1, c2⟩ := hlc _ s4
      have s3 : rl[a] = (stepN d.rows q a : Int) := by
        have : (d.next[q]).2[a]? = some (stepN d.rows q a : Int) := by rw [List.getElem?_eq_getElem s2, s3]
        rw [hre] at this
        exact (List.getElem?_eq_some_iff.1 this).2
      have hfa : a < (minF d q).length := by rw [hfl]; exact haK
      have hfe : (minF d q)[a] = lstN d (stepN d.rows q a) := by
        have := hfq q a hqn haK
        simpa [List.getD_eq_getElem?_getD, hfa] using this
      have hit := metL_at_hit (acc := L) hfa
      have miss := metL_at_miss (acc := L) hfa
      have hgd : (minF d q).getD a 0 = lstN d (stepN d.rows q a) := hfq q a hqn haK
      rw [hfe] at hit miss
      rw [hcl] at c2
      generalize hMe : metL L ((minF d q).take a) = M at *
      generalize stepN d.rows q a = to at *
      generalize lstN d to = tl at *
      have hng := numL_get (n := d.accept.length) (L := M) c2
      repeat first | refine opsStep ?_ | refine codeStep ?_ | refine drawStep ?_
      refine guardE_of (by simp; omega) ?_
      repeat first | refine opsStep ?_ | refine codeStep ?_ | refine drawStep ?_
      refine optE_of (c := .int .i64 (to : Nat)) (by simp [Value.cells, hal, s3]) ?_
      repeat first | refine opsStep ?_ | refine codeStep ?_ | refine drawStep ?_
      refine guardE_of (by simp; omega) ?_
      repeat first | refine opsStep ?_ | refine codeStep ?_ | refine drawStep ?_
      refine optE_of (c := .int .i64 (tl : Nat)) (by simp [Value.cells, ← c1, List.getD_eq_getElem?_getD, show to < (lstD d).length by omega]) ?_
      repeat first | refine opsStep ?_ | refine codeStep ?_ | refine drawStep ?_
      refine guardE_of (by simp; omega) ?_
      repeat first | refine opsStep ?_ | refine codeStep ?_ | refine drawStep ?_
      refine optE_of (c := .int .i64 ((numL d.accept.length M)[tl]'(by rw [numL_length]; exact c2))) (by simp [Value.cells, numL_length, c2]) ?_
      rw [hng]
      by_cases hm : tl ∈ M
      · obtain ⟨k1, k2⟩ := hit hm
        rw [if_pos hm]
        repeat first | refine opsStep ?_ | refine codeStep ?_ | refine drawStep ?_
        refine guardE_of (by simp; omega) ?_
        repeat first | refine opsStep ?_ | refine codeStep ?_ | refine drawStep ?_
        refine optE_of (c := .int .i64 (M.idxOf tl : Nat)) (by simp [Value.cells, numL_length, c2, hng, hm]) ?_
        repeat first | refine opsStep ?_ | refine codeStep ?_ | refine drawStep ?_
        refine guardE_of (by simp; omega) ?_
        repeat first | refine opsStep ?_ | refine codeStep ?_ | refine drawStep ?_
        refine guardE_of ⟨rfl, by decide, by show 0 + a * 1 + 1 ≤ ((partL (fun j => ((metL L (minF d q)).idxOf ((minF d q).getD j 0) : Int)) rl.length (a)).map (AV.int .i64)).length; rw [List.length_map, hpl]; omega⟩ ?_
        repeat first | refine opsStep ?_ | refine codeStep ?_ | refine drawStep ?_
        refine ⟨⟨(a + 1, g), by omega⟩, (by show rl.length - (a + 1) < rl.length - a; omega), Ent.fr' ⟨(by kernel_rfl), (by kernel_rfl), (by kernel_rfl), (by kernel_rfl), ?_, (by kernel_rfl), (by kernel_rfl), (by kernel_rfl), (by kernel_rfl), (by kernel_rfl), (by kernel_rfl), inc_slot (i := a) (by omega), trivial⟩ ?_⟩
        · refine Eq.trans (b := .hs 3 g 0 M.length 1) (by kernel_rfl) ?_
          show _ = AV.hs 3 g 0 (metL L ((minF d q).take (a + 1))).length 1
          rw [k1]
        · refine Eq.trans (b := [Blk.cells 0 d.cells, .cells 0 [.sl .nil 0 [], .sl .nil 0 [], .sl .nil 0 []], .cells 0 (((numL d.accept.length M)).map (.int .i64)), .cells (g) ((M).map fun x : Nat => .int .i64 (x : Int)), .cells 0 [aSs .any d.tracks, .hs 5 (i) 0 (i) 1, .hs 6 (i) 0 (i) 1], .cells (i) ((acs).map .bool), .cells (i) ((rws).map (aIs .any))] ++ [.cells 0 (over ((partL (fun j => ((metL L (minF d q)).idxOf ((minF d q).getD j 0) : Int)) rl.length (a)).map (AV.int .i64)) (0 + a * 1) [.int .i64 (M.idxOf tl : Nat)])]) (by kernel_rfl) ?_
          rw [Nat.zero_add, Nat.mul_one, over_one (by rw [List.length_map, hpl]; omega)]
          show _ = [Blk.cells 0 d.cells, .cells 0 [.sl .nil 0 [], .sl .nil 0 [], .sl .nil 0 []], .cells 0 (((numL d.accept.length (metL L ((minF d q).take (a + 1))))).map (.int .i64)), .cells (g) (((metL L ((minF d q).take (a + 1)))).map fun x : Nat => .int .i64 (x : Int)), .cells 0 [aSs .any d.tracks, .hs 5 (i) 0 (i) 1, .hs 6 (i) 0 (i) 1], .cells (i) ((acs).map .bool), .cells (i) ((rws).map (aIs .any))] ++ [.cells 0 ((partL (fun j => ((metL L (minF d q)).idxOf ((minF d q).getD j 0) : Int)) rl.length (a + 1)).map (.int .i64))]
          rw [k1, ← partL_step, hgd, k2, List.map_set]
      · obtain ⟨k1, k2⟩ := miss hm
        rw [if_neg hm]
        repeat first | refine opsStep ?_ | refine codeStep ?_ | refine drawStep ?_
        refine guardE_of (by simp; omega) ?_
        repeat first | refine opsStep ?_ | refine codeStep ?_ | refine drawStep ?_
        refine guardE_of ⟨rfl, by decide, by show 0 + tl * 1 + 1 ≤ ((numL d.accept.length M).map (AV.int .i64)).length; rw [List.length_map, numL_length]; omega⟩ ?_
        repeat first | refine opsStep ?_ | refine codeStep ?_ | refine drawStep ?_
        refine guardE_of ⟨rfl, by simp⟩ ?_
        refine guardE_of rfl ?_
        refine guardE_of ⟨by omega, by show (M.length + 1) * 8 ≤ 140737488355328; omega⟩ ?_
        repeat first | refine opsStep ?_ | refine codeStep ?_ | refine drawStep ?_
        refine guardE_of (by simp; omega) ?_
        repeat first | refine opsStep ?_ | refine codeStep ?_ | refine drawStep ?_
        refine optE_of (c := .int .i64 (M.length : Nat)) (by show (over ((numL d.accept.length M).map (AV.int .i64)) (0 + tl * 1) [.int .i64 (M.length : Nat)])[0 + tl * 1]? = _; rw [Nat.zero_add, Nat.mul_one, over_one (by rw [List.length_map, numL_length]; omega)]; simp [numL_length, c2]) ?_
        repeat first | refine opsStep ?_ | refine codeStep ?_ | refine drawStep ?_
        refine guardE_of (by simp; omega) ?_
        repeat first | refine opsStep ?_ | refine codeStep ?_ | refine drawStep ?_
        refine guardE_of ⟨rfl, by decide, by show 0 + a * 1 + 1 ≤ ((partL (fun j => ((metL L (minF d q)).idxOf ((minF d q).getD j 0) : Int)) rl.length (a)).map (AV.int .i64)).length; rw [List.length_map, hpl]; omega⟩ ?_
        repeat first | refine opsStep ?_ | refine codeStep ?_ | refine drawStep ?_
        refine ⟨⟨(a + 1, g + 1), by omega⟩, (by show rl.length - (a + 1) < rl.length - a; omega), Ent.to (Ent.frD (l := [(1, .ref 0 0 0), (2, .ref 1 0 0), (4, aIs .any (lstD d)), (6, .hs 2 0 0 d.accept.length 1), (8, .hs 3 ((g + 1)) 0 (metL L ((minF d q).take (a + 1))).length 1), (9, .ref 4 0 0), (10, .int .i64 (i)), (11, .int .i64 (q : Nat)), (12, .hs 7 0 0 rl.length 1), (64, aIs rk rl), (65, .int .i64 rl.length), (66, .int .i64 (a + 1 : Nat))]) (X := [.cells 0 [.int .i64 (tl : Nat)]])
          (H' := [Blk.cells 0 d.cells, .cells 0 [.sl .nil 0 [], .sl .nil 0 [], .sl .nil 0 []], .cells 0 (over ((numL d.accept.length M).map (AV.int .i64)) (0 + tl * 1) [.int .i64 (M.length : Nat)]),
            .cells (g + 1) (((M.map fun x : Nat => AV.int .i64 (x : Int)).drop 0).take (M.length * 1) ++ [.int .i64 (tl : Nat)]), .cells 0 [aSs .any d.tracks, .hs 5 i 0 i 1, .hs 6 i 0 i 1], .cells i (acs.map .bool), .cells i (rws.map (aIs .any)),
            .cells 0 (over ((partL (fun j => ((metL L (minF d q)).idxOf ((minF d q).getD j 0) : Int)) rl.length (a)).map (AV.int .i64)) (0 + a * 1) [.int .i64 (M.length : Nat)])])
          ⟨(by kernel_rfl), (by kernel_rfl), (by kernel_rfl), (by kernel_rfl), ?_, (by kernel_rfl), (by kernel_rfl), (by kernel_rfl), (by kernel_rfl), (by kernel_rfl), (by kernel_rfl), inc_slot (i := a) (by omega), trivial⟩ (by kernel_rfl) (Nat.zero_le _) (by first | (simp [frBel, blksBel, Blk.bel, AV.bel, bels, bels_append, bels_map, aSs_bel, aIs_bel, aBs_bel, aRs_bel, aDen_bel, cells_bel]; done) | (simp only [List.drop_zero, ← List.map_take, ← List.map_drop, List.map_map, frBel, blksBel, Blk.bel, AV.bel, bels, bels_append, bels_map, aSs_bel, aIs_bel, aBs_bel, aRs_bel, aDen_bel, cells_bel]; simp [AV.bel, aSs_bel, aIs_bel, aBs_bel, aRs_bel, aDen_bel, cells_bel])) ?_) ?_⟩
        · refine Eq.trans (b := .hs 3 (g + 1) 0 (M.length + 1) 1) (by kernel_rfl) ?_
          rw [k1, List.length_append]; rfl
        · rw [over_one (by rw [List.length_map, numL_length]; omega), over_one (by rw [List.length_map, hpl]; omega), td_all (by simp)]
          simp only [blksBel, Blk.bel, bels_append, bels_map, bels, AV.bel, cells_bel, aSs_bel, aIs_bel, ← List.map_set, and_true, true_and]
          simp [bels_map, AV.bel, aIs_bel]
        · rw [td_all (by simp), Nat.zero_add, Nat.mul_one, over_one (by rw [List.length_map, numL_length]; omega), Nat.zero_add, Nat.mul_one, over_one (by rw [List.length_map, hpl]; omega)]
          show _ = [Blk.cells 0 d.cells, .cells 0 [.sl .nil 0 [], .sl .nil 0 [], .sl .nil 0 []], .cells 0 (((numL d.accept.length (metL L ((minF d q).take (a + 1))))).map (.int .i64)), .cells ((g + 1)) (((metL L ((minF d q).take (a + 1)))).map fun x : Nat => .int .i64 (x : Int)), .cells 0 [aSs .any d.tracks, .hs 5 (i) 0 (i) 1, .hs 6 (i) 0 (i) 1], .cells (i) ((acs).map .bool), .cells (i) ((rws).map (aIs .any))] ++ [.cells 0 ((partL (fun j => ((metL L (minF d q)).idxOf ((minF d q).getD j 0) : Int)) rl.length (a + 1)).map (.int .i64))]
          rw [k1, ← partL_step, hgd, k2, ← numL_set hm, List.map_set, List.map_set, List.map_append]
          rfl
    · have hae : a = rl.length := by have := hg; simp at this; omega
      have hta : (minF d q).take a = minF d q := List.take_of_length_le (by rw [hfl]; omega)
      rw [hta] at hLa hLan hLal
      have hrxl : (rowX (minF d) (metL L (minF d q)) q).length = 2 ^ d.tracks.length := by rw [rowX, List.length_map, hfl]
      have hcz' : ∀ j, j < i + 1 → ∀ s, (metL L (minF d q))[j]? = some s → ∀ t ∈ minF d s, t ∈ metL L (minF d q) := fun j hj s hs t ht => by
        obtain ⟨r, hrr⟩ := metL_prefix (minF d q) L
        have hs' : L[j]? = some s := by rw [hrr, List.getElem?_append_left (by omega)] at hs; exact hs
        refine (metL_mem t _ _).2 ?_
        by_cases e : j = i
        · subst e
          rw [hgq] at hs'
          cases hs'
          exact .inr ht
        · exact .inl (hcz j (by omega) s hs' t ht)
      have hmore : i + 1 ≤ (metL L (minF d q)).length := by
        obtain ⟨r, hrr⟩ := metL_prefix (minF d q) L
        rw [hrr, List.length_append]; omega
      have htk : (metL L (minF d q)).take (i + 1) = L.take (i + 1) := by
        obtain ⟨r, hrr⟩ := metL_prefix (minF d q) L
        rw [hrr, List.take_append_of_le_length (by omega)]
      rw [← htk] at haccn hrown
      refine VCode.ent (Ent.fr' (l := [(1, .ref 0 0 0), (2, .ref 1 0 0), (4, aIs .any (lstD d)), (6, .hs 2 0 0 d.accept.length 1), (8, .hs 3 (g) 0 ((metL L (minF d q))).length 1), (9, .ref 4 0 0), (10, .int .i64 (i)), (11, .int .i64 (q : Nat)), (12, .hs 7 0 0 (2 ^ d.tracks.length) 1)])
        (H' := [Blk.cells 0 d.cells, .cells 0 [.sl .nil 0 [], .sl .nil 0 [], .sl .nil 0 []], .cells 0 (((numL d.accept.length (metL L (minF d q)))).map (.int .i64)), .cells (g) (((metL L (minF d q))).map fun x : Nat => .int .i64 (x : Int)), .cells 0 [aSs .any d.tracks, .hs 5 (i) 0 (i) 1, .hs 6 (i) 0 (i) 1], .cells (i) ((acs).map .bool), .cells (i) ((rws).map (aIs .any))] ++ [.cells 0 ((rowX (minF d) (metL L (minF d q)) q).map (.int .i64))]) ⟨(by kernel_rfl), (by kernel_rfl), (by kernel_rfl), (by kernel_rfl), ?_, (by kernel_rfl), (by kernel_rfl), (by kernel_rfl), ?_, trivial⟩ ?_) ?_
      · refine Eq.trans (b := .hs 3 g 0 (metL L ((minF d q).take a)).length 1) (by kernel_rfl) ?_
        rw [hta]
      · rw [← l1]; kernel_rfl
      · refine Eq.trans (b := [Blk.cells 0 d.cells, .cells 0 [.sl .nil 0 [], .sl .nil 0 [], .sl .nil 0 []], .cells 0 (((numL d.accept.length (metL L ((minF d q).take a)))).map (.int .i64)), .cells (g) (((metL L ((minF d q).take a))).map fun x : Nat => .int .i64 (x : Int)), .cells 0 [aSs .any d.tracks, .hs 5 (i) 0 (i) 1, .hs 6 (i) 0 (i) 1], .cells (i) ((acs).map .bool), .cells (i) ((rws).map (aIs .any))] ++ [.cells 0 ((partL (fun j => ((metL L (minF d q)).idxOf ((minF d q).getD j 0) : Int)) rl.length (a)).map (.int .i64))]) (by kernel_rfl) ?_
        rw [hta, hae, partL_full, l1, hall]
      generalize rowX (minF d) (metL L (minF d q)) q = rx at *
      generalize metL L (minF d q) = L' at *
      generalize 2 ^ d.tracks.length = K at *
      repeat first | refine opsStep ?_ | refine codeStep ?_ | refine drawStep ?_
      refine SW.drawn rfl (by kernel_rfl) ?_
      repeat first | refine opsStep ?_ | refine codeStep ?_ | refine drawStep ?_
      refine guardE_of (by omega) ?_
      repeat first | refine opsStep ?_ | refine codeStep ?_ | refine drawStep ?_
      refine optE_of (c := .bool (accN d.accept q)) (by simp [Value.cells, hacc]) ?_
      repeat first | refine opsStep ?_ | refine codeStep ?_ | refine drawStep ?_
      refine guardE_of ⟨rfl, by simp [hal]⟩ ?_
      refine guardE_of rfl ?_
      refine guardE_of ⟨by omega, by show (i + 1) * 1 ≤ 140737488355328; omega⟩ ?_
      repeat first | refine opsStep ?_ | refine codeStep ?_ | refine drawStep ?_
      refine ⟨by kernel_rfl, ?_⟩
      repeat first | refine opsStep ?_ | refine codeStep ?_ | refine drawStep ?_
      refine guardE_of ⟨rfl, by simp [hrwl]⟩ ?_
      refine guardE_of rfl ?_
      refine guardE_of ⟨by omega, by show (i + 1) * 24 ≤ 140737488355328; omega⟩ ?_
      repeat first | refine opsStep ?_ | refine codeStep ?_ | refine drawStep ?_
      refine ⟨⟨(i + 1, L', g), hmore, hex, hLan, hLa, hcz'⟩, (by show 300 - (i + 1) < 300 - i; omega), Ent.rowNext [Blk.cells 0 d.cells, .cells 0 [.sl .nil 0 [], .sl .nil 0 [], .sl .nil 0 []], .cells 0 ((numL d.accept.length L').map (.int .i64)), .cells g (L'.map fun x : Nat => .int .i64 (x : Int)), .cells 0 [aSs .any d.tracks, .hs 5 (i + 1) 0 (i + 1) 1, .hs 6 (i + 1) 0 (i + 1) 1],
          .cells (i + 1) (((acs.map AV.bool).drop 0).take (i * 1) ++ [.bool (accN d.accept q)])]
        (n := K) (es := 1) (L := ((rws.map (aIs .any)).drop 0).take (i * 1)) (gb := i + 1) (gr := 0) (cs := rx.map (.int .i64)) ⟨(by kernel_rfl), (by kernel_rfl), (by kernel_rfl), (by kernel_rfl), (by kernel_rfl), (by kernel_rfl), inc_slot (i := i) (by omega), trivial⟩ (by kernel_rfl) (by kernel_rfl) (by kernel_rfl) rfl (by simp [hrxl]) (Nat.le_of_ble_eq_true (by kernel_rfl)) (by first | (simp [frBel, blksBel, Blk.bel, AV.bel, bels, bels_append, bels_map, aSs_bel, aIs_bel, aBs_bel, aRs_bel, aDen_bel, cells_bel]; done) | (simp only [List.drop_zero, ← List.map_take, ← List.map_drop, List.map_map, frBel, blksBel, Blk.bel, AV.bel, bels, bels_append, bels_map, aSs_bel, aIs_bel, aBs_bel, aRs_bel, aDen_bel, cells_bel]; simp [AV.bel, aSs_bel, aIs_bel, aBs_bel, aRs_bel, aDen_bel, cells_bel])) ?_ (bels_td (bels_map.2 fun _ _ => aIs_bel _ _ _)) (by first | (simp [frBel, blksBel, Blk.bel, AV.bel, bels, bels_append, bels_map, aSs_bel, aIs_bel, aBs_bel, aRs_bel, aDen_bel, cells_bel]; done) | (simp only [List.drop_zero, ← List.map_take, ← List.map_drop, List.map_map, frBel, blksBel, Blk.bel, AV.bel, bels, bels_append, bels_map, aSs_bel, aIs_bel, aBs_bel, aRs_bel, aDen_bel, cells_bel]; simp [AV.bel, aSs_bel, aIs_bel, aBs_bel, aRs_bel, aDen_bel, cells_bel])) ?_⟩
      · rw [td_all (by simp [hal])]
        exact (by first | (simp [frBel, blksBel, Blk.bel, AV.bel, bels, bels_append, bels_map, aSs_bel, aIs_bel, aBs_bel, aRs_bel, aDen_bel, cells_bel]; done) | (simp only [List.drop_zero, ← List.map_take, ← List.map_drop, List.map_map, frBel, blksBel, Blk.bel, AV.bel, bels, bels_append, bels_map, aSs_bel, aIs_bel, aBs_bel, aRs_bel, aDen_bel, cells_bel]; simp [AV.bel, aSs_bel, aIs_bel, aBs_bel, aRs_bel, aDen_bel, cells_bel]))
      · rw [td_all (by simp [hal]), td_all (by simp [hrwl])]
        show _ = [Blk.cells 0 d.cells, .cells 0 [.sl .nil 0 [], .sl .nil 0 [], .sl .nil 0 []], .cells 0 (((numL d.accept.length L')).map (.int .i64)), .cells (g) ((L').map fun x : Nat => .int .i64 (x : Int)), .cells 0 [aSs .any d.tracks, .hs 5 (i + 1) 0 (i + 1) 1, .hs 6 (i + 1) 0 (i + 1) 1], .cells (i + 1) ((((L'.take (i + 1)).map (accN d.accept))).map .bool), .cells (i + 1) ((((L'.take (i + 1)).map (rowX (minF d) L'))).map (aIs .any))]
        rw [haccn, hrown, List.map_append, List.map_append]
        simp [aIs, hrxl]
  · have hie : i = L.length := by have := h; simp at this; omega
    rw [expl_none (by omega)] at hex
    subst hex
    have hLt : L.take L.length = L := List.take_length
    refine VCode.ent (Ent.fr' (l := [(1, .ref 0 0 0), (2, .ref 1 0 0), (4, aIs .any (lstD d)), (6, .hs 2 0 0 d.accept.length 1), (8, .hs 3 (g) 0 (L).length 1), (9, .ref 4 0 0), (10, .int .i64 (L.length))])
        (H' := [Blk.cells 0 d.cells, .cells 0 [.sl .nil 0 [], .sl .nil 0 [], .sl .nil 0 []], .cells 0 (((numL d.accept.length L)).map (.int .i64)), .cells (g) ((L).map fun x : Nat => .int .i64 (x : Int)), .cells 0 [aSs .any d.tracks, .hs 5 (L.length) 0 (L.length) 1, .hs 6 (L.length) 0 (L.length) 1], .cells (L.length) (((L.map (accN d.accept))).map .bool), .cells (L.length) (((L.map (rowX (minF d) L))).map (aIs .any))]) ⟨(by kernel_rfl), (by kernel_rfl), (by kernel_rfl), (by kernel_rfl), (by kernel_rfl), (by kernel_rfl), ?_, trivial⟩ ?_) ?_
    · refine Eq.trans (b := .int .i64 (i : Nat)) (by kernel_rfl) ?_
      rw [hie]
    · refine Eq.trans (b := [Blk.cells 0 d.cells, .cells 0 [.sl .nil 0 [], .sl .nil 0 [], .sl .nil 0 []], .cells 0 (((numL d.accept.length L)).map (.int .i64)), .cells (g) ((L).map fun x : Nat => .int .i64 (x : Int)), .cells 0 [aSs .any d.tracks, .hs 5 (i) 0 (i) 1, .hs 6 (i) 0 (i) 1], .cells (i) ((((L.take i).map (accN d.accept))).map .bool), .cells (i) ((((L.take i).map (rowX (minF d) L))).map (aIs .any))]) (by kernel_rfl) ?_
      rw [hie, hLt]
    repeat first | refine opsStep ?_ | refine codeStep ?_ | refine drawStep ?_
    refine finR (l := [(2, .ref 1 0 0), (3, .int .i64 0)]) (H₁ := [Blk.cells 0 d.cells, .cells 0 [aSs .any d.tracks, .hs 5 L.length 0 L.length 1, .hs 6 L.length 0 L.length 1], .cells 0 ((numL d.accept.length L).map (.int .i64)), .cells g (L.map fun x : Nat => .int .i64 (x : Int)), .cells 0 [aSs .any d.tracks, .hs 5 L.length 0 L.length 1, .hs 6 L.length 0 L.length 1], .cells L.length ((L.map (accN d.accept)).map .bool), .cells L.length ((L.map (rowX (minF d) L)).map (aIs .any))])
      (v := .tup [.agg [aSs .any d.tracks, .hs 5 L.length 0 L.length 1, .hs 6 L.length 0 L.length 1], .int .i64 0]) ⟨(by kernel_rfl), (by kernel_rfl), trivial⟩ (by kernel_rfl) (Ent.refl _ _ _) (by kernel_rfl) ?_
    exact ⟨rfl, _, _, _, _, _, rfl⟩

theorem canon_Minimal_bad (d : Den) (hd : DenOk d) (hr : rightS d = false) : Pure Try.prog 27 [aDen d] (.tup [aDen den0, .int .i64 3]) := by
  have hC := canon_Classes_bad d hd hr
  refine Pure.of_sw 114 Try.func27 rfl Try.ntmps27 (by kernel_rfl) (Nat.le_of_ble_eq_true (by kernel_rfl)) (by simp [closeds, AV.closed, aSs_closed, aIs_closed, aBs_closed, aRs_closed, aDen_closed]) (by simp [AV.closed, closeds, aSs_closed, aIs_closed, aBs_closed, aRs_closed, aDen_closed]) ?_; refine SW.of_vc ?_
  repeat first | refine opsStep ?_ | refine codeStep ?_ | refine drawStep ?_
  refine callP hC ?_
  repeat first | refine opsStep ?_ | refine codeStep ?_ | refine drawStep ?_
  exact finV (v' := .tup [aDen den0, .int .i64 3]) (by kernel_rfl) rfl

end Tab

/- What machines take, as languages; the canonical machine out of the language alone. -/
namespace Tab
open Go Go.Proofs
set_option maxRecDepth 10000
set_option linter.unusedVariables false
set_option linter.unusedSimpArgs false
set_option linter.unusedSectionVars false

abbrev Lang := List Nat → Bool
def letB (k : Nat) (w : List Nat) : Bool := w.all fun a => decide (a < 2 ^ k)
theorem letB_iff {k w} : letB k w = true ↔ Lets k w := by simp [letB, Lets]
/-- What is taken from a state on. -/
def langR (d : Den) (p : Nat) : Lang := fun w => letB d.tracks.length w && accN d.accept (runN d.rows p w)
def lang (d : Den) : Lang := langR d 0
theorem langR_let {d p w} (h : Lets d.tracks.length w) : langR d p w = accN d.accept (runN d.rows p w) := by rw [langR, letB_iff.2 h, Bool.true_and]
theorem alike_iff {d : Den} {p q : Nat} : Alike d p q ↔ langR d p = langR d q := by
  constructor
  · intro h
    funext w
    rw [langR, langR]
    cases e : letB d.tracks.length w with
    | false => rfl
    | true => rw [Bool.true_and, Bool.true_and, h w (letB_iff.1 e)]
  · intro h w hw
    rw [← langR_let hw, h, langR_let hw]
theorem langR_cons {d : Den} {p a : Nat} {w : List Nat} (ha : a < 2 ^ d.tracks.length) : langR d p (a :: w) = langR d (stepN d.rows p a) w := by
  simp only [langR, letB, List.all_cons, ha, decide_true, Bool.true_and, runN, List.foldl_cons]
theorem takesB_lang {d : Den} {w : List Nat} (h : Lets d.tracks.length w) : takesB d w = lang d w := by rw [lang, langR_let h]; rfl

section
variable {d : Den} (hr : rightS d = true)
include hr
theorem lst_alike {p : Nat} (hp : p < d.accept.length) : lstN d p < d.accept.length ∧ langR d (lstN d p) = langR d p := by
  have hn := clsD_ner hr
  have hl := hn.len
  obtain ⟨c1, c2⟩ := lst_cast (d := d) (q := p) (by omega)
  refine ⟨by omega, alike_iff.1 ((hn.iff _ _ (by omega) hp).1 ?_)⟩
  have hp' : p < (clsD d).length := by omega
  have e : (lstD d).getD p 0 = ((clsD d).idxOf (clsD d)[p] : Int) := by simp [lstD, List.getD_eq_getElem?_getD, hp']
  have hm := List.idxOf_lt_length_of_mem (List.getElem_mem hp')
  have e2 : lstN d p = (clsD d).idxOf (clsD d)[p] := by omega
  rw [e2, List.getD_eq_getElem?_getD, List.getElem?_eq_getElem hm, List.getElem_idxOf, List.getD_eq_getElem?_getD, List.getElem?_eq_getElem hp']
theorem lst_eq {p q : Nat} (hp : p < d.accept.length) (hq : q < d.accept.length) (h : langR d p = langR d q) : lstN d p = lstN d q := by
  have hn := clsD_ner hr
  have hl := hn.len
  have hc := (hn.iff p q hp hq).2 (alike_iff.2 h)
  have e : ∀ x, x < d.accept.length → lstN d x = (clsD d).idxOf ((clsD d).getD x 0) := fun x hx => by
    have hx' : x < (clsD d).length := by omega
    simp [lstN, lstD, List.getD_eq_getElem?_getD, hx']
  rw [e p hp, e q hq, hc]
theorem lst_zero : lstN d 0 = 0 := by
  have hl := (clsD_ner hr).len
  have hp := right_pos hr
  have hx : 0 < (clsD d).length := by omega
  have e : lstN d 0 = (clsD d).idxOf (clsD d)[0] := by simp [lstN, lstD, List.getD_eq_getElem?_getD, hx]
  rw [e]
  obtain ⟨x, l, h⟩ : ∃ x l, clsD d = x :: l := by
    cases e : clsD d with
    | nil => rw [e] at hx; simp at hx
    | cons x l => exact ⟨x, l, rfl⟩
  simp [h]

/-- Least ones of their classes. -/
def Least (d : Den) (q : Nat) : Prop := q < d.accept.length ∧ lstN d q = q
omit hr in
theorem minF_get {q a : Nat} (ha : a < 2 ^ d.tracks.length) : (minF d q)[a]? = some (lstN d (stepN d.rows q a)) := by
  rw [minF, List.getElem?_map, List.getElem?_range ha]; rfl
omit hr in
theorem minF_mem {q t : Nat} (h : t ∈ minF d q) : ∃ a, a < 2 ^ d.tracks.length ∧ t = lstN d (stepN d.rows q a) := by
  obtain ⟨a, ha, rfl⟩ := List.mem_map.1 h
  exact ⟨a, List.mem_range.1 ha, rfl⟩
theorem least_lst {p : Nat} (hp : p < d.accept.length) : Least d (lstN d p) := by
  obtain ⟨h1, h2⟩ := lst_alike hr hp
  exact ⟨h1, lst_eq hr h1 hp h2⟩
theorem least_step {q : Nat} (h : Least d q) : ∀ t ∈ minF d q, Least d t := fun t ht => by
  obtain ⟨a, ha, rfl⟩ := minF_mem ht
  exact least_lst hr (stepN_ok hr h.1 ha).2.2.2
theorem least_zero : Least d 0 := ⟨right_pos hr, lst_zero hr⟩
theorem least_inj {p q : Nat} (hp : Least d p) (hq : Least d q) (h : langR d p = langR d q) : p = q := by
  rw [← hp.2, ← hq.2]; exact lst_eq hr hp.1 hq.1 h

theorem minR_least : ∀ q ∈ minR d, Least d q := expl_all (fun s hs => least_step hr hs) 300 0 [0] (by simpa using least_zero hr)
omit hr in
theorem minR_nodup : (minR d).Nodup := expl_nodup 300 0 [0] (by simp)
theorem minR_len : (minR d).length ≤ d.accept.length := nodup_le minR_nodup fun q hq => (minR_least hr q hq).1
theorem minR_closed : ∀ s ∈ minR d, ∀ t ∈ minF d s, t ∈ minR d := by
  have h1 := minR_len hr
  have h2 := (tracksS_parts (rightS_parts hr).1).2.2.2
  exact expl_closed 300 0 [0] (fun i hi => by omega) (by show (minR d).length ≤ 0 + 300; omega)
omit hr in
theorem minR_zero : (minR d)[0]? = some 0 := by
  obtain ⟨r, h⟩ := expl_prefix (f := minF d) 300 0 [0]
  rw [minR, h]; rfl

/-! ### The canonical machine of a language -/

omit hr in
def langF (k : Nat) (K : Lang) : List Lang := (List.range (2 ^ k)).map fun a w => K (a :: w)
noncomputable def canL (k : Nat) (K : Lang) : List Lang := @expl Lang (Classical.typeDecidableEq _) (langF k) 300 0 [K]
noncomputable def canRow (k : Nat) (K J : Lang) : List Int := @rowX Lang (Classical.typeDecidableEq _) (langF k) (canL k K) J

theorem minF_lang {q : Nat} (h : Least d q) : (minF d q).map (langR d) = langF d.tracks.length (langR d q) := by
  rw [minF, langF, List.map_map]
  refine List.map_congr_left fun a ha => ?_
  have ha := List.mem_range.1 ha
  rw [Function.comp_apply, (lst_alike hr (stepN_ok hr h.1 ha).2.2.2).2]
  funext w
  exact (langR_cons ha).symm
theorem minR_lang : (minR d).map (langR d) = canL d.tracks.length (lang d) :=
  letI := Classical.typeDecidableEq Lang
  expl_map (f := minF d) (f' := langF d.tracks.length) (langR d) (Q := Least d) (fun s hs => least_step hr hs) (fun x y hx hy h => least_inj hr hx hy h) (fun s hs => minF_lang hr hs) 300 0 [0] (by simpa using least_zero hr)
theorem minD_accept : (minD d).accept = (canL d.tracks.length (lang d)).map fun K => K [] := by
  rw [← minR_lang hr, List.map_map]
  refine List.map_congr_left fun q _ => ?_
  rw [Function.comp_apply, langR_let (fun a ha => absurd ha (by simp))]; rfl
theorem minD_rows : (minD d).rows = (canL d.tracks.length (lang d)).map fun J => canRow d.tracks.length (lang d) J := by
  have e : (minD d).rows = (minR d).map (rowX (minF d) (minR d)) := by simp [minD, Den.rows, Function.comp_def]
  rw [e, ← minR_lang hr, List.map_map]
  refine List.map_congr_left fun q hq => ?_
  have hl := minR_least hr q hq
  have h := @rowX_map _ _ _ (Classical.typeDecidableEq Lang) (minF d) (langF d.tracks.length) (langR d) (minR d) q (minF_lang hr hl) fun x hx y hy e => least_inj hr (minR_least hr y hy) (least_step hr hl x hx) e
  rw [Function.comp_apply, canRow, ← minR_lang hr]
  exact h.symm
end

/-- Machines over the same tracks that take the same have one canonical machine. -/
theorem minD_same {d e : Den} (hd : rightS d = true) (he : rightS e = true) (ht : d.tracks = e.tracks) (h : lang d = lang e) : sameD (minD d) (minD e) = true := by
  rw [sameD_eq, minD_accept hd, minD_accept he, minD_rows hd, minD_rows he, ht, h]
  simp [show (minD d).tracks = (minD e).tracks from ht]

/-! ### The canonical machine takes the same -/

section
variable {d : Den} (hr : rightS d = true)
include hr
theorem min_idx {i a : Nat} (hi : i < (minR d).length) (ha : a < 2 ^ d.tracks.length) :
    ∃ h : stepN (minD d).rows i a < (minR d).length, (minR d)[stepN (minD d).rows i a] = lstN d (stepN d.rows (minR d)[i] a) := by
  have hm := minR_closed hr _ (List.getElem_mem hi) _ (List.mem_of_getElem? (minF_get (q := (minR d)[i]) ha))
  have hlt := List.idxOf_lt_length_of_mem hm
  have e1 : (minD d).rows.getD i [] = rowX (minF d) (minR d) (minR d)[i] := by
    simp [minD, Den.rows, List.getD_eq_getElem?_getD, hi]
  have e : stepN (minD d).rows i a = (minR d).idxOf (lstN d (stepN d.rows (minR d)[i] a)) := by
    rw [stepN, e1, rowX, List.getD_eq_getElem?_getD, List.getElem?_map, minF_get ha]; rfl
  refine ⟨by rw [e]; exact hlt, ?_⟩
  simp only [e]
  exact List.getElem_idxOf hlt
theorem min_right : rightS (minD d) = true := by
  obtain ⟨h1, h2, h3⟩ := rightS_parts hr
  obtain ⟨k1, k2, k3, k4⟩ := tracksS_parts h1
  have hl := minR_len hr
  have hpos : 0 < (minR d).length := by
    have := (List.getElem?_eq_some_iff.1 (minR_zero (d := d))).1; omega
  have ha : (minD d).accept.length = (minR d).length := by simp [minD]
  rw [rightS, show (minD d).tracks = d.tracks from rfl, ha, tracksS_mk k1 k2 (by omega) (by omega), decide_eq_true (by simp [minD] : (minD d).next.length = (minR d).length)]
  simp only [Bool.true_and, List.all_eq_true]
  intro r hrr
  simp only [minD, List.mem_map] at hrr
  obtain ⟨q, hq, rfl⟩ := hrr
  rw [rowOk, decide_eq_true (by rw [rowX, List.length_map, minF_length]), Bool.true_and, List.all_eq_true]
  intro x hx
  obtain ⟨t, ht, rfl⟩ := List.mem_map.1 hx
  have := List.idxOf_lt_length_of_mem (minR_closed hr q hq t ht)
  simp
  omega
theorem min_langR : ∀ (w : List Nat) {i : Nat} (hi : i < (minR d).length), langR (minD d) i w = langR d (minR d)[i] w
  | [], i, hi => by
    rw [langR, langR]
    simp only [letB, List.all_nil, runN, List.foldl_nil, Bool.true_and]
    simp [accN, minD, List.getD_eq_getElem?_getD, hi]
  | a :: w, i, hi => by
    by_cases ha : a < 2 ^ d.tracks.length
    · obtain ⟨h1, h2⟩ := min_idx hr hi ha
      rw [langR_cons (d := minD d) ha, langR_cons ha, min_langR w h1, h2]
      have := (lst_alike hr (stepN_ok hr (minR_least hr _ (List.getElem_mem hi)).1 ha).2.2.2).2
      rw [this]
    · simp [langR, letB, ha, show (minD d).tracks = d.tracks from rfl]
theorem min_lang : lang (minD d) = lang d := by
  obtain ⟨h, e⟩ := List.getElem?_eq_some_iff.1 (minR_zero (d := d))
  funext w
  rw [lang, min_langR hr w h, e]; rfl

/-! ### Sound -/

/-- A language that says a sign again and again alike, and not the empty word. -/
def SoundL (k : Nat) (K : Lang) : Prop := K [] = false ∧ ∀ w a, Lets k w → a < 2 ^ k → K (w ++ [a]) = K (w ++ [a, a])
omit hr in
theorem run_append (rows : List (List Int)) (q : Nat) (u v : List Nat) : runN rows q (u ++ v) = runN rows (runN rows q u) v := by simp [runN]
theorem min_reach : ∀ q ∈ minR d, ∃ w, Lets d.tracks.length w ∧ langR d q = langR d (runN d.rows 0 w) := by
  refine fun q hq => (expl_all (Q := fun q => q < d.accept.length ∧ ∃ w, Lets d.tracks.length w ∧ langR d q = langR d (runN d.rows 0 w)) ?_ 300 0 [0] ?_ q hq).2
  · rintro s ⟨hs, w, hw, e⟩ t ht
    obtain ⟨a, ha, rfl⟩ := minF_mem ht
    have h1 := stepN_ok hr hs ha
    refine ⟨(lst_alike hr h1.2.2.2).1, w ++ [a], fun b hb => ?_, ?_⟩
    · rcases List.mem_append.1 hb with hb | hb
      · exact hw b hb
      · simp at hb; omega
    · rw [(lst_alike hr h1.2.2.2).2, run_append]
      funext v
      show _ = langR d (stepN d.rows (runN d.rows 0 w) a) v
      rw [← langR_cons ha, ← langR_cons ha, e]
  · intro s hs
    simp at hs; subst hs
    exact ⟨right_pos hr, [], fun a ha => absurd ha (by simp), rfl⟩
theorem min_hit : ∀ (w : List Nat), Lets d.tracks.length w → ∃ q ∈ minR d, langR d q = langR d (runN d.rows 0 w) := by
  intro w hw
  have h0 : 0 ∈ minR d := List.mem_of_getElem? minR_zero
  suffices h : ∀ (w : List Nat) (q p : Nat), Lets d.tracks.length w → q ∈ minR d → p < d.accept.length → langR d q = langR d p → ∃ t ∈ minR d, langR d t = langR d (runN d.rows p w) from
    h w 0 0 hw h0 (right_pos hr) rfl
  intro w
  induction w with
  | nil => exact fun q p _ hq _ e => ⟨q, hq, e⟩
  | cons a w ih =>
    intro q p hw hq hp e
    have ha := hw a (by simp)
    have hq1 := stepN_ok hr (minR_least hr q hq).1 ha
    have hp1 := stepN_ok hr hp ha
    refine ih (lstN d (stepN d.rows q a)) (stepN d.rows p a) (fun b hb => hw b (by simp [hb])) (minR_closed hr q hq _ (List.mem_of_getElem? (minF_get ha))) hp1.2.2.2 ?_
    rw [(lst_alike hr hq1.2.2.2).2]
    funext v
    rw [← langR_cons ha, ← langR_cons ha, e]

/-- What the program looks at: no state's letter is told otherwise behind itself. -/
def soundS (m : Den) : Bool := !(accN m.accept 0) && (List.range m.accept.length).all fun i => (List.range (2 ^ m.tracks.length)).all fun a => decide (accN m.accept (stepN m.rows i a) = accN m.accept (stepN m.rows (stepN m.rows i a) a))
theorem sound_iff : soundS (minD d) = true ↔ SoundL d.tracks.length (lang d) := by
  have hm := min_right hr
  obtain ⟨hz, ez⟩ := List.getElem?_eq_some_iff.1 (minR_zero (d := d))
  have hacc : ∀ i (hi : i < (minR d).length), accN (minD d).accept i = langR d (minR d)[i] [] := fun i hi => by
    rw [← min_langR hr [] hi]; simp [langR, letB, runN]
  have hal : (minD d).accept.length = (minR d).length := by simp [minD]
  have hone : ∀ i (hi : i < (minR d).length) a, a < 2 ^ d.tracks.length → accN (minD d).accept (stepN (minD d).rows i a) = langR d (minR d)[i] [a] := fun i hi a ha => by
    rw [← min_langR hr [a] hi, langR_cons (d := minD d) ha]
    obtain ⟨h1, _⟩ := min_idx hr hi ha
    simp [langR, letB, runN]
  have htwo : ∀ i (hi : i < (minR d).length) a, a < 2 ^ d.tracks.length → accN (minD d).accept (stepN (minD d).rows (stepN (minD d).rows i a) a) = langR d (minR d)[i] [a, a] := fun i hi a ha => by
    rw [← min_langR hr [a, a] hi, langR_cons (d := minD d) ha, langR_cons (d := minD d) ha]
    simp [langR, letB, runN]
  have happ : ∀ (q : Nat) (w v : List Nat), Lets d.tracks.length w → langR d (runN d.rows q w) v = langR d q (w ++ v) := by
    intro q w v hw
    simp only [langR, letB, List.all_append, run_append]
    rw [show (w.all fun a => decide (a < 2 ^ d.tracks.length)) = true from letB_iff.2 hw, Bool.true_and]
  simp only [soundS, Bool.and_eq_true, Bool.not_eq_true', List.all_eq_true, List.mem_range, decide_eq_true_eq, hal, show (minD d).tracks = d.tracks from rfl]
  constructor
  · rintro ⟨h1, h2⟩
    refine ⟨?_, fun w a hw ha => ?_⟩
    · rw [hacc 0 hz, ez] at h1; exact h1
    · obtain ⟨q, hq, e⟩ := min_hit hr w hw
      obtain ⟨i, hi, rfl⟩ := List.getElem_of_mem hq
      have := h2 i hi a ha
      rw [hone i hi a ha, htwo i hi a ha, e, happ 0 w [a] hw, happ 0 w [a, a] hw] at this
      exact this
  · rintro ⟨h1, h2⟩
    refine ⟨by rw [hacc 0 hz, ez]; exact h1, fun i hi a ha => ?_⟩
    obtain ⟨w, hw, e⟩ := min_reach hr _ (List.getElem_mem hi)
    rw [hone i hi a ha, htwo i hi a ha, e, happ 0 w [a] hw, happ 0 w [a, a] hw]
    exact h2 w a hw ha
end

end Tab

/- canon.Sound. -/
namespace Tab
open Go Go.Proofs
set_option maxRecDepth 10000
set_option linter.unusedVariables false
set_option linter.unusedSimpArgs false
set_option linter.unusedSectionVars false

theorem minD_ok {d : Den} (hd : DenOk d) (hr : rightS d = true) : DenOk (minD d) := by
  have hl := minR_len hr
  have h := hd.accept
  have h2 := (tracksS_parts (rightS_parts hr).1).2.2.2
  have hk6 := (tracksS_parts (rightS_parts hr).1).1
  refine ⟨hd.tracks, hd.names, by simp [minD]; omega, by simp [minD]; omega, fun r hrr => ?_⟩
  simp only [minD, List.mem_map] at hrr
  obtain ⟨q, _, rfl⟩ := hrr
  have : 2 ^ d.tracks.length ≤ 2 ^ 6 := Nat.pow_le_pow_right (by omega) hk6
  simp only [rowX, List.length_map, minF_length]
  omega
@[irreducible] def soundD (d : Den) : Bool := rightS d && soundS (minD d)
theorem soundD_ok {d : Den} (h : rightS d = true) : soundD d = soundS (minD d) := by rw [soundD, h, Bool.true_and]
theorem soundD_bad {d : Den} (h : rightS d = false) : soundD d = false := by rw [soundD, h, Bool.false_and]
theorem soundD_iff {d : Den} (h : rightS d = true) : soundD d = true ↔ SoundL d.tracks.length (lang d) := by rw [soundD_ok h]; exact sound_iff h

def sndRow (m : Den) (i : Nat) : Bool := (List.range (2 ^ m.tracks.length)).all fun a => decide (accN m.accept (stepN m.rows i a) = accN m.accept (stepN m.rows (stepN m.rows i a) a))
theorem soundS_bad {m : Den} {i a : Nat} (hi : i < m.accept.length) (ha : a < 2 ^ m.tracks.length) (h : accN m.accept (stepN m.rows i a) ≠ accN m.accept (stepN m.rows (stepN m.rows i a) a)) : soundS m = false := by
  rw [soundS, ← Bool.not_eq_true, Bool.and_eq_true, List.all_eq_true]
  rintro ⟨_, k⟩
  have := k i (List.mem_range.2 hi)
  rw [List.all_eq_true] at this
  exact h (of_decide_eq_true (this a (List.mem_range.2 ha)))
theorem soundS_ok {m : Den} (h0 : accN m.accept 0 = false) (h : ∀ i, i < m.accept.length → ∀ a, a < 2 ^ m.tracks.length → accN m.accept (stepN m.rows i a) = accN m.accept (stepN m.rows (stepN m.rows i a) a)) : soundS m = true := by
  rw [soundS, h0]
  simp only [Bool.not_false, Bool.true_and, List.all_eq_true, List.mem_range, decide_eq_true_eq]
  exact h

theorem canon_Sound (d : Den) (hd : DenOk d) : Pure Try.prog 14 [aDen d] (.bool (soundD d)) := by
  cases hr : rightS d with
  | false =>
    rw [soundD_bad hr]
    have hM := canon_Minimal_bad d hd hr
    refine Pure.of_sw 56 Try.func14 rfl Try.ntmps14 (by kernel_rfl) (Nat.le_of_ble_eq_true (by kernel_rfl)) (by simp [closeds, AV.closed, aSs_closed, aIs_closed, aBs_closed, aRs_closed, aDen_closed]) (by simp [AV.closed, closeds, aSs_closed, aIs_closed, aBs_closed, aRs_closed, aDen_closed]) ?_; refine SW.of_vc ?_
    repeat first | refine opsStep ?_ | refine codeStep ?_ | refine drawStep ?_
    refine callP hM ?_
    repeat first | refine opsStep ?_ | refine codeStep ?_ | refine drawStep ?_
    exact finB (b' := false) (by kernel_rfl) rfl
  | true =>
    rw [soundD_ok hr]
    have hM := canon_Minimal d hd hr
    have hm := min_right hr
    have hok := minD_ok hd hr
    generalize minD d = m at *
    obtain ⟨g1, g2, g3⟩ := rightS_parts hm
    obtain ⟨j1, j2, j3, j4⟩ := tracksS_parts g1
    have hpos := right_pos hm
    have hK : 2 ^ m.tracks.length ≤ 64 := by have : 2 ^ m.tracks.length ≤ 2 ^ 6 := Nat.pow_le_pow_right (by omega) j1; omega
    have ha : ∀ q, q < m.accept.length → m.accept[q]? = some (accN m.accept q) := fun q hq => by simp [accN, List.getD_eq_getElem?_getD, hq]
    refine Pure.of_sw 56 Try.func14 rfl Try.ntmps14 (by kernel_rfl) (Nat.le_of_ble_eq_true (by kernel_rfl)) (by simp [closeds, AV.closed, aSs_closed, aIs_closed, aBs_closed, aRs_closed, aDen_closed]) (by simp [AV.closed, closeds, aSs_closed, aIs_closed, aBs_closed, aRs_closed, aDen_closed]) ?_; refine SW.of_vc ?_
    repeat first | refine opsStep ?_ | refine codeStep ?_ | refine drawStep ?_
    refine callP hM ?_
    repeat first | refine opsStep ?_ | refine codeStep ?_ | refine drawStep ?_
    refine guardE_of (by simp; omega) ?_
    repeat first | refine opsStep ?_ | refine codeStep ?_ | refine drawStep ?_
    refine optE_of (c := .bool (accN m.accept 0)) (by simp [Value.cells, ha 0 hpos]) ?_
    repeat first | refine opsStep ?_ | refine codeStep ?_ | refine drawStep ?_
    refine decB_split (fun h => ?_) (fun h => ?_)
    · repeat first | refine opsStep ?_ | refine codeStep ?_ | refine drawStep ?_
      exact finB (b' := false) (by kernel_rfl) (by rw [soundS, h]; rfl)
    have h0 := h
    repeat first | refine opsStep ?_ | refine codeStep ?_ | refine drawStep ?_
    refine loopE_of (ι := {i : Nat // i ≤ m.next.length ∧ ∀ j, j < i → ∀ a, a < 2 ^ m.tracks.length → accN m.accept (stepN m.rows j a) = accN m.accept (stepN m.rows (stepN m.rows j a) a)})
      (fun i => (fr [(3, .ref 1 0 0), (23, aRs m.nk m.next), (24, .int .i64 m.next.length), (25, .int .i64 i.1)], [.cells 0 d.cells, .cells 0 m.cells]))
      (fun i => m.next.length - i.1) ⟨0, by omega, by omega⟩ (Ent.fr' ⟨(by kernel_rfl), (by kernel_rfl), (by kernel_rfl), (by kernel_rfl), trivial⟩ (by kernel_rfl)) ?_
    rintro ⟨i, hi, hpre⟩
    repeat first | refine opsStep ?_ | refine codeStep ?_ | refine drawStep ?_
    refine decB_dec (fun h => ?_) (fun h => ?_)
    · have hil : i < m.next.length := by have := h; simp at this; omega
      have hin : i < m.accept.length := by omega
      obtain ⟨l1, l2⟩ := rowOk_parts (g3 _ (List.getElem_mem hil))
      have hst := fun a (ha : a < 2 ^ m.tracks.length) => stepN_ok hm hin ha
      have hbad := fun a ha => soundS_bad (m := m) (i := i) (a := a) hin ha
      have hri : m.next[i]? = some m.next[i] := List.getElem?_eq_getElem hil
      generalize hre : m.next[i] = r at *
      obtain ⟨rk, rl⟩ := r
      simp only at l1 l2 hst
      repeat first | refine opsStep ?_ | refine codeStep ?_ | refine drawStep ?_
      refine guardE_of (by simp; omega) ?_
      repeat first | refine opsStep ?_ | refine codeStep ?_ | refine drawStep ?_
      refine optE_of (c := aIs rk rl) (by simp [Value.cells, hri]) ?_
      repeat first | refine opsStep ?_ | refine codeStep ?_ | refine drawStep ?_
      refine loopE_of (ι := {a : Nat // a ≤ rl.length ∧ ∀ b, b < a → accN m.accept (stepN m.rows i b) = accN m.accept (stepN m.rows (stepN m.rows i b) b)})
        (fun a => (fr [(3, .ref 1 0 0), (23, aRs m.nk m.next), (24, .int .i64 m.next.length), (25, .int .i64 i), (29, aIs rk rl), (30, .int .i64 rl.length), (31, .int .i64 a.1)], [.cells 0 d.cells, .cells 0 m.cells]))
        (fun a => rl.length - a.1) ⟨0, by omega, by omega⟩ (Ent.fr' ⟨(by kernel_rfl), (by kernel_rfl), (by kernel_rfl), (by kernel_rfl), (by kernel_rfl), (by kernel_rfl), (by kernel_rfl), trivial⟩ (by kernel_rfl)) ?_
      rintro ⟨a, hal, hprea⟩
      repeat first | refine opsStep ?_ | refine codeStep ?_ | refine drawStep ?_
      refine decB_dec (fun h => ?_) (fun h => ?_)
      · have hal : a < rl.length := by have := h; simp at this; omega
        have haK : a < 2 ^ m.tracks.length := by omega
        obtain ⟨s1, s2, s3, s4⟩ := hst a haK
        have s3 : rl[a] = (stepN m.rows i a : Int) := by
          have : (m.next[i]).2[a]? = some (stepN m.rows i a : Int) := by rw [List.getElem?_eq_getElem s2, s3]
          rw [hre] at this
          exact (List.getElem?_eq_some_iff.1 this).2
        have hb := hbad a haK
        obtain ⟨t1, t2, t3, t4⟩ := stepN_ok hm s4 haK
        have hne : ∀ b, b < a + 1 → (accN m.accept (stepN m.rows i a) = accN m.accept (stepN m.rows (stepN m.rows i a) a)) → accN m.accept (stepN m.rows i b) = accN m.accept (stepN m.rows (stepN m.rows i b) b) := fun b hb e => by
          by_cases hba : b = a
          · subst hba; exact e
          · exact hprea b (by omega)
        generalize stepN m.rows i a = to at *
        have hrt : m.next[to]? = some m.next[to] := List.getElem?_eq_getElem t1
        generalize stepN m.rows to a = tt at *
        have k1 := ha to s4
        have k2 := ha tt t4
        generalize accN m.accept to = b1 at *
        generalize accN m.accept tt = b2 at *
        repeat first | refine opsStep ?_ | refine codeStep ?_ | refine drawStep ?_
        refine guardE_of (by simp; omega) ?_
        repeat first | refine opsStep ?_ | refine codeStep ?_ | refine drawStep ?_
        refine optE_of (c := .int .i64 (to : Nat)) (by simp [Value.cells, hal, s3]) ?_
        repeat first | refine opsStep ?_ | refine codeStep ?_ | refine drawStep ?_
        refine SW.drawn rfl (by kernel_rfl) ?_
        repeat first | refine opsStep ?_ | refine codeStep ?_ | refine drawStep ?_
        refine guardE_of (by omega) ?_
        repeat first | refine opsStep ?_ | refine codeStep ?_ | refine drawStep ?_
        refine optE_of (c := .bool b1) (by simp [Value.cells, k1]) ?_
        repeat first | refine opsStep ?_ | refine codeStep ?_ | refine drawStep ?_
        refine guardE_of (by omega) ?_
        repeat first | refine opsStep ?_ | refine codeStep ?_ | refine drawStep ?_
        refine optE_of (c := aIs (m.next[to]).1 (m.next[to]).2) (by simp [Value.cells, hrt]) ?_
        repeat first | refine opsStep ?_ | refine codeStep ?_ | refine drawStep ?_
        refine guardE_of (by simp; omega) ?_
        repeat first | refine opsStep ?_ | refine codeStep ?_ | refine drawStep ?_
        refine optE_of (c := .int .i64 (tt : Nat)) (by simp [Value.cells, t2, t3]) ?_
        repeat first | refine opsStep ?_ | refine codeStep ?_ | refine drawStep ?_
        refine guardE_of (by omega) ?_
        repeat first | refine opsStep ?_ | refine codeStep ?_ | refine drawStep ?_
        refine optE_of (c := .bool b2) (by simp [Value.cells, k2]) ?_
        repeat first | refine opsStep ?_ | refine codeStep ?_ | refine drawStep ?_
        refine ⟨by kernel_rfl, ?_⟩
        repeat first | refine opsStep ?_ | refine codeStep ?_ | refine drawStep ?_
        refine decB_split (fun h => ?_) (fun h => ?_)
        · repeat first | refine opsStep ?_ | refine codeStep ?_ | refine drawStep ?_
          exact finB (b' := false) (by kernel_rfl) (hb (by simpa using h)).symm
        · repeat first | refine opsStep ?_ | refine codeStep ?_ | refine drawStep ?_
          refine ⟨⟨a + 1, by omega, fun b hba => hne b hba (by simpa using h)⟩, (by show rl.length - (a + 1) < rl.length - a; omega), Ent.fr' ⟨(by kernel_rfl), (by kernel_rfl), (by kernel_rfl), (by kernel_rfl), (by kernel_rfl), (by kernel_rfl), inc_slot (i := a) (by omega), trivial⟩ (by kernel_rfl)⟩
      · have hal : a = rl.length := by have := h; simp at this; omega
        repeat first | refine opsStep ?_ | refine codeStep ?_ | refine drawStep ?_
        refine ⟨⟨i + 1, by omega, fun j hj => ?_⟩, (by show m.next.length - (i + 1) < m.next.length - i; omega), Ent.fr' ⟨(by kernel_rfl), (by kernel_rfl), (by kernel_rfl), inc_slot (i := i) (by have := hok.next; omega), trivial⟩ (by kernel_rfl)⟩
        by_cases hji : j = i
        · subst hji; exact fun b hb => hprea b (by omega)
        · exact hpre j (by omega)
    · have hil : i = m.next.length := by have := h; simp at this; omega
      repeat first | refine opsStep ?_ | refine codeStep ?_ | refine drawStep ?_
      exact finB (b' := true) (by kernel_rfl) (soundS_ok h0 fun j hj => hpre j (by omega)).symm

end Tab

/- Layer 15: words over fewer tracks; the law TrackMeans. -/
namespace Tab
open Go Go.Proofs
set_option maxRecDepth 10000
set_option linter.unusedVariables false
set_option linter.unusedSimpArgs false
set_option linter.unusedSectionVars false

def wordB (k : Nat) (v : List Int) : Bool := v.all fun x => decide (0 ≤ x) && decide (x < ((2 ^ k : Nat) : Int))
theorem wordB_iff {k v} : wordB k v = true ↔ ∀ x ∈ v, 0 ≤ x ∧ x < ((2 ^ k : Nat) : Int) := by simp [wordB]
theorem wordB_nat {k : Nat} {v : List Int} (h : wordB k v = true) : ∃ w : List Nat, v = w.map (fun a : Nat => (a : Int)) ∧ Lets k w := by
  have h := wordB_iff.1 h
  refine ⟨v.map Int.toNat, ?_, fun a ha => ?_⟩
  · rw [List.map_map]
    refine (List.map_id' v).symm.trans (List.map_congr_left fun x hx => ?_)
    have := h x hx
    simp only [Function.comp_apply]; omega
  · obtain ⟨x, hx, rfl⟩ := List.mem_map.1 ha
    have := h x hx
    omega
theorem wordB_bad {k : Nat} {v : List Int} {i : Nat} (hi : i < v.length) (h : v[i] < 0 ∨ ((2 ^ k : Nat) : Int) ≤ v[i]) : wordB k v = false := by
  rw [← Bool.not_eq_true]
  intro k
  have := wordB_iff.1 k _ (List.getElem_mem hi)
  omega

theorem r12_Word (kv : SK) (v : List Int) (k : Nat) (hv : v.length < 2^60) (hk : k ≤ 60) : Pure Try.prog 15 [aIs kv v, .int .i64 k] (.bool (wordB k v)) := by
  have hL := r12_Letters k (by omega)
  have hlet : lettersS k = ((2 ^ k : Nat) : Int) := by rw [lettersS_small (by omega)]; simp
  rw [hlet] at hL
  have hb := fun i (hi : i < v.length) => wordB_bad (k := k) hi
  have hok : (∀ x ∈ v, 0 ≤ x ∧ x < ((2 ^ k : Nat) : Int)) → wordB k v = true := wordB_iff.2
  generalize 2 ^ k = K at *
  generalize wordB k v = wb at *
  refine Pure.of_sw 26 Try.func15 rfl Try.ntmps15 (by kernel_rfl) (Nat.le_of_ble_eq_true (by kernel_rfl)) (by simp [closeds, AV.closed, aSs_closed, aIs_closed, aBs_closed, aRs_closed, aDen_closed]) (by simp [AV.closed, closeds, aSs_closed, aIs_closed, aBs_closed, aRs_closed, aDen_closed]) ?_; refine SW.of_vc ?_
  repeat first | refine opsStep ?_ | refine codeStep ?_ | refine drawStep ?_
  refine loopE_of (ι := {i : Nat // i ≤ v.length ∧ ∀ x ∈ v.take i, 0 ≤ x ∧ x < (K : Int)}) (fun i => (fr [(0, aIs kv v), (1, .int .i64 k), (5, .int .i64 i.1)], [])) (fun i => v.length - i.1) ⟨0, by omega, by simp⟩ (Ent.fr' ⟨(by kernel_rfl), (by kernel_rfl), (by kernel_rfl), trivial⟩ (by kernel_rfl)) ?_
  rintro ⟨i, hi, hpre⟩
  repeat first | refine opsStep ?_ | refine codeStep ?_ | refine drawStep ?_
  refine decB_dec (fun h => ?_) (fun h => ?_)
  · have hia : i < v.length := by have := h; simp at this; omega
    repeat first | refine opsStep ?_ | refine codeStep ?_ | refine drawStep ?_
    refine SW.drawn rfl (by kernel_rfl) ?_
    repeat first | refine opsStep ?_ | refine codeStep ?_ | refine drawStep ?_
    refine guardE_of (by simp; omega) ?_
    repeat first | refine opsStep ?_ | refine codeStep ?_ | refine drawStep ?_
    refine optE_of (c := .int .i64 v[i]) (by simp [Value.cells, hia]) ?_
    repeat first | refine opsStep ?_ | refine codeStep ?_ | refine drawStep ?_
    refine decB_dec (fun h1 => ?_) (fun h1 => ?_)
    · repeat first | refine opsStep ?_ | refine codeStep ?_ | refine drawStep ?_
      refine ⟨by kernel_rfl, ?_⟩
      repeat first | refine opsStep ?_ | refine codeStep ?_ | refine drawStep ?_
      exact finB (b' := false) (by kernel_rfl) (hb i hia (.inl h1)).symm
    · repeat first | refine opsStep ?_ | refine codeStep ?_ | refine drawStep ?_
      refine guardE_of (by simp; omega) ?_
      repeat first | refine opsStep ?_ | refine codeStep ?_ | refine drawStep ?_
      refine optE_of (c := .int .i64 v[i]) (by simp [Value.cells, hia]) ?_
      repeat first | refine opsStep ?_ | refine codeStep ?_ | refine drawStep ?_
      refine .inl ⟨_, _, [], hL, RdsN_refl _, .inr rfl, none_need, ?_⟩
      repeat first | refine opsStep ?_ | refine codeStep ?_ | refine drawStep ?_
      refine ⟨by kernel_rfl, ?_⟩
      repeat first | refine opsStep ?_ | refine codeStep ?_ | refine drawStep ?_
      refine decB_dec (fun h2 => ?_) (fun h2 => ?_)
      · repeat first | refine opsStep ?_ | refine codeStep ?_ | refine drawStep ?_
        exact finB (b' := false) (by kernel_rfl) (hb i hia (.inr h2)).symm
      · repeat first | refine opsStep ?_ | refine codeStep ?_ | refine drawStep ?_
        refine ⟨⟨i + 1, by omega, ?_⟩, (by show v.length - (i + 1) < v.length - i; omega), Ent.fr' ⟨(by kernel_rfl), (by kernel_rfl), inc_slot (i := i) (by omega), trivial⟩ (by kernel_rfl)⟩
        rw [List.take_succ_eq_append_getElem hia]
        intro x hx
        rcases List.mem_append.1 hx with hx | hx
        · exact hpre x hx
        · rw [List.mem_singleton.1 hx]; omega
  · have hia : i = v.length := by have := h; simp at this; omega
    repeat first | refine opsStep ?_ | refine codeStep ?_ | refine drawStep ?_
    refine finB (b' := true) (by kernel_rfl) (hok ?_).symm
    rw [hia, List.take_length] at hpre
    exact hpre

theorem or_bit (x a p t : Nat) (hx : x < 2 ^ t) (ha : a < 2 ^ 62) (hp : p ≤ 60) (ht : t ≤ 60) :
    IntKind.wrap .i64 ((BitVec.ofInt 64 (x : Int) ||| BitVec.ofInt 64 (IntKind.wrap .i64 (IntKind.wrap .i64 ((BitVec.ofInt 64 ((a : Int).fdiv (2 ^ (min (IntKind.wrap .u64 (p : Int)).toNat 64))) &&& BitVec.ofInt 64 1).toNat) * 2 ^ (min (IntKind.wrap .u64 (t : Int)).toNat 64)))).toNat) = ((x + a / 2 ^ p % 2 * 2 ^ t : Nat) : Int) := by
  have u : ∀ y : Nat, y ≤ 60 → IntKind.wrap .u64 (y : Int) = (y : Int) := fun y hy => by
    simp only [IntKind.wrap, IntKind.signed, IntKind.bits]
    simp; omega
  have e1 : (a : Int).fdiv (2 ^ (min (p : Int).toNat 64)) = ((a / 2 ^ p : Nat) : Int) := by
    rw [show min (p : Int).toNat 64 = p by simp; omega, show (2 : Int) ^ p = ((2 ^ p : Nat) : Int) by simp]
    rw [Int.fdiv_eq_ediv_of_nonneg _ (Int.natCast_nonneg _)]
    rfl
  rw [u p hp, u t ht, e1, and_one _ (Nat.lt_of_le_of_lt (Nat.div_le_self _ _) (by omega))]
  exact or_shift x (a / 2 ^ p % 2) t hx (by omega) ht

theorem places_snoc {called names : List (List UInt8)} {t : Nat} (h : t < called.length) : placesOf (called.take (t + 1)) names = placesOf (called.take t) names ++ [names.idxOf called[t]] := by
  rw [List.take_succ_eq_append_getElem h, placesOf, List.map_append]; rfl
theorem map_snoc {α β : Type} (f : α → β) {l : List α} {i : Nat} (h : i < l.length) : (l.take (i + 1)).map f = (l.take i).map f ++ [f l[i]] := by
  rw [List.take_succ_eq_append_getElem h, List.map_append]; rfl

theorem law15_picked (kw kn kc : SK) (w : List Nat) (names called : List (List UInt8)) (hw : w.length * 8 ≤ 140737488351232) (hn : names.length ≤ 6) (hc : called.length ≤ 6) (hin : ∀ s ∈ called, s ∈ names) (ha : ∀ a ∈ w, a < 64) :
    Pure Try.prog 17 [aIs kw (w.map fun a : Nat => (a : Int)), aSs kn names, aSs kc called] (aIs .any ((w.map fun a => gatN a (placesOf called names)).map fun a : Nat => (a : Int))) := by
  have hpl : (placesOf called names).length = called.length := by simp [placesOf]
  refine Pure.of_sw 53 Try.func17 rfl Try.ntmps17 (by kernel_rfl) (Nat.le_of_ble_eq_true (by kernel_rfl)) (by simp [closeds, AV.closed, aSs_closed, aIs_closed, aBs_closed, aRs_closed, aDen_closed]) (by simp [AV.closed, closeds, aSs_closed, aIs_closed, aBs_closed, aRs_closed, aDen_closed]) ?_; refine SW.of_vc ?_
  repeat first | refine opsStep ?_ | refine codeStep ?_ | refine drawStep ?_
  refine loopE_of (ι := {i : Nat // i ≤ w.length})
    (fun i => (fr [(1, aSs kn names), (2, aSs kc called), (7, .hs 0 i.1 0 i.1 1), (14, aIs kw (w.map fun a : Nat => (a : Int))), (15, .int .i64 w.length), (16, .int .i64 i.1)], [.cells i.1 (((w.take i.1).map fun a => gatN a (placesOf called names)).map fun a : Nat => .int .i64 (a : Int))]))
    (fun i => w.length - i.1) ⟨0, by omega⟩ (((Ent.fr' (l := [(1, aSs kn names), (2, aSs kc called), (7, .sl .nil 0 []), (14, aIs kw (w.map fun a : Nat => (a : Int))), (15, .int .i64 w.length), (16, .int .i64 (0 : Nat))]) (H' := []) ⟨(by kernel_rfl), (by kernel_rfl), (by kernel_rfl), (by kernel_rfl), ?_, (by kernel_rfl), trivial⟩ (by kernel_rfl)).trans (Ent.nil 7 1 rfl)).trans (Ent.fr' ⟨(by kernel_rfl), (by kernel_rfl), (by kernel_rfl), (by kernel_rfl), (by kernel_rfl), (by kernel_rfl), trivial⟩ (by kernel_rfl))) ?_
  · refine Eq.trans (b := .int .i64 ((w.map fun a : Nat => (a : Int)).length : Nat)) (by kernel_rfl) ?_
    rw [List.length_map]
  rintro ⟨i, hi⟩
  repeat first | refine opsStep ?_ | refine codeStep ?_ | refine drawStep ?_
  refine decB_dec (fun h => ?_) (fun h => ?_)
  · have hia : i < w.length := by have := h; simp at this; omega
    have hai := ha _ (List.getElem_mem hia)
    have hs := map_snoc (fun a => gatN a (placesOf called names)) hia
    have hl : ((w.take i).map fun a => gatN a (placesOf called names)).length = i := by simp; omega
    generalize (w.take i).map (fun a => gatN a (placesOf called names)) = ws at *
    repeat first | refine opsStep ?_ | refine codeStep ?_ | refine drawStep ?_
    refine guardE_of (by simp; omega) ?_
    repeat first | refine opsStep ?_ | refine codeStep ?_ | refine drawStep ?_
    refine optE_of (c := .int .i64 (w[i] : Nat)) (by simp [Value.cells, hia]) ?_
    repeat first | refine opsStep ?_ | refine codeStep ?_ | refine drawStep ?_
    generalize w[i] = a at *
    refine loopE_of (ι := {t : Nat // t ≤ called.length})
      (fun t => (fr [(1, aSs kn names), (2, aSs kc called), (7, .hs 0 i 0 i 1), (9, .int .i64 (a : Nat)), (10, .int .i64 (gatN a (placesOf (called.take t.1) names) : Nat)), (14, aIs kw (w.map fun a : Nat => (a : Int))), (15, .int .i64 w.length), (16, .int .i64 i), (20, aSs kc called), (21, .int .i64 called.length), (22, .int .i64 t.1)], [.cells i (ws.map fun a : Nat => .int .i64 (a : Int))]))
      (fun t => called.length - t.1) ⟨0, by omega⟩ (Ent.fr' ⟨(by kernel_rfl), (by kernel_rfl), (by kernel_rfl), (by kernel_rfl), (by kernel_rfl), (by kernel_rfl), (by kernel_rfl), (by kernel_rfl), (by kernel_rfl), (by kernel_rfl), (by kernel_rfl), trivial⟩ (by kernel_rfl)) ?_
    rintro ⟨t, ht⟩
    repeat first | refine opsStep ?_ | refine codeStep ?_ | refine drawStep ?_
    refine decB_dec (fun h => ?_) (fun h => ?_)
    · have hta : t < called.length := by have := h; simp at this; omega
      have hm := hin _ (List.getElem_mem hta)
      have hI := glyph_Index kn names called[t] (by omega)
      have hix : idxS names called[t] = (names.idxOf called[t] : Nat) := by rw [idxS, if_pos (List.idxOf_lt_length_of_mem hm)]
      rw [hix] at hI
      have hlt := List.idxOf_lt_length_of_mem hm
      have hps := places_snoc (names := names) hta
      have hgl := gatN_lt a (placesOf (called.take t) names)
      rw [show (placesOf (called.take t) names).length = t by simp [placesOf]; omega] at hgl
      have hge : gatN a (placesOf (called.take (t + 1)) names) = gatN a (placesOf (called.take t) names) + a / 2 ^ (names.idxOf called[t]) % 2 * 2 ^ t := by
        rw [hps, gatN_snoc, show (placesOf (called.take t) names).length = t by simp [placesOf]; omega]
      generalize gatN a (placesOf (called.take t) names) = x at *
      generalize names.idxOf called[t] = p at *
      have hob := or_bit x a p t hgl (by omega) (by omega) (by omega)
      repeat first | refine opsStep ?_ | refine codeStep ?_ | refine drawStep ?_
      refine guardE_of (by simp; omega) ?_
      repeat first | refine opsStep ?_ | refine codeStep ?_ | refine drawStep ?_
      refine optE_of (c := .str called[t]) (by simp [Value.cells, hta]) ?_
      repeat first | refine opsStep ?_ | refine codeStep ?_ | refine drawStep ?_
      refine callP hI ?_
      repeat first | refine opsStep ?_ | refine codeStep ?_ | refine drawStep ?_
      refine decB_dec (fun h60 => ?_) (fun h60 => ?_)
      · repeat first | refine opsStep ?_ | refine codeStep ?_ | refine drawStep ?_
        refine ⟨⟨t + 1, by omega⟩, (by show called.length - (t + 1) < called.length - t; omega), Ent.fr' ⟨(by kernel_rfl), (by kernel_rfl), (by kernel_rfl), (by kernel_rfl), ?_, (by kernel_rfl), (by kernel_rfl), (by kernel_rfl), (by kernel_rfl), (by kernel_rfl), inc_slot (i := t) (by omega), trivial⟩ (by kernel_rfl)⟩
        refine Eq.trans (b := .int .i64 (IntKind.wrap .i64 ((BitVec.ofInt 64 (x : Int) ||| BitVec.ofInt 64 (IntKind.wrap .i64 (IntKind.wrap .i64 ((BitVec.ofInt 64 ((a : Int).fdiv (2 ^ (min (IntKind.wrap .u64 (p : Int)).toNat 64))) &&& BitVec.ofInt 64 1).toNat) * 2 ^ (min (IntKind.wrap .u64 (t : Int)).toNat 64)))).toNat))) (by kernel_rfl) ?_
        rw [hob, ← hge]
      · exact absurd (show (p : Int) < 60 by omega) h60
    · have hta : t = called.length := by have := h; simp at this; omega
      subst hta
      have ht1 : called.take called.length = called := List.take_length
      refine VCode.ent (Ent.fr' (l := [(1, aSs kn names), (2, aSs kc called), (7, .hs 0 i 0 i 1), (10, .int .i64 (gatN a (placesOf called names) : Nat)), (14, aIs kw (w.map fun a : Nat => (a : Int))), (15, .int .i64 w.length), (16, .int .i64 i)]) (H' := [.cells i (ws.map fun a : Nat => .int .i64 (a : Int))]) ⟨(by kernel_rfl), (by kernel_rfl), (by kernel_rfl), ?_, (by kernel_rfl), (by kernel_rfl), (by kernel_rfl), trivial⟩ (by kernel_rfl)) ?_
      · refine Eq.trans (b := .int .i64 (gatN a (placesOf (called.take called.length) names) : Nat)) (by kernel_rfl) ?_
        rw [ht1]
      repeat first | refine opsStep ?_ | refine codeStep ?_ | refine drawStep ?_
      refine guardE_of ⟨rfl, by simp [hl]⟩ ?_
      refine guardE_of rfl ?_
      refine guardE_of ⟨by omega, by show (i + 1) * 8 ≤ 140737488355328; omega⟩ ?_
      repeat first | refine opsStep ?_ | refine codeStep ?_ | refine drawStep ?_
      refine ⟨⟨i + 1, by omega⟩, (by show w.length - (i + 1) < w.length - i; omega), Ent.to (Ent.frD (X := [.cells 0 [.int .i64 (gatN a (placesOf called names) : Nat)]]) (H' := [.cells (i + 1) (((ws.map fun a : Nat => AV.int .i64 (a : Int)).drop 0).take (i * 1) ++ [.int .i64 (gatN a (placesOf called names) : Nat)])])
        ⟨(by kernel_rfl), (by kernel_rfl), (by kernel_rfl), (by kernel_rfl), (by kernel_rfl), inc_slot (i := i) (by omega), trivial⟩ (by kernel_rfl) (Nat.zero_le _) (by first | (simp [frBel, blksBel, Blk.bel, AV.bel, bels, bels_append, bels_map, aSs_bel, aIs_bel, aBs_bel, aRs_bel, aDen_bel, cells_bel]; done) | (simp only [List.drop_zero, ← List.map_take, ← List.map_drop, List.map_map, frBel, blksBel, Blk.bel, AV.bel, bels, bels_append, bels_map, aSs_bel, aIs_bel, aBs_bel, aRs_bel, aDen_bel, cells_bel]; simp [AV.bel, aSs_bel, aIs_bel, aBs_bel, aRs_bel, aDen_bel, cells_bel])) ?_) ?_⟩
      · rw [td_all (by simp [hl])]
        simp [blksBel, Blk.bel, bels_append, bels_map, bels, AV.bel]
      · rw [td_all (by simp [hl])]
        show _ = [Blk.cells (i + 1) (((w.take (i + 1)).map fun a => gatN a (placesOf called names)).map fun a : Nat => .int .i64 (a : Int))]
        rw [hs, List.map_append]; rfl
  · have hia : i = w.length := by have := h; simp at this; omega
    subst hia
    have ht1 : w.take w.length = w := List.take_length
    have er : aIs .any ((w.map fun a => gatN a (placesOf called names)).map fun a : Nat => (a : Int)) = .sl .any w.length (((w.take w.length).map fun a => gatN a (placesOf called names)).map fun a : Nat => .int .i64 (a : Int)) := by
      rw [ht1, aIs]; simp [Function.comp_def]
    rw [er]
    repeat first | refine opsStep ?_ | refine codeStep ?_ | refine drawStep ?_
    exact finFrz 6 (b := 0) (g := w.length) (es := 1) (by kernel_rfl) (by kernel_rfl) (by simp) (by kernel_rfl)

/-! ### The plain law -/

theorem wid_step {d : Den} (hr : rightS d = true) {n : Nat} {P : List Nat} (hP : P.length = d.tracks.length) {q a : Nat} (hq : q < d.accept.length) (ha : a < 2 ^ n) :
    stepN (d.rows.map (ovRow n P)) q a = stepN d.rows q (gatN a P) := by
  have hl := rows_length hr
  have hq' : q < d.rows.length := by omega
  simp [stepN, List.getD_eq_getElem?_getD, hq', ovRow, ha]
theorem wid_run {d : Den} (hr : rightS d = true) {n : Nat} {P : List Nat} (hP : P.length = d.tracks.length) : ∀ (w : List Nat) {q : Nat}, q < d.accept.length → Lets n w →
    runN (d.rows.map (ovRow n P)) q w = runN d.rows q (w.map fun a => gatN a P)
  | [], q, _, _ => rfl
  | a :: w, q, hq, hw => by
    have hg := gatN_lt a P
    rw [hP] at hg
    obtain ⟨_, _, _, h4⟩ := stepN_ok hr hq hg
    show runN _ (stepN _ q a) w = runN _ (stepN _ q (gatN a P)) _
    rw [wid_step hr hP hq (hw a (by simp))]
    exact wid_run hr hP w h4 fun b hb => hw b (by simp [hb])

theorem gat_onto {n : Nat} {P : List Nat} (hn : P.Nodup) (hp : ∀ p ∈ P, p < n) {b : Nat} (hb : b < 2 ^ P.length) : ∃ a, a < 2 ^ n ∧ gatN a P = b := by
  refine ⟨gatN b ((List.range n).map fun j => P.idxOf j), by have := gatN_lt b ((List.range n).map fun j => P.idxOf j); simpa using this, ?_⟩
  rw [gat_comp b _ P fun p h => by simpa using hp p h]
  have e : P.map (fun p => ((List.range n).map fun j => P.idxOf j).getD p 0) = List.range P.length := by
    refine List.ext_getElem (by simp) fun i h1 h2 => ?_
    have hi : i < P.length := by simpa using h2
    have hpi := hp _ (List.getElem_mem hi)
    have hix : P.idxOf P[i] = i := by
      have hm := List.idxOf_lt_length_of_mem (List.getElem_mem hi)
      have e := List.getElem_idxOf hm
      rcases Nat.lt_trichotomy (P.idxOf P[i]) i with h1 | h1 | h1
      · exact absurd e (List.pairwise_iff_getElem.1 hn _ _ hm hi h1)
      · exact h1
      · exact absurd e.symm (List.pairwise_iff_getElem.1 hn _ _ hi hm h1)
    simp [List.getD_eq_getElem?_getD, hpi, hix]
  rw [e, gat_range hb]
theorem gat_onto_word {n : Nat} {P : List Nat} (hn : P.Nodup) (hp : ∀ p ∈ P, p < n) : ∀ (u : List Nat), Lets P.length u → ∃ v, Lets n v ∧ v.map (fun a => gatN a P) = u
  | [], _ => ⟨[], fun a ha => absurd ha (by simp), rfl⟩
  | b :: u, h => by
    obtain ⟨a, ha, e⟩ := gat_onto (n := n) hn hp (h b (by simp))
    obtain ⟨v, hv, e'⟩ := gat_onto_word hn hp u fun x hx => h x (by simp [hx])
    exact ⟨a :: v, fun x hx => by
      rcases List.mem_cons.1 hx with rfl | hx
      · exact ha
      · exact hv x hx, by rw [List.map_cons, e, e']⟩

theorem lets_gat {n : Nat} {P : List Nat} (v : List Nat) : Lets P.length (v.map fun a => gatN a P) := fun b hb => by
  obtain ⟨a, _, rfl⟩ := List.mem_map.1 hb
  exact gatN_lt a P
theorem lets_append {k : Nat} {u v : List Nat} (hu : Lets k u) (hv : Lets k v) : Lets k (u ++ v) := fun a ha => by
  rcases List.mem_append.1 ha with ha | ha
  · exact hu a ha
  · exact hv a ha

structure WidOk (d : Den) (names : List (List UInt8)) : Prop where
  right : rightS d = true
  names6 : names.length ≤ 6
  len : (placesOf d.tracks names).length = d.tracks.length
  nodup : (placesOf d.tracks names).Nodup
  lt : ∀ p ∈ placesOf d.tracks names, p < names.length
  wright : rightS (widenR d names) = true
  tracks : (widenR d names).tracks = names
  mem : ∀ s ∈ d.tracks, s ∈ names
theorem wid_ok {d : Den} {names : List (List UInt8)} (h : widenE d names = 0) : WidOk d names := by
  obtain ⟨hr, h2, h3, h4⟩ := widenE_of_ok h
  obtain ⟨k2, k3, _, _⟩ := tracksS_parts (rightS_parts hr).1
  have hin := inAll_iff.1 h4
  have hnd := strict_nodup (rises_strict k3)
  refine ⟨hr, h3, by simp [placesOf], ?_, ?_, ?_, by rw [widenR_ok h]; rfl, hin⟩
  · refine List.pairwise_iff_getElem.2 fun i j hi hj hij e => ?_
    have hi' : i < d.tracks.length := by simpa [placesOf] using hi
    have hj' : j < d.tracks.length := by simpa [placesOf] using hj
    simp only [placesOf, List.getElem_map] at e
    have := idx_inj' (hin _ (List.getElem_mem hi')) (hin _ (List.getElem_mem hj')) e
    exact List.pairwise_iff_getElem.1 hnd i j hi' hj' hij this
  · intro p hp
    obtain ⟨s, hs, rfl⟩ := List.mem_map.1 hp
    exact List.idxOf_lt_length_of_mem (hin s hs)
  · rw [widenR_ok h, widenD_ov]
    exact ovD_right hr h3 h2 (by simp [placesOf])

theorem wid_lang {d : Den} {names : List (List UInt8)} (h : widenE d names = 0) {v : List Nat} (hv : Lets names.length v) : lang (widenR d names) v = lang d (v.map fun a => gatN a (placesOf d.tracks names)) := by
  have ok := wid_ok h
  have hl := lets_gat (n := names.length) (P := placesOf d.tracks names) v
  rw [ok.len] at hl
  rw [lang, langR_let (by rw [ok.tracks]; exact hv), lang, langR_let hl, widenR_ok h]
  have e : (widenD d names).rows = d.rows.map (ovRow names.length (placesOf d.tracks names)) := by simp [widenD, Den.rows, Function.comp_def]
  rw [e, wid_run ok.right ok.len v (right_pos ok.right) hv]
  rfl
theorem wid_sound {d : Den} {names : List (List UInt8)} (h : widenE d names = 0) : soundD (widenR d names) = soundD d := by
  have ok := wid_ok h
  have hiff : SoundL names.length (lang (widenR d names)) ↔ SoundL d.tracks.length (lang d) := by
    have one : ∀ {a}, a < 2 ^ names.length → Lets names.length [a] := fun {a} ha x hx => by simp at hx; omega
    have two : ∀ {a}, a < 2 ^ names.length → Lets names.length [a, a] := fun {a} ha x hx => by simp at hx; omega
    constructor
    · rintro ⟨h1, h2⟩
      refine ⟨by rw [wid_lang h (fun a ha => absurd ha (by simp))] at h1; exact h1, fun u b hu hb => ?_⟩
      rw [← ok.len] at hu hb
      obtain ⟨a, ha, ea⟩ := gat_onto (n := names.length) ok.nodup ok.lt hb
      obtain ⟨v, hv, ev⟩ := gat_onto_word (n := names.length) ok.nodup ok.lt u hu
      have := h2 v a hv ha
      rw [wid_lang h (lets_append hv (one ha)), wid_lang h (lets_append hv (two ha)), List.map_append, List.map_append, ev] at this
      simpa [ea] using this
    · rintro ⟨h1, h2⟩
      refine ⟨by rw [wid_lang h (fun a ha => absurd ha (by simp))]; exact h1, fun v a hv ha => ?_⟩
      rw [wid_lang h (lets_append hv (one ha)), wid_lang h (lets_append hv (two ha)), List.map_append, List.map_append]
      have hl := lets_gat (n := names.length) (P := placesOf d.tracks names) v
      rw [ok.len] at hl
      have hg := gatN_lt a (placesOf d.tracks names)
      rw [ok.len] at hg
      exact h2 _ _ hl hg
  have e1 := soundD_iff ok.wright
  rw [ok.tracks, hiff, ← soundD_iff ok.right] at e1
  cases h1 : soundD (widenR d names) <;> cases h2 : soundD d <;> simp_all

end Tab

/- Layer 15: the law TrackMeans. -/
namespace Tab
open Go Go.Proofs
set_option maxRecDepth 10000
set_option linter.unusedVariables false
set_option linter.unusedSimpArgs false
set_option linter.unusedSectionVars false

theorem law_TrackMeans (kn kw : SK) (d : Den) (names : List (List UInt8)) (words : List (SK × List Int)) (hd : DenOk d) (hn : names.length * 16 ≤ 140737488351232) (hns : ∀ s ∈ names, s.length ≤ 140737488351232)
    (hwl : words.length * 24 ≤ 140737488351232) (hws : ∀ v ∈ words, v.2.length * 8 ≤ 140737488351232) :
    Pure Try.prog 3 [aDen d, aSs kn names, aRs kw words] (.bool true) := by
  have hcp := r12_CopyDense d hd
  have hwd := track_Widen_pure .any (copyD d) names (copyD_ok hd) hn hns
  rw [copyD_widenE, copyD_widenR] at hwd
  have hokW := widenR_ok_den hd hn hns
  have hR := r12_Right (widenR d names) hokW
  have hSw := canon_Sound (widenR d names) hokW
  have hSd := canon_Sound d hd
  have hbad : widenE d names ≠ 0 → (widenR d names).accept.length = 0 := fun h => by rw [widenR_bad h]; rfl
  have hok : widenE d names = 0 → WidOk d names := wid_ok
  have hsnd : widenE d names = 0 → soundD (widenR d names) = soundD d := wid_sound
  have hlang : widenE d names = 0 → ∀ v, Lets names.length v → lang (widenR d names) v = lang d (v.map fun a => gatN a (placesOf d.tracks names)) := fun h v hv => wid_lang h hv
  have htr : widenE d names = 0 → (widenR d names).tracks = names ∧ rightS (widenR d names) = true := fun h => ⟨(wid_ok h).tracks, (wid_ok h).wright⟩
  generalize copyD d = e at *
  generalize widenR d names = w at *
  generalize widenE d names = why at *
  have h1 := hd.tracks
  refine Pure.of_sw 69 Try.func3 rfl Try.ntmps3 (by kernel_rfl) (Nat.le_of_ble_eq_true (by kernel_rfl)) (by simp [closeds, AV.closed, aSs_closed, aIs_closed, aBs_closed, aRs_closed, aDen_closed]) (by simp [AV.closed, closeds, aSs_closed, aIs_closed, aBs_closed, aRs_closed, aDen_closed]) ?_; refine SW.of_vc ?_
  repeat first | refine opsStep ?_ | refine codeStep ?_ | refine drawStep ?_
  refine callP law15_fixed ?_
  repeat first | refine opsStep ?_ | refine codeStep ?_ | refine drawStep ?_
  refine callP hcp ?_
  repeat first | refine opsStep ?_ | refine codeStep ?_ | refine drawStep ?_
  refine guardE_of (by simp [Value.cells]) ?_
  refine guardE_of ⟨by omega, by show (0 + names.length) * 16 ≤ 140737488355328; omega⟩ ?_
  repeat first | refine opsStep ?_ | refine codeStep ?_ | refine drawStep ?_
  refine callZ 1 (g := 1) (cs := names.map .str) (by kernel_rfl) hwd ?_ ?_
  · show FzN [.cells 0 d.cells, .fro 1 (names.map .str)] [aDen e, .hs 1 1 0 (0 + names.length) 1] [aDen e, aSs .any names]
    rw [Nat.zero_add]
    exact .same (.hs (b := 1) (g := 1) rfl (by simp) .nil)
  iterate 7 refine opsStep ?_
  refine VCode.ent (Ent.fr' (l := [(1, aSs kn names), (2, aRs kw words), (3, .ref 0 0 0), (7, .ref 2 0 0), (8, .int .i64 why)]) (H' := [Blk.cells 0 d.cells, .fro 1 (names.map .str), .cells 0 w.cells]) ⟨(by kernel_rfl), (by kernel_rfl), (by kernel_rfl), (by kernel_rfl), (by kernel_rfl), trivial⟩ (by kernel_rfl)) ?_
  repeat first | refine opsStep ?_ | refine codeStep ?_ | refine drawStep ?_
  refine decB_dec (fun hw => ?_) (fun hw => ?_)
  · have hw : ¬ why = 0 := hw
    have := hbad hw
    repeat first | refine opsStep ?_ | refine codeStep ?_ | refine drawStep ?_
    exact finB (b' := decide ((w.accept.length : Int) = 0)) (by kernel_rfl) (by simp [this])
  have hw0 : why = 0 := Decidable.of_not_not hw
  subst hw0
  have ok := hok rfl
  obtain ⟨ht, hwr⟩ := htr rfl
  have hs := hsnd rfl
  have hlang := hlang rfl
  rw [hwr] at hR
  rw [hs] at hSw
  have hsame := law15_same w.tk kn w.tracks names (by rw [ht]; omega) (by omega)
  rw [ht, decide_eq_true rfl] at hsame
  have hn6 := ok.names6
  have hd6 := tracksS_le (rightS_parts ok.right).1
  have htk : aSs w.tk w.tracks = aSs w.tk names := by rw [ht]
  generalize soundD d = sd at *
  repeat first | refine opsStep ?_ | refine codeStep ?_ | refine drawStep ?_
  refine SW.drawn rfl (by kernel_rfl) ?_
  repeat first | refine opsStep ?_ | refine codeStep ?_ | refine drawStep ?_
  refine .inl ⟨_, _, [], hR, RdsN_refl _, .inr rfl, none_need, ?_⟩
  repeat first | refine opsStep ?_ | refine codeStep ?_ | refine drawStep ?_
  refine .inl ⟨_, _, [], (by rw [htk]; exact hsame), RdsN_refl _, .inr rfl, none_need, ?_⟩
  repeat first | refine opsStep ?_ | refine codeStep ?_ | refine drawStep ?_
  refine .inl ⟨_, _, [], hSw, RdsN_refl _, .inr rfl, none_need, ?_⟩
  repeat first | refine opsStep ?_ | refine codeStep ?_ | refine drawStep ?_
  refine .inl ⟨_, _, [], hSd, RdsN_refl _, .inr rfl, none_need, ?_⟩
  repeat first | refine opsStep ?_ | refine codeStep ?_ | refine drawStep ?_
  refine ⟨by kernel_rfl, ?_⟩
  repeat first | refine opsStep ?_ | refine codeStep ?_ | refine drawStep ?_
  refine decB_false (by simp) ?_
  repeat first | refine opsStep ?_ | refine codeStep ?_ | refine drawStep ?_
  refine loopE_of (ι := {i : Nat // i ≤ words.length})
    (fun i => (fr [(1, aSs kn names), (2, aRs kw words), (3, .ref 0 0 0), (7, .ref 2 0 0), (45, aRs kw words), (46, .int .i64 words.length), (47, .int .i64 i.1)], [Blk.cells 0 d.cells, .fro 1 (names.map .str), .cells 0 w.cells]))
    (fun i => words.length - i.1) ⟨0, by omega⟩ (Ent.fr' ⟨(by kernel_rfl), (by kernel_rfl), (by kernel_rfl), (by kernel_rfl), (by kernel_rfl), (by kernel_rfl), (by kernel_rfl), trivial⟩ (by kernel_rfl)) ?_
  rintro ⟨i, hi⟩
  repeat first | refine opsStep ?_ | refine codeStep ?_ | refine drawStep ?_
  refine decB_dec (fun h => ?_) (fun h => ?_)
  · have hia : i < words.length := by have := h; simp at this; omega
    have hvl := hws _ (List.getElem_mem hia)
    have hgi : words[i]? = some words[i] := List.getElem?_eq_getElem hia
    generalize words[i] = v at *
    obtain ⟨vk, v⟩ := v
    simp only at hvl
    have hW := r12_Word vk v names.length (by omega) (by omega)
    repeat first | refine opsStep ?_ | refine codeStep ?_ | refine drawStep ?_
    refine guardE_of (by simp; omega) ?_
    repeat first | refine opsStep ?_ | refine codeStep ?_ | refine drawStep ?_
    refine optE_of (c := aIs vk v) (by simp [Value.cells, hgi]) ?_
    repeat first | refine opsStep ?_ | refine codeStep ?_ | refine drawStep ?_
    refine SW.drawn rfl (by kernel_rfl) ?_
    repeat first | refine opsStep ?_ | refine codeStep ?_ | refine drawStep ?_
    refine .inl ⟨_, _, [], hW, RdsN_refl _, .inr rfl, none_need, ?_⟩
    cases hwb : wordB names.length v with
    | false =>
      repeat first | refine opsStep ?_ | refine codeStep ?_ | refine drawStep ?_
      refine ⟨by kernel_rfl, ?_⟩
      repeat first | refine opsStep ?_ | refine codeStep ?_ | refine drawStep ?_
      refine ⟨⟨i + 1, by omega⟩, (by show words.length - (i + 1) < words.length - i; omega), Ent.fr' ⟨(by kernel_rfl), (by kernel_rfl), (by kernel_rfl), (by kernel_rfl), (by kernel_rfl), (by kernel_rfl), inc_slot (i := i) (by omega), trivial⟩ (by kernel_rfl)⟩
    | true =>
      obtain ⟨u, rfl, hu⟩ := wordB_nat hwb
      have hul : u.length * 8 ≤ 140737488351232 := by simpa using hvl
      have hu64 : ∀ a ∈ u, a < 64 := fun a ha => by
        have h1 := hu a ha
        have : 2 ^ names.length ≤ 2 ^ 6 := Nat.pow_le_pow_right (by omega) hn6
        omega
      have hg := lets_gat (n := names.length) (P := placesOf d.tracks names) u
      rw [ok.len] at hg
      have hT1 := r12_Takes vk w hokW hwr u (by omega) (by rw [ht]; exact hu)
      rw [takesB_lang (by rw [ht]; exact hu), hlang u hu] at hT1
      have hpk := law15_picked vk kn d.tk u names d.tracks hul hn6 hd6 ok.mem hu64
      have hT2 := r12_Takes .any d hd ok.right (u.map fun a => gatN a (placesOf d.tracks names)) (by simp; omega) hg
      rw [takesB_lang hg] at hT2
      generalize lang d (u.map fun a => gatN a (placesOf d.tracks names)) = tb at *
      repeat first | refine opsStep ?_ | refine codeStep ?_ | refine drawStep ?_
      refine .inl ⟨_, _, [], hT1, RdsN_refl _, .inr rfl, none_need, ?_⟩
      repeat first | refine opsStep ?_ | refine codeStep ?_ | refine drawStep ?_
      refine .inl ⟨_, _, [], hpk, RdsN_refl _, .inr rfl, none_need, ?_⟩
      repeat first | refine opsStep ?_ | refine codeStep ?_ | refine drawStep ?_
      refine .inl ⟨_, _, [], hT2, RdsN_refl _, .inr rfl, none_need, ?_⟩
      repeat first | refine opsStep ?_ | refine codeStep ?_ | refine drawStep ?_
      refine ⟨by kernel_rfl, ?_⟩
      repeat first | refine opsStep ?_ | refine codeStep ?_ | refine drawStep ?_
      refine decB_false (by simp) ?_
      repeat first | refine opsStep ?_ | refine codeStep ?_ | refine drawStep ?_
      refine ⟨⟨i + 1, by omega⟩, (by show words.length - (i + 1) < words.length - i; omega), Ent.fr' ⟨(by kernel_rfl), (by kernel_rfl), (by kernel_rfl), (by kernel_rfl), (by kernel_rfl), (by kernel_rfl), inc_slot (i := i) (by omega), trivial⟩ (by kernel_rfl)⟩
  · repeat first | refine opsStep ?_ | refine codeStep ?_ | refine drawStep ?_
    exact finB (b' := true) (by kernel_rfl) rfl

end Tab
