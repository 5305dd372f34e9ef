/- A machine over more tracks, as a value. -/
import Derived.Test.YthdpblbclgpnjaaWd
namespace Tab
open Go Go.Proofs
set_option maxRecDepth 10000
set_option linter.unusedVariables false
set_option linter.unusedSimpArgs false
set_option linter.unusedSectionVars false

def widenD (d : Den) (names : List (List UInt8)) : Den := ⟨.any, names, .any, d.accept, .any, (d.rows.map (ovRow names.length (placesOf d.tracks names))).map fun r => (.any, r)⟩
@[irreducible] def widenR (d : Den) (names : List (List UInt8)) : Den := if widenE d names = 0 then widenD d names else den0
theorem widenR_ok {d names} (h : widenE d names = 0) : widenR d names = widenD d names := by rw [widenR, if_pos h]
theorem widenR_bad {d names} (h : widenE d names ≠ 0) : widenR d names = den0 := by rw [widenR, if_neg h]

theorem ovRow_length (n pl r) : (ovRow n pl r).length = 2 ^ n := by simp [ovRow]

theorem rd_row {H : List Blk} {b n : Nat} {r : List Int} (hb : H[b]? = some (.cells 0 (r.map (.int .i64)))) (hn : r.length = n) : Rd H (.hs b 0 0 n 1) (aIs .any r) := by
  rw [aIs, hn]
  exact Rd.whole hb (by simp [hn])

theorem wd_read (d : Den) (names : List (List UInt8)) (b0 b1 b2 b3 b4 b7 : Blk) : Rd (wdHeap d names b0 b1 b2 b3 b4 b7) (wdRes d names) (aDen (widenD d names)) := by
  have hl : d.rows.length = d.next.length := by simp [Den.rows]
  refine Rd.agg (.cons ?_ (.cons ?_ (.cons ?_ .nil)))
  · exact Rd.whole (b := 5) (g := 0) (cs := names.map .str) rfl (by simp)
  · exact Rd.whole (b := 6) (g := 0) (cs := d.accept.map .bool) rfl (by simp)
  · have e : aRs .any (widenD d names).next = .sl .any d.next.length ((d.rows.map (ovRow names.length (placesOf d.tracks names))).map (aIs .any)) := by
      simp [aRs, widenD, hl, Function.comp_def]
    have e : aRs (widenD d names).nk (widenD d names).next = .sl .any d.next.length ((d.rows.map (ovRow names.length (placesOf d.tracks names))).map (aIs .any)) := e
    rw [e]
    refine .hs (b := 8) (cs := (List.range d.next.length).map fun j => .hs (9 + j) 0 0 (2 ^ names.length) 1) rfl rfl (by simp) ?_
    rw [List.drop_zero, List.take_of_length_le (by simp)]
    refine Rds.of_get (by simp [hl]) fun i a a' ha ha' => ?_
    rw [List.getElem?_map, Option.map_eq_some_iff] at ha ha'
    obtain ⟨j, hj, rfl⟩ := ha
    obtain ⟨r, hr, rfl⟩ := ha'
    have hj' := List.getElem?_eq_some_iff.1 hj
    obtain ⟨hj1, hj2⟩ := hj'
    simp only [List.getElem_range] at hj2
    subst hj2
    refine rd_row ?_ ?_
    · rw [wdHeap, List.getElem?_append_right (by simp)]
      simp only [List.length_cons, List.length_nil, ovBlks, List.getElem?_map]
      rw [show 9 + i - (0 + 1 + 1 + 1 + 1 + 1 + 1 + 1 + 1 + 1) = i by omega]
      rw [List.getElem?_map] at hr
      rw [hr]; rfl
    · rw [List.getElem?_map, Option.map_eq_some_iff] at hr
      obtain ⟨x, _, rfl⟩ := hr
      exact ovRow_length _ _ _

theorem rd_den {H : List Blk} {a b c base n ga gb gc N M K : Nat} {names : List (List UInt8)} {acc : List Bool} {rows : List (List Int)} (h1 : H[a]? = some (.cells ga (names.map .str))) (h2 : H[b]? = some (.cells gb (acc.map .bool)))
    (h3 : H[c]? = some (.cells gc ((List.range rows.length).map fun j => .hs (base + j) 0 0 n 1))) (h4 : ∀ j r, rows[j]? = some r → H[base + j]? = some (.cells 0 (r.map (.int .i64))) ∧ r.length = n) (hN : N = names.length) (hM : M = acc.length) (hK : K = rows.length) :
    Rd H (.agg [.hs a ga 0 N 1, .hs b gb 0 M 1, .hs c gc 0 K 1]) (aDen ⟨.any, names, .any, acc, .any, rows.map fun r => (.any, r)⟩) := by
  subst hN hM hK
  refine Rd.agg (.cons ?_ (.cons ?_ (.cons ?_ .nil)))
  · exact Rd.whole (cs := names.map .str) h1 (by simp)
  · exact Rd.whole (cs := acc.map .bool) h2 (by simp)
  · have e : aRs .any (rows.map fun r => (SK.any, r)) = .sl .any rows.length (rows.map (aIs .any)) := by simp [aRs, Function.comp_def]
    show Rd H _ (aRs .any (rows.map fun r => (SK.any, r)))
    rw [e]
    refine .hs h3 rfl (by simp) ?_
    rw [List.drop_zero, List.take_of_length_le (by simp)]
    refine Rds.of_get (by simp) fun i a a' ha ha' => ?_
    rw [List.getElem?_map, Option.map_eq_some_iff] at ha ha'
    obtain ⟨j, hj, rfl⟩ := ha
    obtain ⟨r, hr, rfl⟩ := ha'
    obtain ⟨hj1, hj2⟩ := List.getElem?_eq_some_iff.1 hj
    simp only [List.getElem_range] at hj2
    subst hj2
    obtain ⟨k1, k2⟩ := h4 i r hr
    exact rd_row k1 k2

theorem track_Widen_pure (kn : SK) (d : Den) (names : List (List UInt8)) (hd : DenOk d) (hn : names.length * 16 ≤ 140737488351232) (hns : ∀ s ∈ names, s.length ≤ 140737488351232) :
    Pure Try.prog 9 [aDen d, aSs kn names] (.tup [aDen (widenR d names), .int .i64 (widenE d names)]) := by
  refine Pure.of_read (by simp [closeds, aDen_closed, aSs_closed]) (by simp [AV.closed, closeds, aDen_closed]) (track_Widen kn d names hd hn hns) ?_
  rintro o H' (⟨h, rfl⟩ | ⟨h, rfl, b0, b1, b2, b3, b4, b7, rfl⟩)
  · exact ⟨_, rfl, by rw [widenR_bad h]; exact .refl _⟩
  · refine ⟨_, rfl, ?_⟩
    rw [widenR_ok h, h]
    exact Rd.tup (.cons (wd_read d names b0 b1 b2 b3 b4 b7) (.cons (.refl _) .nil))

end Tab
