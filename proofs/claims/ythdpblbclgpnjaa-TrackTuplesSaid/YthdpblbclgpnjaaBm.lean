/- Renamed and back, widened twice: the machines. -/
import Derived.Test.YthdpblbclgpnjaaBk
namespace Tab
open Go Go.Proofs
set_option maxRecDepth 10000
set_option linter.unusedVariables false
set_option linter.unusedSimpArgs false
set_option linter.unusedSectionVars false

theorem tracksS_parts {l : List (List UInt8)} {n : Int} (h : tracksS l n = true) : l.length ≤ 6 ∧ risesS l = true ∧ 1 ≤ n ∧ n ≤ 256 := by
  simp only [tracksS, Bool.and_eq_true, decide_eq_true_eq] at h
  exact ⟨h.1.1.1, h.1.1.2, h.1.2, h.2⟩
theorem tracksS_mk {l : List (List UInt8)} {n : Int} (h1 : l.length ≤ 6) (h2 : risesS l = true) (h3 : 1 ≤ n) (h4 : n ≤ 256) : tracksS l n = true := by
  simp [tracksS, h1, h2, h3, h4]

def ovD (d : Den) (names : List (List UInt8)) (P : List Nat) : Den := ⟨.any, names, .any, d.accept, .any, (d.rows.map (ovRow names.length P)).map fun r => (.any, r)⟩
theorem ovD_rows (d names P) : (ovD d names P).rows = d.rows.map (ovRow names.length P) := by simp [ovD, Den.rows, Function.comp_def]
theorem widenD_ov (d names) : widenD d names = ovD d names (placesOf d.tracks names) := rfl
theorem renD_ov (d fm tt) : renD d fm tt = ovD d (sortR (calS d.tracks fm tt)) (placesOf (calS d.tracks fm tt) (sortR (calS d.tracks fm tt))) := rfl
theorem rows_len {d : Den} (h : rightS d = true) : ∀ r ∈ d.rows, r.length = 2 ^ d.tracks.length := by
  intro r hr
  obtain ⟨x, hx, rfl⟩ := List.mem_map.1 hr
  exact (rowOk_parts ((rightS_parts h).2.2 x hx)).1
theorem ovD_right {d : Den} {names : List (List UInt8)} {P : List Nat} (h : rightS d = true) (h1 : names.length ≤ 6) (h2 : risesS names = true) (hP : P.length = d.tracks.length) : rightS (ovD d names P) = true := by
  obtain ⟨k1, k2, k3⟩ := rightS_parts h
  obtain ⟨_, _, k4, k5⟩ := tracksS_parts k1
  rw [rightS, show (ovD d names P).tracks = names from rfl, show (ovD d names P).accept = d.accept from rfl, tracksS_mk h1 h2 k4 k5]
  have e : (ovD d names P).next.length = d.accept.length := by simp [ovD, Den.rows, k2]
  rw [decide_eq_true e, Bool.true_and, Bool.true_and, List.all_eq_true]
  intro r hr
  simp only [ovD, Den.rows, List.mem_map] at hr
  obtain ⟨_, ⟨_, ⟨x, hx, rfl⟩, rfl⟩, rfl⟩ := hr
  obtain ⟨l1, l2⟩ := rowOk_parts (k3 x hx)
  rw [rowOk, decide_eq_true (ovRow_length _ _ _), Bool.true_and, List.all_eq_true]
  intro y hy
  simp only [ovRow, List.mem_map, List.mem_range] at hy
  obtain ⟨a, _, rfl⟩ := hy
  have hg := gatN_lt a P
  rw [hP, ← l1] at hg
  have := l2 _ (List.getElem_mem hg)
  simp [List.getD_eq_getElem?_getD, hg]
  exact this
theorem ovD_same {d e : Den} {names : List (List UInt8)} {P : List Nat} (h1 : names = e.tracks) (h2 : d.accept = e.accept) (h3 : d.rows.map (ovRow names.length P) = e.rows) : sameD (ovD d names P) e = true := by
  rw [sameD_eq, ovD_rows, h3]
  simp [ovD, h1, h2]
theorem rows_id {d : Den} (h : rightS d = true) : d.rows.map (ovRow d.tracks.length (List.range d.tracks.length)) = d.rows := by
  have : ∀ r ∈ d.rows, ovRow d.tracks.length (List.range d.tracks.length) r = r := fun r hr => ovRow_id (rows_len h r hr)
  rw [List.map_congr_left this, List.map_id']

theorem strict_tog {l : List (List UInt8)} (h : Strict l) : togS l = l := strict_eq (tog_strict l) h fun x => tog_mem l x
theorem inAll_iff {a b : List (List UInt8)} : inAll a b = true ↔ ∀ s ∈ a, s ∈ b := by simp [inAll]
theorem allIn_iff {a b : List (List UInt8)} : allIn a b = true ↔ ∀ s ∈ a, s ∈ b := by simp [allIn]
theorem nonN_iff {a : List (List UInt8)} : nonN a = false ↔ ∀ s ∈ a, nameS s = true := by simp [nonN]

theorem widen_self {d : Den} (h : rightS d = true) : widenE d d.tracks = 0 ∧ sameD (widenR d d.tracks) d = true := by
  obtain ⟨k1, _, _⟩ := rightS_parts h
  obtain ⟨k2, k3, _, _⟩ := tracksS_parts k1
  have h0 := widenE_ok h k3 k2 (inAll_iff.2 fun s hs => hs)
  refine ⟨h0, ?_⟩
  rw [widenR_ok h0, widenD_ov, places_self (strict_nodup (rises_strict k3))]
  exact ovD_same rfl rfl (rows_id h)

theorem calN_self {tr : List (List UInt8)} (h : tr.Nodup) : ∀ i, i ≤ tr.length → calN tr tr tr i = tr
  | 0, _ => rfl
  | i + 1, hi => by
    have e : tr.getD i [] = tr[i] := by simp [List.getD_eq_getElem?_getD, show i < tr.length by omega]
    rw [calN, calN_self h i (by omega), e, idx_get h]
    simp
theorem ren_self {d : Den} (h : rightS d = true) : renE d d.tracks d.tracks = 0 ∧ sameD (renR d d.tracks d.tracks) d = true := by
  obtain ⟨k1, _, _⟩ := rightS_parts h
  obtain ⟨k2, k3, _, _⟩ := tracksS_parts k1
  have hs := rises_strict k3
  have hnd := strict_nodup hs
  have hn := nonN_iff.2 (rises_names k3)
  have hc : calS d.tracks d.tracks d.tracks = d.tracks := calN_self hnd _ (Nat.le_refl _)
  have ht := strict_tog hs
  obtain ⟨s1, s2⟩ := sort_fine hn (by rw [ht])
  have h0 : renE d d.tracks d.tracks = 0 := by
    rw [ren_sort h rfl hn (allIn_iff.2 fun s hs => hs) (tw_nodup hnd), hc]
    exact s1
  refine ⟨h0, ?_⟩
  rw [renR_ok h0, renD_ov, hc, s2, ht, places_self hnd]
  exact ovD_same rfl rfl (rows_id h)

theorem widen_twice {d : Den} {more all : List (List UInt8)} (h1 : widenE d more = 0) (h2 : widenE (widenR d more) all = 0) : widenE d all = 0 ∧ sameD (widenR d all) (widenR (widenR d more) all) = true := by
  obtain ⟨hr, r1, l1, i1⟩ := widenE_of_ok h1
  obtain ⟨_, r2, l2, i2⟩ := widenE_of_ok h2
  have hk := tracksS_parts (rightS_parts hr).1
  have i1 := inAll_iff.1 i1
  have i2 := inAll_iff.1 i2
  have htm : (widenR d more).tracks = more := by rw [widenR_ok h1]; rfl
  rw [htm] at i2
  have h0 := widenE_ok hr r2 l2 (inAll_iff.2 fun s hs => i2 s (i1 s hs))
  refine ⟨h0, ?_⟩
  rw [widenR_ok h0, widenR_ok h2, widenD_ov, widenD_ov, htm]
  refine ovD_same rfl ?_ ?_
  · rw [widenR_ok h1]; rfl
  · rw [ovD_rows, widenR_ok h1, widenD_ov, ovD_rows, List.map_map]
    refine List.map_congr_left fun r _ => ?_
    rw [Function.comp_apply, ovRow_comp _ _ _ _ _ (by simp [placesOf]) (fun b hb => ?_)]
    · congr 1
      refine List.ext_getElem (by simp [placesOf]) fun i q1 q2 => ?_
      have hi : i < d.tracks.length := by simpa [placesOf] using q1
      have hm := List.idxOf_lt_length_of_mem (i1 _ (List.getElem_mem hi))
      simp only [placesOf, List.getElem_map, List.getD_eq_getElem?_getD, List.getElem?_map, List.getElem?_eq_getElem hm, Option.map_some, Option.getD_some]
      rw [List.getElem_idxOf hm]
    · obtain ⟨s, hs, rfl⟩ := List.mem_map.1 hb
      exact List.idxOf_lt_length_of_mem (i1 s hs)

end Tab
