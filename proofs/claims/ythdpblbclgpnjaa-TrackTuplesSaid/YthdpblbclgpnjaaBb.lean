/- Renamed and renamed back. -/
import Derived.Test.YthdpblbclgpnjaaBm
namespace Tab
open Go Go.Proofs
set_option maxRecDepth 10000
set_option linter.unusedVariables false
set_option linter.unusedSimpArgs false
set_option linter.unusedSectionVars false

theorem renE_of_ok {d : Den} {fm tt : List (List UInt8)} (h : renE d fm tt = 0) : rightS d = true ∧ fm.length = tt.length ∧ nonN tt = false ∧ allIn fm d.tracks = true ∧ twS fm = false ∧ sortE (calS d.tracks fm tt) = 0 := by
  cases h1 : rightS d with
  | false => rw [ren_shape (.inl h1)] at h; omega
  | true =>
    by_cases h2 : fm.length = tt.length
    · cases h3 : nonN tt with
      | true => rw [ren_name h1 h2 h3] at h; omega
      | false =>
        cases h4 : allIn fm d.tracks with
        | false => rw [ren_none h1 h2 h3 h4] at h; omega
        | true =>
          cases h5 : twS fm with
          | true => rw [ren_twice h1 h2 h3 h4 h5] at h; omega
          | false => exact ⟨rfl, h2, rfl, rfl, rfl, by rw [← ren_sort h1 h2 h3 h4 h5]; exact h⟩
    · rw [ren_shape (.inr h2)] at h; omega

theorem idx_inj {l : List (List UInt8)} {a b : List UInt8} (ha : a ∈ l) (hb : b ∈ l) (h : l.idxOf a = l.idxOf b) : a = b := by
  have h1 := List.getElem_idxOf (List.idxOf_lt_length_of_mem ha)
  have h2 := List.getElem_idxOf (List.idxOf_lt_length_of_mem hb)
  rw [← h1, ← h2]
  simp only [h]

theorem cal_hit {tr fm tt : List (List UInt8)} (hl : fm.length = tt.length) (hd : fm.Nodup) (hm : ∀ s ∈ fm, s ∈ tr) : ∀ i, i ≤ fm.length → ∀ k (hk : k < i) (hkl : k < fm.length), (calN tr fm tt i)[tr.idxOf fm[k]]? = tt[k]?
  | i + 1, hi, k, hk, hkl => by
    have hil : i < fm.length := by omega
    have e : fm.getD i [] = fm[i] := by simp [List.getD_eq_getElem?_getD, hil]
    have e2 : tt.getD i [] = tt[i] := by simp [List.getD_eq_getElem?_getD, show i < tt.length by omega]
    rw [calN, e, e2, List.getElem?_set, calN_length]
    have hlt := List.idxOf_lt_length_of_mem (hm _ (List.getElem_mem hil))
    by_cases hki : k = i
    · subst hki
      rw [if_pos rfl, if_pos hlt, List.getElem?_eq_getElem (by omega)]
    · rw [if_neg fun e => ?_]
      · exact cal_hit hl hd hm i (by omega) k (by omega) hkl
      · have := idx_inj (hm _ (List.getElem_mem hil)) (hm _ (List.getElem_mem hkl)) e
        rcases Nat.lt_trichotomy i k with h | h | h
        · omega
        · omega
        · exact List.pairwise_iff_getElem.1 hd k i hkl hil h this.symm
theorem cal_miss {tr fm tt : List (List UInt8)} {p : Nat} : ∀ i, i ≤ fm.length → (∀ k (hkl : k < fm.length), tr.idxOf fm[k] ≠ p) → (calN tr fm tt i)[p]? = tr[p]?
  | 0, _, _ => rfl
  | i + 1, hi, h => by
    have hil : i < fm.length := by omega
    have e : fm.getD i [] = fm[i] := by simp [List.getD_eq_getElem?_getD, hil]
    rw [calN, e, List.getElem?_set, if_neg (h i hil)]
    exact cal_miss i (by omega) h

theorem ren_back {d : Den} {fm tt : List (List UInt8)} (h : renE d fm tt = 0) : renE (renR d fm tt) tt fm = 0 ∧ sameD (renR (renR d fm tt) tt fm) d = true := by
  obtain ⟨hr, hl, hnt, ha, htw, hse⟩ := renE_of_ok h
  obtain ⟨k2, k3, _, _⟩ := tracksS_parts (rightS_parts hr).1
  obtain ⟨z1, z2, z3⟩ := sort_zero hse
  have ha := allIn_iff.1 ha
  have hfd := tw_false htw
  have hstr := rises_strict k3
  have htd := strict_nodup hstr
  have hcd : (calS d.tracks fm tt).Nodup := (tog_len_iff _).1 z2
  have hcl : (calS d.tracks fm tt).length = d.tracks.length := calN_length ..
  have hhit : ∀ k (hk : k < fm.length), (calS d.tracks fm tt)[d.tracks.idxOf fm[k]]? = tt[k]? := fun k hk => cal_hit hl hfd ha fm.length (Nat.le_refl _) k hk hk
  have hmiss : ∀ p, (∀ k (hk : k < fm.length), d.tracks.idxOf fm[k] ≠ p) → (calS d.tracks fm tt)[p]? = d.tracks[p]? := fun p hp => cal_miss fm.length (Nat.le_refl _) hp
  have hrt : (renR d fm tt).tracks = sortR (calS d.tracks fm tt) := by rw [renR_ok h]; rfl
  have hRR : renR d fm tt = ovD d (sortR (calS d.tracks fm tt)) (placesOf (calS d.tracks fm tt) (sortR (calS d.tracks fm tt))) := by rw [renR_ok h, renD_ov]
  rw [z1] at hrt hRR
  generalize hcle : calS d.tracks fm tt = cl at *
  have hnm : ∀ s, s ∈ togS cl ↔ s ∈ cl := fun s => tog_mem cl s
  have hns := tog_strict cl
  have hnd := strict_nodup hns
  have hcn := nonN_iff.1 z3
  have hrr : rightS (renR d fm tt) = true := by
    rw [hRR]
    exact ovD_right hr (by omega) (strict_rises hns fun s hs => hcn s ((hnm s).1 hs)) (by simp [placesOf, hcl])
  -- what is written
  have htin : ∀ k (hk : k < tt.length), tt[k] ∈ togS cl := fun k hk => by
    have := hhit k (by omega)
    rw [List.getElem?_eq_getElem hk] at this
    exact (hnm _).2 (List.mem_of_getElem? this)
  have httd : tt.Nodup := List.pairwise_iff_getElem.2 fun i j hi hj hij e => by
    have h1 := hhit i (by omega)
    have h2 := hhit j (by omega)
    rw [List.getElem?_eq_getElem hi] at h1
    rw [List.getElem?_eq_getElem hj, ← e] at h2
    obtain ⟨p1, q1⟩ := List.getElem?_eq_some_iff.1 h1
    obtain ⟨p2, q2⟩ := List.getElem?_eq_some_iff.1 h2
    have hix : d.tracks.idxOf fm[i] = d.tracks.idxOf fm[j] := by
      have a1 := idx_get hcd p1
      have a2 := idx_get hcd p2
      rw [q1] at a1
      rw [q2] at a2
      rw [← a1, ← a2]
    have := idx_inj (ha _ (List.getElem_mem (by omega))) (ha _ (List.getElem_mem (by omega))) hix
    exact List.pairwise_iff_getElem.1 hfd i j (by omega) (by omega) hij this
  have htm : ∀ s ∈ tt, s ∈ togS cl := fun s hs => by
    obtain ⟨k, hk, rfl⟩ := List.getElem_of_mem hs
    exact htin k hk
  have hhit2 : ∀ k (hk : k < tt.length), (calS (togS cl) tt fm)[(togS cl).idxOf tt[k]]? = fm[k]? := fun k hk => cal_hit hl.symm httd htm tt.length (Nat.le_refl _) k hk hk
  have hmiss2 : ∀ p, (∀ k (hk : k < tt.length), (togS cl).idxOf tt[k] ≠ p) → (calS (togS cl) tt fm)[p]? = (togS cl)[p]? := fun p hp => cal_miss tt.length (Nat.le_refl _) hp
  have hcl2 : (calS (togS cl) tt fm).length = d.tracks.length := by rw [calS, calN_length, z2, hcl]
  -- back
  have hback : ∀ i (hi : i < cl.length), (calS (togS cl) tt fm)[(togS cl).idxOf cl[i]]? = some (d.tracks[i]'(by omega)) := by
    intro i hi
    have hi' : i < d.tracks.length := by omega
    by_cases hin : d.tracks[i] ∈ fm
    · obtain ⟨k, hk, he⟩ := List.getElem_of_mem hin
      have h1 := hhit k hk
      rw [he, idx_get htd hi', List.getElem?_eq_getElem hi, List.getElem?_eq_getElem (by omega)] at h1
      rw [Option.some.inj h1, hhit2 k (by omega), List.getElem?_eq_getElem hk, he]
    · have hne : ∀ k (hk : k < fm.length), d.tracks.idxOf fm[k] ≠ i := fun k hk e => by
        have := List.getElem_idxOf (List.idxOf_lt_length_of_mem (ha _ (List.getElem_mem hk)))
        simp only [e] at this
        exact hin (this ▸ List.getElem_mem hk)
      have h1 := hmiss i hne
      rw [List.getElem?_eq_getElem hi, List.getElem?_eq_getElem hi'] at h1
      have h1 := Option.some.inj h1
      have hmem : cl[i] ∈ togS cl := (hnm _).2 (List.getElem_mem hi)
      rw [hmiss2 _ fun k hk e => ?_]
      · rw [List.getElem?_eq_getElem (List.idxOf_lt_length_of_mem hmem), List.getElem_idxOf, h1]
      · have e2 := idx_inj (htin k hk) hmem e
        have h3 := hhit k (by omega)
        rw [List.getElem?_eq_getElem hk] at h3
        obtain ⟨p1, q1⟩ := List.getElem?_eq_some_iff.1 h3
        have a1 := idx_get hcd p1
        rw [q1, e2, idx_get hcd hi] at a1
        exact hne k (by omega) a1.symm
  have hmem2 : ∀ s, s ∈ calS (togS cl) tt fm ↔ s ∈ d.tracks := fun s => by
    constructor
    · intro hs
      obtain ⟨j, hj, rfl⟩ := List.getElem_of_mem hs
      have hjn : j < (togS cl).length := by omega
      obtain ⟨i, hi, he⟩ := List.getElem_of_mem ((hnm _).1 (List.getElem_mem hjn))
      have hb := hback i hi
      rw [he, idx_get hnd hjn, List.getElem?_eq_getElem hj] at hb
      rw [Option.some.inj hb]
      exact List.getElem_mem _
    · intro hs
      obtain ⟨i, hi, rfl⟩ := List.getElem_of_mem hs
      exact List.mem_of_getElem? (hback i (by omega))
  have htog : togS (calS (togS cl) tt fm) = d.tracks := strict_eq (tog_strict _) hstr fun x => by rw [tog_mem, hmem2]
  have hnon2 : nonN (calS (togS cl) tt fm) = false := nonN_iff.2 fun s hs => rises_names k3 s ((hmem2 s).1 hs)
  obtain ⟨y1, y2⟩ := sort_fine hnon2 (by rw [htog, hcl2])
  have hE : renE (renR d fm tt) tt fm = 0 := by
    rw [ren_sort hrr hl.symm (nonN_iff.2 fun s hs => rises_names k3 s (ha s hs)) (by rw [hrt]; exact allIn_iff.2 htm) (tw_nodup httd), hrt]
    exact y1
  refine ⟨hE, ?_⟩
  rw [renR_ok hE, renD_ov, hrt, y2, htog, hRR]
  refine ovD_same rfl rfl ?_
  rw [ovD_rows, List.map_map]
  refine Eq.trans (List.map_congr_left fun r _ => ?_) (rows_id hr)
  rw [Function.comp_apply, ovRow_comp _ _ _ _ _ (by simp [placesOf, hcl2, z2, hcl]) (fun b hb => ?_)]
  · congr 1
    refine List.ext_getElem (by simp [placesOf, hcl]) fun i q1 q2 => ?_
    have hi : i < cl.length := by simpa [placesOf] using q1
    have hb := hback i hi
    obtain ⟨p1, e1⟩ := List.getElem?_eq_some_iff.1 hb
    simp only [placesOf, List.getElem_map, List.getD_eq_getElem?_getD, List.getElem?_map, List.getElem?_eq_getElem p1, Option.map_some, Option.getD_some, List.getElem_range]
    rw [e1, idx_get htd (by omega)]
  · obtain ⟨s, hs, rfl⟩ := List.mem_map.1 hb
    exact List.idxOf_lt_length_of_mem ((hnm s).2 hs)

end Tab
