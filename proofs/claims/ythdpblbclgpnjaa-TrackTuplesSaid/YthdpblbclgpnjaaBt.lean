/- A tuple's word under new names: the plain law. -/
import Derived.Test.YthdpblbclgpnjaaRu
import Derived.Test.YthdpblbclgpnjaaBb
namespace Tab
open Go Go.Proofs
set_option maxRecDepth 10000
set_option linter.unusedVariables false
set_option linter.unusedSimpArgs false
set_option linter.unusedSectionVars false

/-- The old name of a track. -/
def nameOf (fm tt : List (List UInt8)) (s : List UInt8) : List UInt8 := if s ∈ tt then fm.getD (tt.idxOf s) [] else s

theorem ren_name_old {d : Den} {fm tt : List (List UInt8)} (h : renE d fm tt = 0) : ∀ j (hj : j < d.tracks.length), ∃ hc : j < (calS d.tracks fm tt).length, nameOf fm tt (calS d.tracks fm tt)[j] = d.tracks[j] := by
  obtain ⟨hr, hl, hnt, ha, htw, hse⟩ := renE_of_ok h
  obtain ⟨k2, k3, _, _⟩ := tracksS_parts (rightS_parts hr).1
  obtain ⟨z1, z2, z3⟩ := sort_zero hse
  have ha := allIn_iff.1 ha
  have hfd := tw_false htw
  have htd := strict_nodup (rises_strict k3)
  have hcd : (calS d.tracks fm tt).Nodup := (tog_len_iff _).1 z2
  have hcl : (calS d.tracks fm tt).length = d.tracks.length := calN_length ..
  have hhit : ∀ k (hk : k < fm.length), (calS d.tracks fm tt)[d.tracks.idxOf fm[k]]? = tt[k]? := fun k hk => cal_hit hl hfd ha fm.length (Nat.le_refl _) k hk hk
  have hmiss : ∀ p, (∀ k (hk : k < fm.length), d.tracks.idxOf fm[k] ≠ p) → (calS d.tracks fm tt)[p]? = d.tracks[p]? := fun p hp => cal_miss fm.length (Nat.le_refl _) hp
  generalize hcle : calS d.tracks fm tt = cl at *
  have httd : tt.Nodup := List.pairwise_iff_getElem.2 fun i j hi hj hij e => by
    have h1 := hhit i (by omega)
    have h2 := hhit j (by omega)
    rw [List.getElem?_eq_getElem hi] at h1
    rw [List.getElem?_eq_getElem hj, ← e] at h2
    obtain ⟨p1, q1⟩ := List.getElem?_eq_some_iff.1 h1
    obtain ⟨p2, q2⟩ := List.getElem?_eq_some_iff.1 h2
    have hix : d.tracks.idxOf fm[i] = d.tracks.idxOf fm[j] := by
      have a1 := idx_get hcd p1
      have a2 := idx_get hcd p2
      rw [q1] at a1
      rw [q2] at a2
      rw [← a1, ← a2]
    have := idx_inj (ha _ (List.getElem_mem (by omega))) (ha _ (List.getElem_mem (by omega))) hix
    exact List.pairwise_iff_getElem.1 hfd i j (by omega) (by omega) hij this
  intro j hj
  refine ⟨by omega, ?_⟩
  by_cases hin : d.tracks[j] ∈ fm
  · obtain ⟨k, hk, he⟩ := List.getElem_of_mem hin
    have h1 := hhit k hk
    rw [he, idx_get htd hj, List.getElem?_eq_getElem (show k < tt.length by omega)] at h1
    obtain ⟨p1, q1⟩ := List.getElem?_eq_some_iff.1 h1
    rw [q1, nameOf, if_pos (List.getElem_mem _), idx_get httd]
    simp [List.getD_eq_getElem?_getD, hk, he]
  · have hne : ∀ k (hk : k < fm.length), d.tracks.idxOf fm[k] ≠ j := fun k hk e => by
      have h2 := List.getElem_idxOf (List.idxOf_lt_length_of_mem (ha _ (List.getElem_mem hk)))
      simp only [e] at h2
      exact hin (h2 ▸ List.getElem_mem hk)
    have h1 := hmiss j hne
    rw [List.getElem?_eq_getElem hj] at h1
    obtain ⟨p1, q1⟩ := List.getElem?_eq_some_iff.1 h1
    rw [q1, nameOf, if_neg]
    intro hm
    obtain ⟨k, hk, he⟩ := List.getElem_of_mem hm
    have h3 := hhit k (by omega)
    rw [List.getElem?_eq_getElem hk, he] at h3
    obtain ⟨p3, q3⟩ := List.getElem?_eq_some_iff.1 h3
    have a1 := idx_get hcd p1
    have a2 := idx_get hcd p3
    rw [q1] at a1
    rw [q3] at a2
    exact hne k (by omega) (a2.symm.trans a1)

theorem bit_enc (i : Nat) : ∀ (l : List Int) (p : Nat) (h : p < l.length), encN l i / 2 ^ p % 2 = bitZ l[p] i
  | v :: l, 0, _ => by have := bitZ_le v i; simp only [encN, Nat.pow_zero, Nat.div_one, List.getElem_cons_zero]; omega
  | v :: l, p + 1, h => by
    have ih := bit_enc i l p (by simpa using h)
    have := bitZ_le v i
    simp only [encN, List.getElem_cons_succ]
    rw [Nat.pow_succ, Nat.mul_comm (2 ^ p) 2, ← Nat.div_div_eq_div_mul, show (bitZ v i + 2 * encN l i) / 2 = encN l i by omega]
    exact ih
theorem gat_enc (i : Nat) (l : List Int) : ∀ (P : List Nat), (∀ p ∈ P, p < l.length) → gatN (encN l i) P = encN (P.map fun p => l.getD p 0) i
  | [], _ => rfl
  | p :: P, h => by
    have hp := h p (by simp)
    rw [List.map_cons, gatN, encN, gat_enc i l P fun x hx => h x (by simp [hx]), bit_enc i l p hp]
    simp [List.getD_eq_getElem?_getD, hp]

theorem step_ren (rows : List (List Int)) (k : Nat) (P : List Nat) (q a : Nat) (ha : a < 2 ^ k) : stepN (rows.map (ovRow k P)) q a = stepN rows q (gatN a P) := by
  simp only [stepN, List.getD_eq_getElem?_getD, List.getElem?_map]
  cases rows[q]? with
  | none => simp
  | some r => simp [ovRow, ha]
theorem run_ren (rows : List (List Int)) (k : Nat) (P : List Nat) (f g : Nat → Nat) (hf : ∀ i, f i < 2 ^ k) (hg : ∀ i, gatN (f i) P = g i) : ∀ (is : List Nat) (q : Nat), runN (rows.map (ovRow k P)) q (is.map f) = runN rows q (is.map g)
  | [], _ => rfl
  | i :: is, q => by
    show runN _ (stepN _ q (f i)) (is.map f) = runN _ (stepN _ q (g i)) (is.map g)
    rw [step_ren rows k P q (f i) (hf i), hg i]
    exact run_ren rows k P f g hf hg is _

theorem long_iff (m : Nat) : ∀ (l : List Int) (n : Nat), longS n l ≤ m ↔ n ≤ m ∧ ∀ v ∈ l, lengthS v ≤ m
  | [], n => by simp [longS]
  | v :: l, n => by
    rw [longS, long_iff m l]
    constructor
    · rintro ⟨h1, h2⟩
      refine ⟨?_, fun x hx => ?_⟩
      · split at h1 <;> omega
      · rcases List.mem_cons.1 hx with rfl | hx
        · split at h1 <;> omega
        · exact h2 x hx
    · rintro ⟨h1, h2⟩
      have := h2 v (by simp)
      exact ⟨by split <;> omega, fun x hx => h2 x (by simp [hx])⟩
theorem long_mem {a b : List Int} (h : ∀ v, v ∈ a ↔ v ∈ b) : longS 1 a = longS 1 b := by
  have h1 := (long_iff (longS 1 b) a 1).2
  have h2 := (long_iff (longS 1 a) b 1).2
  have h3 := (long_iff (longS 1 b) b 1).1 (Nat.le_refl _)
  have h4 := (long_iff (longS 1 a) a 1).1 (Nat.le_refl _)
  exact Nat.le_antisymm (h1 ⟨h3.1, fun v hv => h3.2 v ((h v).1 hv)⟩) (h2 ⟨h4.1, fun v hv => h4.2 v ((h v).2 hv)⟩)

def oldS (k : Nat) (vals : List Int) : List Int := (List.range k).map fun t => vals.getD t 0
def nowS (tr fm tt : List (List UInt8)) (old : List Int) (ws : List (List UInt8)) : List Int := ws.map fun s => old.getD (tr.idxOf (nameOf fm tt s)) 0
def wordN (l : List Int) : List Nat := (List.range (longS 1 l)).map (encN l)

theorem ren_tuple {d : Den} {fm tt : List (List UInt8)} (h : renE d fm tt = 0) (vals : List Int) : rightS (renR d fm tt) = true ∧ (renR d fm tt).tracks.length = d.tracks.length ∧ (∀ s ∈ (renR d fm tt).tracks, nameOf fm tt s ∈ d.tracks) ∧
    takesB (renR d fm tt) (wordN (nowS d.tracks fm tt (oldS d.tracks.length vals) (renR d fm tt).tracks)) = takesB d (wordN (oldS d.tracks.length vals)) := by
  have hcore := ren_name_old h
  obtain ⟨hr, hl, hnt, ha, htw, hse⟩ := renE_of_ok h
  obtain ⟨k2, k3, _, _⟩ := tracksS_parts (rightS_parts hr).1
  obtain ⟨z1, z2, z3⟩ := sort_zero hse
  have htd := strict_nodup (rises_strict k3)
  have hcd : (calS d.tracks fm tt).Nodup := (tog_len_iff _).1 z2
  have hcl : (calS d.tracks fm tt).length = d.tracks.length := calN_length ..
  have hrt : (renR d fm tt).tracks = sortR (calS d.tracks fm tt) := by rw [renR_ok h]; rfl
  have hRR : renR d fm tt = ovD d (sortR (calS d.tracks fm tt)) (placesOf (calS d.tracks fm tt) (sortR (calS d.tracks fm tt))) := by rw [renR_ok h, renD_ov]
  rw [z1] at hrt hRR
  generalize hcle : calS d.tracks fm tt = cl at *
  have hnm : ∀ s, s ∈ togS cl ↔ s ∈ cl := fun s => tog_mem cl s
  have hns := tog_strict cl
  have hcn := nonN_iff.1 z3
  have hmem : ∀ s ∈ togS cl, nameOf fm tt s ∈ d.tracks := fun s hs => by
    obtain ⟨j, hj, rfl⟩ := List.getElem_of_mem ((hnm s).1 hs)
    obtain ⟨_, e⟩ := hcore j (by omega)
    rw [e]; exact List.getElem_mem _
  refine ⟨?_, by rw [hrt]; omega, by rw [hrt]; exact hmem, ?_⟩
  · rw [hRR]
    exact ovD_right hr (by omega) (strict_rises hns fun s hs => hcn s ((hnm s).1 hs)) (by simp [placesOf, hcl])
  rw [hrt]
  have holdl : (oldS d.tracks.length vals).length = d.tracks.length := by simp [oldS]
  generalize oldS d.tracks.length vals = old at *
  have hnowl : (nowS d.tracks fm tt old (togS cl)).length = d.tracks.length := by simp [nowS]; omega
  have hback : (placesOf cl (togS cl)).map (fun p => (nowS d.tracks fm tt old (togS cl)).getD p 0) = old := by
    refine List.ext_getElem (by simp [placesOf]; omega) fun j q1 q2 => ?_
    have hj : j < cl.length := by simpa [placesOf] using q1
    have hm := List.idxOf_lt_length_of_mem ((hnm _).2 (List.getElem_mem hj))
    obtain ⟨_, e⟩ := hcore j (by omega)
    simp only [placesOf, List.getElem_map, nowS, List.getD_eq_getElem?_getD, List.getElem?_map, List.getElem?_eq_getElem hm, Option.map_some, Option.getD_some]
    rw [List.getElem_idxOf hm, e, idx_get htd, List.getElem?_eq_getElem (by omega)]
    rfl
  have hset : ∀ v, v ∈ nowS d.tracks fm tt old (togS cl) ↔ v ∈ old := fun v => by
    constructor
    · intro hv
      obtain ⟨s, hs, rfl⟩ := List.mem_map.1 hv
      have := List.idxOf_lt_length_of_mem (hmem s hs)
      rw [List.getD_eq_getElem?_getD, List.getElem?_eq_getElem (by omega)]
      exact List.getElem_mem _
    · intro hv
      rw [← hback] at hv
      obtain ⟨p, hp, rfl⟩ := List.mem_map.1 hv
      obtain ⟨s, hs, rfl⟩ := List.mem_map.1 hp
      have hm := List.idxOf_lt_length_of_mem ((hnm s).2 hs)
      rw [List.getD_eq_getElem?_getD, List.getElem?_eq_getElem (by rw [hnowl]; omega)]
      exact List.getElem_mem _
  have hlong := long_mem hset
  have hP : ∀ p ∈ placesOf cl (togS cl), p < (nowS d.tracks fm tt old (togS cl)).length := fun p hp => by
    obtain ⟨s, hs, rfl⟩ := List.mem_map.1 hp
    have hm := List.idxOf_lt_length_of_mem ((hnm s).2 hs)
    omega
  have hgat : ∀ i, gatN (encN (nowS d.tracks fm tt old (togS cl)) i) (placesOf cl (togS cl)) = encN old i := fun i => by
    rw [gat_enc i _ _ hP, hback]
  have hlt : ∀ i, encN (nowS d.tracks fm tt old (togS cl)) i < 2 ^ (togS cl).length := fun i => by
    have := encN_lt i (nowS d.tracks fm tt old (togS cl))
    rw [hnowl] at this
    rw [z2, hcl]; exact this
  rw [takesB, takesB, wordN, wordN, hlong, hRR, ovD_rows, run_ren _ _ _ _ _ hlt hgat]
  rfl

end Tab
