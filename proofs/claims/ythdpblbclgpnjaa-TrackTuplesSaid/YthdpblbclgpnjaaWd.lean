/- A machine over more tracks. -/
import Derived.Test.YthdpblbclgpnjaaOv
namespace Tab
open Go Go.Proofs
set_option maxRecDepth 10000
set_option linter.unusedVariables false
set_option linter.unusedSimpArgs false
set_option linter.unusedSectionVars false

def den0 : Den := ⟨.nil, [], .nil, [], .nil, []⟩
def inAll (ts names : List (List UInt8)) : Bool := ts.all fun s => decide (s ∈ names)
def placesOf (ts names : List (List UInt8)) : List Nat := ts.map (names.idxOf ·)
@[irreducible] def widenE (d : Den) (names : List (List UInt8)) : Int := if (rightS d && risesS names) = true then (if names.length ≤ 6 then (if inAll d.tracks names = true then 0 else 4) else 150) else 3
theorem widenE_shape {d names} (h : rightS d = false ∨ risesS names = false) : widenE d names = 3 := by
  rw [widenE, if_neg]; rcases h with h | h <;> simp [h]
theorem widenE_wide {d names} (h1 : rightS d = true) (h2 : risesS names = true) (h : ¬ names.length ≤ 6) : widenE d names = 150 := by
  rw [widenE, h1, h2, if_neg h]; rfl
theorem widenE_none {d names} (h1 : rightS d = true) (h2 : risesS names = true) (h : names.length ≤ 6) (h3 : inAll d.tracks names = false) : widenE d names = 4 := by
  rw [widenE, h1, h2, if_pos h, h3]; rfl
theorem widenE_ok {d names} (h1 : rightS d = true) (h2 : risesS names = true) (h : names.length ≤ 6) (h3 : inAll d.tracks names = true) : widenE d names = 0 := by
  rw [widenE, h1, h2, if_pos h, h3]; rfl

theorem widenE_of_ok {d names} (h : widenE d names = 0) : rightS d = true ∧ risesS names = true ∧ names.length ≤ 6 ∧ inAll d.tracks names = true := by
  cases h1 : rightS d with
  | false => rw [widenE_shape (.inl h1)] at h; omega
  | true =>
    cases h2 : risesS names with
    | false => rw [widenE_shape (.inr h2)] at h; omega
    | true =>
      by_cases h3 : names.length ≤ 6
      · cases h4 : inAll d.tracks names with
        | false => rw [widenE_none h1 h2 h3 h4] at h; omega
        | true => exact ⟨rfl, rfl, h3, rfl⟩
      · rw [widenE_wide h1 h2 h3] at h; omega

theorem rightS_parts {d : Den} (h : rightS d = true) : tracksS d.tracks d.accept.length = true ∧ d.next.length = d.accept.length ∧ ∀ r ∈ d.next, rowOk d.tracks.length d.accept.length r.2 = true := by
  simp only [rightS, Bool.and_eq_true, decide_eq_true_eq, List.all_eq_true] at h
  exact ⟨h.1.1, h.1.2, h.2⟩
theorem rowOk_parts {k n : Nat} {r : List Int} (h : rowOk k n r = true) : r.length = 2 ^ k ∧ ∀ x ∈ r, 0 ≤ x ∧ x < n := by
  simp only [rowOk, Bool.and_eq_true, decide_eq_true_eq, List.all_eq_true] at h
  exact h

def wdHeap (d : Den) (names : List (List UInt8)) (b0 b1 b2 b3 b4 b7 : Blk) : List Blk :=
  [b0, b1, b2, b3, b4, .cells 0 (names.map .str), .cells 0 (d.accept.map .bool), b7, .cells d.next.length ((List.range d.next.length).map fun j => .hs (9 + j) 0 0 (2 ^ names.length) 1)] ++ ovBlks (d.rows.map (ovRow names.length (placesOf d.tracks names)))
def wdRes (d : Den) (names : List (List UInt8)) : AV := .agg [.hs 5 0 0 names.length 1, .hs 6 0 0 d.accept.length 1, .hs 8 d.next.length 0 d.next.length 1]

theorem ovBlks_sh (k : Nat) (rs : List (List Int)) : (ovBlks rs).map (Blk.sh k) = ovBlks rs := by
  rw [ovBlks, List.map_map]
  refine List.map_congr_left fun r _ => ?_
  simp only [Function.comp, Blk.sh]
  rw [closeds_sh]
  exact closeds_iff.2 fun a ha => by obtain ⟨x, _, rfl⟩ := List.mem_map.1 ha; simp only [AV.closed]
theorem ovHs_sh (k n i : Nat) : shs k (ovHs n i) = (List.range i).map fun j => .hs (6 + j + k) 0 0 n 1 := by
  rw [shs_map, ovHs, List.map_map]
  rfl
theorem strs_sh (k : Nat) (l : List (List UInt8)) : shs k (l.map .str) = l.map .str := closeds_sh _ (closeds_iff.2 fun a ha => by obtain ⟨x, _, rfl⟩ := List.mem_map.1 ha; simp only [AV.closed])
theorem bools_sh (k : Nat) (l : List Bool) : shs k (l.map .bool) = l.map .bool := closeds_sh _ (closeds_iff.2 fun a ha => by obtain ⟨x, _, rfl⟩ := List.mem_map.1 ha; simp only [AV.closed])

theorem track_Widen (kn : SK) (d : Den) (names : List (List UInt8)) (hd : DenOk d) (hn : names.length * 16 ≤ 140737488351232) (hns : ∀ s ∈ names, s.length ≤ 140737488351232) :
    ACall Try.prog 9 [aDen d, aSs kn names] [] fun o H' => (widenE d names ≠ 0 ∧ o = .ret (.tup [aDen den0, .int .i64 (widenE d names)])) ∨
      (widenE d names = 0 ∧ o = .ret (.tup [wdRes d names, .int .i64 0]) ∧ ∃ b0 b1 b2 b3 b4 b7, H' = wdHeap d names b0 b1 b2 b3 b4 b7) := by
  have h1 := hd.tracks
  have h2 := hd.accept
  have h3 := hd.next
  refine ACall.of_sw 47 Try.func9 rfl Try.ntmps9 (by kernel_rfl) (Nat.le_of_ble_eq_true (by kernel_rfl)) ?_; refine SW.of_vc ?_
  repeat first | refine opsStep ?_ | refine codeStep ?_ | refine drawStep ?_
  refine callP (table_Right d hd) ?_
  repeat first | refine opsStep ?_ | refine codeStep ?_ | refine drawStep ?_
  refine decB_dec (fun hr => ?_) (fun hr => ?_)
  · have hr' : rightS d = false := by cases h : rightS d with | true => exact absurd (rightE_ok h) hr | false => rfl
    repeat first | refine opsStep ?_ | refine codeStep ?_ | refine drawStep ?_
    refine finR (l := [(4, .ref 1 0 0), (5, .int .i64 3)]) (H₁ := [.cells 0 d.cells, .cells 0 den0.cells]) (v := .tup [aDen den0, .int .i64 3]) ⟨(by kernel_rfl), (by kernel_rfl), trivial⟩ (by kernel_rfl) (Ent.refl _ _ _) (by kernel_rfl) ?_
    refine .inl ?_
    rw [widenE_shape (.inl hr')]
    exact ⟨by decide, rfl⟩
  · have hr' : rightS d = true := by cases h : rightS d with | true => rfl | false => exact absurd (fun e => by rw [rightE_bad h] at e; omega) hr
    repeat first | refine opsStep ?_ | refine codeStep ?_ | refine drawStep ?_
    refine callP (glyph_Rises kn names (by omega) (fun s hs => by have := hns s hs; omega)) ?_
    repeat first | refine opsStep ?_ | refine codeStep ?_ | refine drawStep ?_
    refine decB_split (fun h => ?_) (fun h => ?_)
    · repeat first | refine opsStep ?_ | refine codeStep ?_ | refine drawStep ?_
      refine finR (l := [(4, .ref 1 0 0), (5, .int .i64 3)]) (H₁ := [.cells 0 d.cells, .cells 0 den0.cells]) (v := .tup [aDen den0, .int .i64 3]) ⟨(by kernel_rfl), (by kernel_rfl), trivial⟩ (by kernel_rfl) (Ent.refl _ _ _) (by kernel_rfl) ?_
      refine .inl ?_
      rw [widenE_shape (.inr (by simpa using h))]
      exact ⟨by decide, rfl⟩
    · have hs' : risesS names = true := by simpa using h
      repeat first | refine opsStep ?_ | refine codeStep ?_ | refine drawStep ?_
      refine decB_dec (fun hl => ?_) (fun hl => ?_)
      · repeat first | refine opsStep ?_ | refine codeStep ?_ | refine drawStep ?_
        refine finR (l := [(4, .ref 1 0 0), (5, .int .i64 150)]) (H₁ := [.cells 0 d.cells, .cells 0 den0.cells]) (v := .tup [aDen den0, .int .i64 150]) ⟨(by kernel_rfl), (by kernel_rfl), trivial⟩ (by kernel_rfl) (Ent.refl _ _ _) (by kernel_rfl) ?_
        refine .inl ?_
        rw [widenE_wide hr' hs' (by omega)]
        exact ⟨by decide, rfl⟩
      · have hl' : names.length ≤ 6 := by omega
        obtain ⟨ht, hnn, hrows⟩ := rightS_parts hr'
        have hk := tracksS_le ht
        repeat first | refine opsStep ?_ | refine codeStep ?_ | refine drawStep ?_
        refine loopE_of (ι := {i : Nat // i ≤ d.tracks.length ∧ inAll (d.tracks.take i) names = true})
          (fun i => (fr [(1, aSs kn names), (2, .ref 0 0 0), (4, .ref 1 0 0), (6, .hs 2 i.1 0 i.1 1), (26, aSs d.tk d.tracks), (27, .int .i64 d.tracks.length), (28, .int .i64 i.1)],
            [.cells 0 d.cells, .cells 0 den0.cells, .cells i.1 (((d.tracks.take i.1).map fun s => ((names.idxOf s : Nat) : Int)).map (.int .i64))]))
          (fun i => d.tracks.length - i.1) ⟨0, by omega, by simp [inAll]⟩ ?_ ?_
        · exact ((Ent.fr' (l := [(1, aSs kn names), (2, .ref 0 0 0), (4, .ref 1 0 0), (6, .sl .nil 0 []), (26, aSs d.tk d.tracks), (27, .int .i64 d.tracks.length), (28, .int .i64 (0 : Nat))])
            (H' := [.cells 0 d.cells, .cells 0 den0.cells]) ⟨(by kernel_rfl), (by kernel_rfl), (by kernel_rfl), (by kernel_rfl), (by kernel_rfl), (by kernel_rfl), (by kernel_rfl), trivial⟩ (by kernel_rfl)).trans (Ent.nil 6 1 rfl)).trans (Ent.fr' ⟨(by kernel_rfl), (by kernel_rfl), (by kernel_rfl), (by kernel_rfl), (by kernel_rfl), (by kernel_rfl), (by kernel_rfl), trivial⟩ (by kernel_rfl))
        rintro ⟨i, hi, hpre⟩
        repeat first | refine opsStep ?_ | refine codeStep ?_ | refine drawStep ?_
        refine decB_dec (fun h => ?_) (fun h => ?_)
        · have hia : i < d.tracks.length := by have := h; simp at this; omega
          repeat first | refine opsStep ?_ | refine codeStep ?_ | refine drawStep ?_
          refine guardE_of (by simp; omega) ?_
          repeat first | refine opsStep ?_ | refine codeStep ?_ | refine drawStep ?_
          refine optE_of (c := .str d.tracks[i]) (by simp [Value.cells, hia]) ?_
          repeat first | refine opsStep ?_ | refine codeStep ?_ | refine drawStep ?_
          refine callP (glyph_Index kn names d.tracks[i] (by omega)) ?_
          repeat first | refine opsStep ?_ | refine codeStep ?_ | refine drawStep ?_
          refine decB_dec (fun hx => ?_) (fun hx => ?_)
          · repeat first | refine opsStep ?_ | refine codeStep ?_ | refine drawStep ?_
            refine finR (l := [(4, .ref 1 0 0), (5, .int .i64 4)]) (H₁ := [.cells 0 d.cells, .cells 0 den0.cells, .cells i (((d.tracks.take i).map fun s => ((names.idxOf s : Nat) : Int)).map (.int .i64))]) (v := .tup [aDen den0, .int .i64 4]) ⟨(by kernel_rfl), (by kernel_rfl), trivial⟩ (by kernel_rfl) (Ent.refl _ _ _) (by kernel_rfl) ?_
            refine .inl ?_
            rw [widenE_none hr' hs' hl' (by
              rw [← Bool.not_eq_true, inAll, List.all_eq_true]
              intro k
              have := k _ (List.getElem_mem hia)
              have hm : d.tracks[i] ∈ names := by simpa using this
              rw [idxS, if_pos (List.idxOf_lt_length_of_mem hm)] at hx
              omega)]
            exact ⟨by decide, rfl⟩
          · have hm : d.tracks[i] ∈ names := by
              rw [idxS] at hx
              split at hx
              · rename_i e; exact List.idxOf_lt_length_iff.1 e
              · omega
            have hix : idxS names d.tracks[i] = (names.idxOf d.tracks[i] : Nat) := by rw [idxS, if_pos (List.idxOf_lt_length_of_mem hm)]
            repeat first | refine opsStep ?_ | refine codeStep ?_ | refine drawStep ?_
            refine guardE_of ⟨rfl, by simp; omega⟩ ?_
            refine guardE_of rfl ?_
            refine guardE_of ⟨by omega, by show (i + 1) * 8 ≤ 140737488355328; omega⟩ ?_
            repeat first | refine opsStep ?_ | refine codeStep ?_ | refine drawStep ?_
            refine ⟨⟨i + 1, by omega, ?_⟩, (by show d.tracks.length - (i + 1) < d.tracks.length - i; omega), Ent.to (Ent.frD (X := [.cells 0 [.int .i64 (idxS names d.tracks[i])]])
              (H' := [.cells 0 d.cells, .cells 0 den0.cells, .cells (i + 1) (((((d.tracks.take i).map fun s => ((names.idxOf s : Nat) : Int)).map (AV.int .i64)).drop 0).take (i * 1) ++ [.int .i64 (idxS names d.tracks[i])])])
              ⟨(by kernel_rfl), (by kernel_rfl), (by kernel_rfl), (by kernel_rfl), (by kernel_rfl), (by kernel_rfl), inc_slot (i := i) (by omega), trivial⟩ (by kernel_rfl) (Nat.zero_le _) (by first | (simp [frBel, blksBel, Blk.bel, AV.bel, bels, bels_append, bels_map, aSs_bel, aIs_bel, aBs_bel, aRs_bel, aDen_bel, cells_bel]; done) | (simp only [List.drop_zero, ← List.map_take, ← List.map_drop, List.map_map, frBel, blksBel, Blk.bel, AV.bel, bels, bels_append, bels_map, aSs_bel, aIs_bel, aBs_bel, aRs_bel, aDen_bel, cells_bel]; simp [AV.bel, aSs_bel, aIs_bel, aBs_bel, aRs_bel, aDen_bel, cells_bel])) ?_) ?_⟩
            · rw [inAll, List.take_succ_eq_append_getElem hia, List.all_append, ← inAll, hpre]
              simp [hm]
            · exact ⟨cells_bel _ _, cells_bel _ _, (bels_append.2 ⟨bels_td (bels_map.2 fun _ _ => trivial), trivial, trivial⟩), trivial⟩
            · show _ = [Blk.cells 0 d.cells, .cells 0 den0.cells, .cells (i + 1) (((d.tracks.take (i + 1)).map fun s => ((names.idxOf s : Nat) : Int)).map (.int .i64))]
              rw [td_all (by simp; omega), hix, List.take_succ_eq_append_getElem hia, List.map_append, List.map_append]
              rfl
        · have : i = d.tracks.length := by have := h; simp at this; omega
          subst this
          rw [List.take_length] at hpre
          obtain ⟨pl, hpl⟩ : ∃ pl, placesOf d.tracks names = pl := ⟨_, rfl⟩
          have hplm : ((d.tracks.take d.tracks.length).map fun s => ((names.idxOf s : Nat) : Int)) = pl.map fun p : Nat => (p : Int) := by rw [← hpl, List.take_length]; simp [placesOf]
          have hpll : pl.length = d.tracks.length := by rw [← hpl]; simp [placesOf]
          refine VCode.ent (s' := fr [(1, aSs kn names), (2, .ref 0 0 0), (4, .ref 1 0 0), (6, aIs .any (pl.map fun p : Nat => (p : Int)))]) (H' := [.cells 0 d.cells, .cells 0 den0.cells, .fro d.tracks.length ((pl.map fun p : Nat => (p : Int)).map (.int .i64))]) ?_ ?_
          · refine (Ent.fr' (l := [(1, aSs kn names), (2, .ref 0 0 0), (4, .ref 1 0 0), (6, .hs 2 d.tracks.length 0 d.tracks.length 1)]) (H' := [.cells 0 d.cells, .cells 0 den0.cells, .cells d.tracks.length ((pl.map fun p : Nat => (p : Int)).map (.int .i64))]) ⟨(by kernel_rfl), (by kernel_rfl), (by kernel_rfl), (by kernel_rfl), trivial⟩ (by rw [← hplm]; kernel_rfl)).trans ?_
            refine (Ent.freeze (n := d.tracks.length) (g := d.tracks.length) (es := 1) (cs := (pl.map fun p : Nat => (p : Int)).map (.int .i64)) 6 (b := 2) rfl rfl (by simp [hpll])).trans (Ent.fr' (l := [(1, aSs kn names), (2, .ref 0 0 0), (4, .ref 1 0 0), (6, aIs .any (pl.map fun p : Nat => (p : Int)))]) ⟨(by kernel_rfl), (by kernel_rfl), (by kernel_rfl), Eq.trans (b := .sl .any d.tracks.length ((pl.map fun p : Nat => (p : Int)).map (.int .i64))) (by kernel_rfl) (by simp [aIs, hpll]), trivial⟩ (by kernel_rfl))
          repeat first | refine opsStep ?_ | refine codeStep ?_ | refine drawStep ?_
          refine callS (show closeds [aDen d, aSs kn names, aIs .any (pl.map fun p : Nat => (p : Int))] from by simp [closeds, aDen_closed, aSs_closed, aIs_closed]) (track_over kn .any d names pl (2 ^ names.length) rfl hd hl' (by omega) (fun p hp => ?_) (fun r hr => by rw [hpll]; exact (rowOk_parts (hrows r hr)).1)) (fun X h => by simp at h) ?_
          · rw [← hpl] at hp
            obtain ⟨s, hs, rfl⟩ := List.mem_map.1 hp
            have : s ∈ names := by have := List.all_eq_true.1 hpre s hs; simpa using this
            have := List.idxOf_lt_length_of_mem this
            omega
          rintro v X ⟨hv, x, hX⟩
          have hv := Out.ret.inj hv
          subst hv
          subst hX
          repeat first | refine opsStep ?_ | refine codeStep ?_ | refine drawStep ?_
          refine finR (l := [(4, .ref 1 0 0), (5, .int .i64 0)]) (H₁ := [.cells 0 d.cells, .cells 0 [.hs 5 0 0 names.length 1, .hs 6 0 0 d.accept.length 1, .hs 8 d.next.length 0 d.next.length 1], .fro d.tracks.length ((pl.map fun p : Nat => (p : Int)).map (.int .i64))] ++
            ([.cells 0 d.cells, x, .cells 0 (names.map .str), .cells 0 (d.accept.map .bool), .cells 0 [.hs 2 0 0 names.length 1, .hs 3 0 0 d.accept.length 1, .hs 5 d.next.length 0 d.next.length 1], .cells d.next.length (ovHs (2 ^ names.length) d.next.length)]
        ++ ovBlks (d.rows.map (ovRow names.length pl))).map (Blk.sh 3)) (v := .tup [wdRes d names, .int .i64 0]) ⟨(by kernel_rfl), (by kernel_rfl), trivial⟩ (by kernel_rfl) (Ent.refl _ _ _) (by kernel_rfl) ?_
          refine .inr ⟨widenE_ok hr' hs' hl' hpre, rfl, .cells 0 d.cells, .cells 0 [.hs 5 0 0 names.length 1, .hs 6 0 0 d.accept.length 1, .hs 8 d.next.length 0 d.next.length 1], .fro d.tracks.length ((pl.map fun p : Nat => (p : Int)).map (.int .i64)), .cells 0 (shs 3 d.cells), x.sh 3, .cells 0 [.hs 5 0 0 names.length 1, .hs 6 0 0 d.accept.length 1, .hs 8 d.next.length 0 d.next.length 1], ?_⟩
          rw [wdHeap, hpl, List.map_append, ovBlks_sh]
          simp only [List.map_cons, List.map_nil, Blk.sh, strs_sh, bools_sh, ovHs_sh]
          simp only [show ∀ j, 6 + j + 3 = 9 + j from fun j => by omega]
          rfl

end Tab
