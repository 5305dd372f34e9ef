/- Rename, of the code. -/
import Derived.Test.YthdpblbclgpnjaaRn
namespace Tab
open Go Go.Proofs
set_option maxRecDepth 10000
set_option linter.unusedVariables false
set_option linter.unusedSimpArgs false
set_option linter.unusedSectionVars false

theorem calS_mem {tr fm tt : List (List UInt8)} (n : Nat) (hn : ∀ s ∈ tr, s.length ≤ 140737488351232) (ht : ∀ s ∈ tt, s.length ≤ 140737488351232) : ∀ i, ∀ s ∈ calN tr fm tt i, s.length ≤ 140737488351232
  | 0 => hn
  | i + 1 => fun s hs => by
    rw [calN] at hs
    rcases List.mem_or_eq_of_mem_set hs with h | h
    · exact calS_mem n hn ht i s h
    · subst h
      cases e : tt[i]? with
      | none => simp [List.getD_eq_getElem?_getD, e]
      | some x => simp only [List.getD_eq_getElem?_getD, e, Option.getD_some]; exact ht x (List.mem_of_getElem? e)

theorem track_Rename (k kf kt : SK) (d : Den) (fm tt : List (List UInt8)) (hd : DenOk d) (hf : fm.length * 16 ≤ 140737488351232) (ht : tt.length * 16 ≤ 140737488351232) (hts : ∀ s ∈ tt, s.length ≤ 140737488351232) :
    Pure Try.prog 7 [aDen d, aSs kf fm, aSs kt tt] (.tup [aDen (renR d fm tt), .int .i64 (renE d fm tt)]) := by
  have h1 := hd.tracks
  have h2 := hd.accept
  have h3 := hd.next
  refine Pure.of_sw 88 Try.func7 rfl Try.ntmps7 (by kernel_rfl) (Nat.le_of_ble_eq_true (by kernel_rfl)) (by simp [closeds, AV.closed, aSs_closed, aIs_closed, aBs_closed, aRs_closed, aDen_closed]) (by simp [AV.closed, closeds, aSs_closed, aIs_closed, aBs_closed, aRs_closed, aDen_closed]) ?_; refine SW.of_vc ?_
  repeat first | refine opsStep ?_ | refine codeStep ?_ | refine drawStep ?_
  refine callP (table_Right d hd) ?_
  repeat first | refine opsStep ?_ | refine codeStep ?_ | refine drawStep ?_
  refine decB_dec (fun hr => ?_) (fun hr => ?_)
  · have hr' : rightS d = false := by cases h : rightS d with | true => exact absurd (rightE_ok h) hr | false => rfl
    repeat first | refine opsStep ?_ | refine codeStep ?_ | refine drawStep ?_
    exact finV (v' := .tup [aDen den0, .int .i64 3]) (by kernel_rfl) (by rw [renR_bad (by rw [ren_shape (.inl hr')]; decide), ren_shape (.inl hr')])
  · have hr' : rightS d = true := by cases h : rightS d with | true => rfl | false => exact absurd (fun e => by rw [rightE_bad h] at e; omega) hr
    obtain ⟨htr, hnn, hrows⟩ := rightS_parts hr'
    have hk := tracksS_le htr
    repeat first | refine opsStep ?_ | refine codeStep ?_ | refine drawStep ?_
    refine decB_dec (fun hlen => ?_) (fun hlen => ?_)
    · have hl : fm.length ≠ tt.length := fun e => hlen (by rw [e])
      repeat first | refine opsStep ?_ | refine codeStep ?_ | refine drawStep ?_
      exact finV (v' := .tup [aDen den0, .int .i64 3]) (by kernel_rfl) (by rw [renR_bad (by rw [ren_shape (.inr hl)]; decide), ren_shape (.inr hl)])
    · have hl : fm.length = tt.length := by have := Decidable.of_not_not hlen; omega
      repeat first | refine opsStep ?_ | refine codeStep ?_ | refine drawStep ?_
      refine ⟨_, contFunc kt tt _ [] _ (fun s => !nameS s) (by omega) (fun s hm => (rename1 s (by have := hts s hm; omega)).acall _), ?_⟩
      rintro o H' ⟨rfl, rfl⟩
      repeat first | refine opsStep ?_ | refine codeStep ?_ | refine drawStep ?_
      refine decB_split (fun h => ?_) (fun h => ?_)
      · have hn : nonN tt = true := h
        repeat first | refine opsStep ?_ | refine codeStep ?_ | refine drawStep ?_
        exact finV (v' := .tup [aDen den0, .int .i64 6]) (by kernel_rfl) (by rw [renR_bad (by rw [ren_name hr' hl hn]; decide), ren_name hr' hl hn])
      · have hn : nonN tt = false := h
        repeat first | refine opsStep ?_ | refine codeStep ?_ | refine drawStep ?_
        refine ⟨_, contFunc kf fm _ [.ref 0 0 0] [.cells 0 d.cells, .cells 0 den0.cells] (fun s => decide (s ∉ d.tracks)) (by omega) (fun s hm => rename2 d s _ (by omega)), ?_⟩
        rintro o H' ⟨rfl, rfl⟩
        repeat first | refine opsStep ?_ | refine codeStep ?_ | refine drawStep ?_
        refine decB_split (fun h => ?_) (fun h => ?_)
        · have ha : allIn fm d.tracks = false := by
            obtain ⟨s, hs, hs2⟩ := List.any_eq_true.1 h
            rw [← Bool.not_eq_true, allIn, List.all_eq_true]
            intro k
            have := k s hs
            simp at this hs2
            exact hs2 this
          repeat first | refine opsStep ?_ | refine codeStep ?_ | refine drawStep ?_
          exact finV (v' := .tup [aDen den0, .int .i64 4]) (by kernel_rfl) (by rw [renR_bad (by rw [ren_none hr' hl hn ha]; decide), ren_none hr' hl hn ha])
        · have ha : allIn fm d.tracks = true := by
            have := List.any_eq_false.1 h
            rw [allIn, List.all_eq_true]
            intro s hs
            have := this s hs
            simpa using this
          repeat first | refine opsStep ?_ | refine codeStep ?_ | refine drawStep ?_
          refine callP (track_twice kf fm (by omega)) ?_
          repeat first | refine opsStep ?_ | refine codeStep ?_ | refine drawStep ?_
          refine decB_split (fun h => ?_) (fun h => ?_)
          · repeat first | refine opsStep ?_ | refine codeStep ?_ | refine drawStep ?_
            exact finV (v' := .tup [aDen den0, .int .i64 5]) (by kernel_rfl) (by rw [renR_bad (by rw [ren_twice hr' hl hn ha h]; decide), ren_twice hr' hl hn ha h])
          · have htw : twS fm = false := h
            repeat first | refine opsStep ?_ | refine codeStep ?_ | refine drawStep ?_
            refine callN (slices_Clone_S_new d.tk d.tracks (by omega)) ?_
            repeat first | refine opsStep ?_ | refine codeStep ?_ | refine drawStep ?_
            refine loopE_of (ι := {i : Nat // i ≤ fm.length}) (fun i => (fr [(2, aSs kt tt), (3, .ref 0 0 0), (6, .ref 1 0 0), (8, .hs 2 0 0 d.tracks.length 1), (44, aSs kf fm), (45, .int .i64 fm.length), (46, .int .i64 i.1)], [.cells 0 d.cells, .cells 0 den0.cells, .cells 0 ((calN d.tracks fm tt i.1).map .str)])) (fun i => fm.length - i.1) ⟨0, by omega⟩ (Ent.fr' ⟨(by kernel_rfl), (by kernel_rfl), (by kernel_rfl), (by kernel_rfl), (by kernel_rfl), (by kernel_rfl), (by kernel_rfl), trivial⟩ (by kernel_rfl)) ?_
            rintro ⟨i, hi⟩
            have hcl := calN_length d.tracks fm tt i
            repeat first | refine opsStep ?_ | refine codeStep ?_ | refine drawStep ?_
            refine decB_dec (fun g => ?_) (fun g => ?_)
            · have hia : i < fm.length := by have := g; simp at this; omega
              have hib : i < tt.length := by omega
              have hm : fm[i] ∈ d.tracks := by have := List.all_eq_true.1 ha _ (List.getElem_mem hia); simpa using this
              have hix := idxS_mem hm
              have hilt := List.idxOf_lt_length_of_mem hm
              repeat first | refine opsStep ?_ | refine codeStep ?_ | refine drawStep ?_
              refine guardE_of (by simp; omega) ?_
              repeat first | refine opsStep ?_ | refine codeStep ?_ | refine drawStep ?_
              refine optE_of (c := .str fm[i]) (by simp [Value.cells, hia]) ?_
              repeat first | refine opsStep ?_ | refine codeStep ?_ | refine drawStep ?_
              refine SW.drawn rfl (by kernel_rfl) ?_
              repeat first | refine opsStep ?_ | refine codeStep ?_ | refine drawStep ?_
              refine .inl ⟨_, _, [], (glyph_Index d.tk d.tracks fm[i] (by omega)), RdsN_refl _, .inr rfl, none_need, ?_⟩
              repeat first | refine opsStep ?_ | refine codeStep ?_ | refine drawStep ?_
              refine guardE_of (by simp; omega) ?_
              repeat first | refine opsStep ?_ | refine codeStep ?_ | refine drawStep ?_
              refine optE_of (c := .str tt[i]) (by simp [Value.cells, hib]) ?_
              repeat first | refine opsStep ?_ | refine codeStep ?_ | refine drawStep ?_
              refine guardE_of (by rw [hix]; simp; omega) ?_
              repeat first | refine opsStep ?_ | refine codeStep ?_ | refine drawStep ?_
              have z1 : 0 + (idxS d.tracks fm[i]).toNat * 1 + [AV.str tt[i]].length ≤ ((calN d.tracks fm tt i).map AV.str).length := by rw [hix, Int.toNat_natCast]; simp; omega
              refine guardE_of ⟨rfl, by decide, z1⟩ ?_
              repeat first | refine opsStep ?_ | refine codeStep ?_ | refine drawStep ?_
              refine ⟨by kernel_rfl, ?_⟩
              repeat first | refine opsStep ?_ | refine codeStep ?_ | refine drawStep ?_
              refine ⟨⟨i + 1, by omega⟩, (by show fm.length - (i + 1) < fm.length - i; omega), Ent.fr' ⟨(by kernel_rfl), (by kernel_rfl), (by kernel_rfl), (by kernel_rfl), (by kernel_rfl), (by kernel_rfl), inc_slot (i := i) (by omega), trivial⟩ ?_⟩
              refine Eq.trans (b := [Blk.cells 0 d.cells, .cells 0 den0.cells, .cells 0 (over ((calN d.tracks fm tt i).map AV.str) (0 + (idxS d.tracks fm[i]).toNat * 1) [.str tt[i]])]) (by kernel_rfl) ?_
              show _ = [Blk.cells 0 d.cells, .cells 0 den0.cells, .cells 0 ((calN d.tracks fm tt (i + 1)).map .str)]
              rw [hix, Int.toNat_natCast, Nat.zero_add, Nat.mul_one, over_one (by simp; omega), ← List.map_set, calN]
              simp [List.getD_eq_getElem?_getD, hia, hib]
            · have : i = fm.length := by have := g; simp at this; omega
              subst this
              have hcl : (calS d.tracks fm tt).length = d.tracks.length := calN_length ..
              have hcs : ∀ s ∈ calS d.tracks fm tt, s.length < 2^62 := fun s hs => by have := calS_mem 0 hd.names hts _ s hs; omega
              have hE := ren_sort hr' hl hn ha htw
              repeat first | refine opsStep ?_ | refine codeStep ?_ | refine drawStep ?_
              refine callZ 2 (g := 0) (cs := (calS d.tracks fm tt).map .str) (by kernel_rfl) (glyph_Sorted .any (calS d.tracks fm tt) (by omega) hcs) ?_ ?_
              · show FzN [.cells 0 d.cells, .cells 0 den0.cells, .fro 0 ((calS d.tracks fm tt).map .str)] [.hs 2 0 0 d.tracks.length 1] [.sl .any (calS d.tracks fm tt).length ((calS d.tracks fm tt).map .str)]
                rw [hcl]
                exact .hs (b := 2) (g := 0) rfl (by simp [hcl]) .nil
              repeat first | refine opsStep ?_ | refine codeStep ?_ | refine drawStep ?_
              refine decB_dec (fun he => ?_) (fun he => ?_)
              · repeat first | refine opsStep ?_ | refine codeStep ?_ | refine drawStep ?_
                exact finV (v' := .tup [aDen den0, .int .i64 (sortE (calS d.tracks fm tt))]) (by kernel_rfl) (by rw [renR_bad (by rw [hE]; exact he), hE])
              · have he0 : sortE (calS d.tracks fm tt) = 0 := Decidable.of_not_not he
                obtain ⟨z1, z2, _⟩ := sort_zero he0
                rw [he0] at hE
                obtain ⟨nm, hnm⟩ : ∃ nm, sortR (calS d.tracks fm tt) = nm := ⟨_, rfl⟩
                obtain ⟨cl, hcle⟩ : ∃ cl, calS d.tracks fm tt = cl := ⟨_, rfl⟩
                have hmem : ∀ s ∈ cl, s ∈ nm := fun s hs => by rw [← hnm, z1, tog_mem, hcle]; exact hs
                have hnl : nm.length = d.tracks.length := by rw [← hnm, z1, z2, hcl]
                have hcl' : cl.length = d.tracks.length := by rw [← hcle]; exact hcl
                refine VCode.ent (s' := fr [(3, .ref 0 0 0), (6, .ref 1 0 0), (8, .hs 2 0 0 d.tracks.length 1), (11, aSs .any nm)]) (H' := [.cells 0 d.cells, .cells 0 den0.cells, .fro 0 (cl.map .str)]) ?_ ?_
                · rw [← hnm, ← hcle]
                  exact Ent.fr' ⟨(by kernel_rfl), (by kernel_rfl), (by kernel_rfl), (by kernel_rfl), trivial⟩ (by kernel_rfl)
                repeat first | refine opsStep ?_ | refine codeStep ?_ | refine drawStep ?_
                refine loopE_of (ι := {i : Nat // i ≤ cl.length}) (fun i => (fr [(3, .ref 0 0 0), (6, .ref 1 0 0), (11, aSs .any nm), (13, .hs 3 i.1 0 i.1 1), (71, .hs 2 0 0 d.tracks.length 1), (72, .int .i64 d.tracks.length), (73, .int .i64 i.1)], [.cells 0 d.cells, .cells 0 den0.cells, .fro 0 (cl.map .str), .cells i.1 ((((placesOf cl nm).take i.1).map fun p : Nat => (p : Int)).map (.int .i64))])) (fun i => cl.length - i.1) ⟨0, by omega⟩ ?_ ?_
                · exact ((Ent.fr' (l := [(3, .ref 0 0 0), (6, .ref 1 0 0), (11, aSs .any nm), (13, .sl .nil 0 []), (71, .hs 2 0 0 d.tracks.length 1), (72, .int .i64 d.tracks.length), (73, .int .i64 (0 : Nat))]) (H' := [.cells 0 d.cells, .cells 0 den0.cells, .fro 0 (cl.map .str)]) ⟨(by kernel_rfl), (by kernel_rfl), (by kernel_rfl), (by kernel_rfl), (by kernel_rfl), (by kernel_rfl), (by kernel_rfl), trivial⟩ (by kernel_rfl)).trans (Ent.nil 13 1 rfl)).trans (Ent.fr' ⟨(by kernel_rfl), (by kernel_rfl), (by kernel_rfl), (by kernel_rfl), (by kernel_rfl), (by kernel_rfl), (by kernel_rfl), trivial⟩ (by kernel_rfl))
                rintro ⟨i, hi⟩
                repeat first | refine opsStep ?_ | refine codeStep ?_ | refine drawStep ?_
                refine decB_dec (fun f => ?_) (fun f => ?_)
                · have hia : i < cl.length := by have := f; simp at this; omega
                  have hix := idxS_mem (hmem _ (List.getElem_mem hia))
                  repeat first | refine opsStep ?_ | refine codeStep ?_ | refine drawStep ?_
                  refine guardE_of (by simp; omega) ?_
                  repeat first | refine opsStep ?_ | refine codeStep ?_ | refine drawStep ?_
                  refine optE_of (c := .str cl[i]) (by show (cl.map AV.str)[0 + i * 1]? = _; simp [hia]) ?_
                  repeat first | refine opsStep ?_ | refine codeStep ?_ | refine drawStep ?_
                  refine callP (glyph_Index .any nm cl[i] (by omega)) ?_
                  repeat first | refine opsStep ?_ | refine codeStep ?_ | refine drawStep ?_
                  refine guardE_of ⟨rfl, by simp [placesOf]; omega⟩ ?_
                  refine guardE_of rfl ?_
                  refine guardE_of ⟨by omega, by show (i + 1) * 8 ≤ 140737488355328; omega⟩ ?_
                  repeat first | refine opsStep ?_ | refine codeStep ?_ | refine drawStep ?_
                  refine ⟨⟨i + 1, by omega⟩, (by show cl.length - (i + 1) < cl.length - i; omega), Ent.to (Ent.frT (H' := [.cells 0 d.cells, .cells 0 den0.cells, .fro 0 (cl.map .str), .cells (i + 1) ((((((placesOf cl nm).take i).map fun p : Nat => (p : Int)).map (AV.int .i64)).drop 0).take (i * 1) ++ [.int .i64 (idxS nm cl[i])])]) 4 ⟨(by kernel_rfl), (by kernel_rfl), (by kernel_rfl), (by kernel_rfl), (by kernel_rfl), (by kernel_rfl), inc_slot (i := i) (by omega), trivial⟩ (by kernel_rfl) (Nat.zero_le _) (by first | (simp [frBel, blksBel, Blk.bel, AV.bel, bels, bels_append, bels_map, aSs_bel, aIs_bel, aBs_bel, aRs_bel, aDen_bel, cells_bel]; done) | (simp only [List.drop_zero, ← List.map_take, ← List.map_drop, List.map_map, frBel, blksBel, Blk.bel, AV.bel, bels, bels_append, bels_map, aSs_bel, aIs_bel, aBs_bel, aRs_bel, aDen_bel, cells_bel]; simp [AV.bel, aSs_bel, aIs_bel, aBs_bel, aRs_bel, aDen_bel, cells_bel])) (by first | (simp [frBel, blksBel, Blk.bel, AV.bel, bels, bels_append, bels_map, aSs_bel, aIs_bel, aBs_bel, aRs_bel, aDen_bel, cells_bel]; done) | (simp only [List.drop_zero, ← List.map_take, ← List.map_drop, List.map_map, frBel, blksBel, Blk.bel, AV.bel, bels, bels_append, bels_map, aSs_bel, aIs_bel, aBs_bel, aRs_bel, aDen_bel, cells_bel]; simp [AV.bel, aSs_bel, aIs_bel, aBs_bel, aRs_bel, aDen_bel, cells_bel]))) ?_⟩
                  show _ = ([.cells 0 d.cells, .cells 0 den0.cells, .fro 0 (cl.map .str), .cells (i + 1) ((((placesOf cl nm).take (i + 1)).map fun p : Nat => (p : Int)).map (.int .i64))] : List Blk)
                  rw [td_all (by simp; omega), hix, List.take_succ_eq_append_getElem (i := i) (by simp [placesOf]; omega), List.map_append, List.map_append]
                  simp [placesOf]
                · have : i = cl.length := by have := f; simp at this; omega
                  subst this
                  have hpl : (placesOf cl nm).length = cl.length := by simp [placesOf]
                  repeat first | refine opsStep ?_ | refine codeStep ?_ | refine drawStep ?_
                  refine callZ 3 (g := cl.length) (cs := ((placesOf cl nm).map fun p : Nat => (p : Int)).map (.int .i64)) ?_ (track_over_pure .any .any d nm (placesOf cl nm) hd (by omega) (by omega) (fun p hp => ?_) (fun r hr => by rw [hpl, hcl']; exact (rowOk_parts (hrows r hr)).1)) ?_ ?_
                  · exact Eq.trans (b := some (.cells cl.length ((((placesOf cl nm).take cl.length).map fun p : Nat => (p : Int)).map (.int .i64)))) (by kernel_rfl) (by rw [List.take_of_length_le (by omega)])
                  · obtain ⟨s, hs, rfl⟩ := List.mem_map.1 hp
                    have := List.idxOf_lt_length_of_mem (hmem s hs)
                    omega
                  · show FzN [.cells 0 d.cells, .cells 0 den0.cells, .fro 0 (cl.map .str), .fro cl.length (((placesOf cl nm).map fun p : Nat => (p : Int)).map (.int .i64))] [aDen d, aSs .any nm, .hs 3 cl.length 0 cl.length 1] [aDen d, aSs .any nm, .sl .any ((placesOf cl nm).map fun p : Nat => (p : Int)).length (((placesOf cl nm).map fun p : Nat => (p : Int)).map (.int .i64))]
                    rw [List.length_map, hpl]
                    exact .same (.same (.hs (b := 3) (g := cl.length) rfl (by simp [hpl]) .nil))
                  repeat first | refine opsStep ?_ | refine codeStep ?_ | refine drawStep ?_
                  exact finV (v' := .tup [aDen ⟨.any, nm, .any, d.accept, .any, (d.rows.map (ovRow nm.length (placesOf cl nm))).map fun r => (.any, r)⟩, .int .i64 0]) (by kernel_rfl) (by rw [renR_ok hE, hE, renD, hnm, hcle])

end Tab
