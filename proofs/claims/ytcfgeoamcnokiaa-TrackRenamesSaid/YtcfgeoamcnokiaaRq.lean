/- Rename, of the document. -/
import Derived.Test.YtcfgeoamcnokiaaRo
namespace Tab
open Go Go.Proofs
set_option maxRecDepth 10000
set_option linter.unusedVariables false
set_option linter.unusedSimpArgs false
set_option linter.unusedSectionVars false

theorem tw_bad {l : List (List UInt8)} {i : Nat} (hi : i < l.length) (h : l.idxOf l[i] ≠ i) : twS l = true := by
  rw [twS, List.any_eq_true]
  refine ⟨i, List.mem_range.2 hi, ?_⟩
  simp [List.getD_eq_getElem?_getD, hi, h]
theorem tw_ok {l : List (List UInt8)} (h : ∀ j, j < l.length → l.idxOf (l.getD j []) = j) : twS l = false := by
  rw [twS, List.any_eq_false]
  intro j hj
  rw [h j (List.mem_range.1 hj), decide_eq_true rfl]
  simp

theorem r15_Rename (k kf kt : SK) (d : Den) (fm tt : List (List UInt8)) (hd : DenOk d) (hf : fm.length * 16 ≤ 140737488351232) (ht : tt.length * 16 ≤ 140737488351232) (hts : ∀ s ∈ tt, s.length ≤ 140737488351232) :
    Pure Try.prog 6 [aDen d, aSs kf fm, aSs kt tt] (.tup [aDen (renR d fm tt), .int .i64 (renE d fm tt)]) := by
  have h1 := hd.tracks
  have h2 := hd.accept
  have h3 := hd.next
  refine Pure.of_sw 98 Try.func6 rfl Try.ntmps6 (by kernel_rfl) (Nat.le_of_ble_eq_true (by kernel_rfl)) (by simp [closeds, AV.closed, aSs_closed, aIs_closed, aBs_closed, aRs_closed, aDen_closed]) (by simp [AV.closed, closeds, aSs_closed, aIs_closed, aBs_closed, aRs_closed, aDen_closed]) ?_; refine SW.of_vc ?_
  repeat first | refine opsStep ?_ | refine codeStep ?_ | refine drawStep ?_
  refine callP (r12_Right d hd) ?_
  repeat first | refine opsStep ?_ | refine codeStep ?_ | refine drawStep ?_
  refine decB_split (fun h => ?_) (fun h => ?_)
  · have hr' : rightS d = false := by simpa using h
    repeat first | refine opsStep ?_ | refine codeStep ?_ | refine drawStep ?_
    exact finV (v' := .tup [aDen den0, .int .i64 3]) (by kernel_rfl) (by rw [renR_bad (by rw [ren_shape (.inl hr')]; decide), ren_shape (.inl hr')])
  · have hr' : rightS d = true := by simpa using h
    obtain ⟨htr, hnn, hrows⟩ := rightS_parts hr'
    have hk := tracksS_le htr
    repeat first | refine opsStep ?_ | refine codeStep ?_ | refine drawStep ?_
    refine decB_dec (fun hlen => ?_) (fun hlen => ?_)
    · have hl : fm.length ≠ tt.length := fun e => hlen (by rw [e])
      repeat first | refine opsStep ?_ | refine codeStep ?_ | refine drawStep ?_
      exact finV (v' := .tup [aDen den0, .int .i64 3]) (by kernel_rfl) (by rw [renR_bad (by rw [ren_shape (.inr hl)]; decide), ren_shape (.inr hl)])
    · have hl : fm.length = tt.length := by have := Decidable.of_not_not hlen; omega
      repeat first | refine opsStep ?_ | refine codeStep ?_ | refine drawStep ?_
      refine loopE_of (ι := {i : Nat // i ≤ tt.length ∧ nonN (tt.take i) = false}) (fun i => (fr [(1, aSs kf fm), (2, aSs kt tt), (3, .ref 0 0 0), (6, .ref 1 0 0), (8, .int .i64 i.1)], [.cells 0 d.cells, .cells 0 den0.cells])) (fun i => tt.length - i.1) ⟨0, by omega, by simp [nonN]⟩ (Ent.fr' ⟨(by kernel_rfl), (by kernel_rfl), (by kernel_rfl), (by kernel_rfl), (by kernel_rfl), trivial⟩ (by kernel_rfl)) ?_
      rintro ⟨i, hi, hpre⟩
      repeat first | refine opsStep ?_ | refine codeStep ?_ | refine drawStep ?_
      refine decB_dec (fun g => ?_) (fun g => ?_)
      · have hia : i < tt.length := by have := g; simp at this; omega
        repeat first | refine opsStep ?_ | refine codeStep ?_ | refine drawStep ?_
        refine guardE_of (by simp; omega) ?_
        repeat first | refine opsStep ?_ | refine codeStep ?_ | refine drawStep ?_
        refine optE_of (c := .str tt[i]) (by simp [Value.cells, hia]) ?_
        repeat first | refine opsStep ?_ | refine codeStep ?_ | refine drawStep ?_
        refine callP (r04_Name tt[i] (by have := hts _ (List.getElem_mem hia); omega)) ?_
        repeat first | refine opsStep ?_ | refine codeStep ?_ | refine drawStep ?_
        refine decB_split (fun h => ?_) (fun h => ?_)
        · have hn : nonN tt = true := List.any_eq_true.2 ⟨_, List.getElem_mem hia, h⟩
          repeat first | refine opsStep ?_ | refine codeStep ?_ | refine drawStep ?_
          exact finV (v' := .tup [aDen den0, .int .i64 6]) (by kernel_rfl) (by rw [renR_bad (by rw [ren_name hr' hl hn]; decide), ren_name hr' hl hn])
        · repeat first | refine opsStep ?_ | refine codeStep ?_ | refine drawStep ?_
          refine ⟨⟨i + 1, by omega, ?_⟩, (by show tt.length - (i + 1) < tt.length - i; omega), Ent.fr' ⟨(by kernel_rfl), (by kernel_rfl), (by kernel_rfl), (by kernel_rfl), inc_slot (i := i) (by omega), trivial⟩ (by kernel_rfl)⟩
          rw [nonN, List.take_succ_eq_append_getElem hia, List.any_append, ← nonN, hpre]
          simpa using h
      · have : i = tt.length := by have := g; simp at this; omega
        subst this
        rw [List.take_length] at hpre
        repeat first | refine opsStep ?_ | refine codeStep ?_ | refine drawStep ?_
        refine loopE_of (ι := {i : Nat // i ≤ fm.length ∧ allIn (fm.take i) d.tracks = true}) (fun i => (fr [(1, aSs kf fm), (2, aSs kt tt), (3, .ref 0 0 0), (6, .ref 1 0 0), (9, .int .i64 i.1)], [.cells 0 d.cells, .cells 0 den0.cells])) (fun i => fm.length - i.1) ⟨0, by omega, by simp [allIn]⟩ (Ent.fr' ⟨(by kernel_rfl), (by kernel_rfl), (by kernel_rfl), (by kernel_rfl), (by kernel_rfl), trivial⟩ (by kernel_rfl)) ?_
        rintro ⟨i, hi, hpa⟩
        repeat first | refine opsStep ?_ | refine codeStep ?_ | refine drawStep ?_
        refine decB_dec (fun g2 => ?_) (fun g2 => ?_)
        · have hia : i < fm.length := by have := g2; simp at this; omega
          repeat first | refine opsStep ?_ | refine codeStep ?_ | refine drawStep ?_
          refine SW.drawn rfl (by kernel_rfl) ?_
          repeat first | refine opsStep ?_ | refine codeStep ?_ | refine drawStep ?_
          refine guardE_of (by simp; omega) ?_
          repeat first | refine opsStep ?_ | refine codeStep ?_ | refine drawStep ?_
          refine optE_of (c := .str fm[i]) (by simp [Value.cells, hia]) ?_
          repeat first | refine opsStep ?_ | refine codeStep ?_ | refine drawStep ?_
          refine .inl ⟨_, _, [], (r04_Index d.tk d.tracks fm[i] (by omega)), RdsN_refl _, .inr rfl, none_need, ?_⟩
          repeat first | refine opsStep ?_ | refine codeStep ?_ | refine drawStep ?_
          refine ⟨by kernel_rfl, ?_⟩
          repeat first | refine opsStep ?_ | refine codeStep ?_ | refine drawStep ?_
          refine decB_dec (fun hx => ?_) (fun hx => ?_)
          · have ha : allIn fm d.tracks = false := by
              rw [← Bool.not_eq_true, allIn, List.all_eq_true]
              intro k
              have := k _ (List.getElem_mem hia)
              exact idxS_lt.1 hx (by simpa using this)
            repeat first | refine opsStep ?_ | refine codeStep ?_ | refine drawStep ?_
            exact finV (v' := .tup [aDen den0, .int .i64 4]) (by kernel_rfl) (by rw [renR_bad (by rw [ren_none hr' hl hpre ha]; decide), ren_none hr' hl hpre ha])
          · have hm : fm[i] ∈ d.tracks := by
              have := fun e => hx (idxS_lt.2 e)
              exact Classical.byContradiction this
            repeat first | refine opsStep ?_ | refine codeStep ?_ | refine drawStep ?_
            refine ⟨⟨i + 1, by omega, ?_⟩, (by show fm.length - (i + 1) < fm.length - i; omega), Ent.fr' ⟨(by kernel_rfl), (by kernel_rfl), (by kernel_rfl), (by kernel_rfl), inc_slot (i := i) (by omega), trivial⟩ (by kernel_rfl)⟩
            rw [allIn, List.take_succ_eq_append_getElem hia, List.all_append, ← allIn, hpa]
            simp [hm]
        · have : i = fm.length := by have := g2; simp at this; omega
          subst this
          rw [List.take_length] at hpa
          repeat first | refine opsStep ?_ | refine codeStep ?_ | refine drawStep ?_
          refine guardE_of (by simp [Value.cells]) ?_
          refine guardE_of ⟨by omega, by show (0 + d.tracks.length) * 16 ≤ 140737488355328; omega⟩ ?_
          repeat first | refine opsStep ?_ | refine codeStep ?_ | refine drawStep ?_
          refine loopE_of (ι := {i : Nat // i ≤ fm.length ∧ ∀ j, j < i → fm.idxOf (fm.getD j []) = j}) (fun i => (fr [(1, aSs kf fm), (2, aSs kt tt), (3, .ref 0 0 0), (6, .ref 1 0 0), (10, .hs 2 1 0 d.tracks.length 1), (11, .int .i64 i.1)], [.cells 0 d.cells, .cells 0 den0.cells, .cells 1 ((calN d.tracks fm tt i.1).map .str)])) (fun i => fm.length - i.1) ⟨0, by omega, by simp⟩
            (Ent.fr' ⟨(by kernel_rfl), (by kernel_rfl), (by kernel_rfl), (by kernel_rfl), Eq.trans (b := .hs 2 1 0 (0 + d.tracks.length) 1) (by kernel_rfl) (by rw [Nat.zero_add]), (by kernel_rfl), trivial⟩ (by kernel_rfl)) ?_
          rintro ⟨i, hi, hpt⟩
          have hcl := calN_length d.tracks fm tt i
          repeat first | refine opsStep ?_ | refine codeStep ?_ | refine drawStep ?_
          refine decB_dec (fun g3 => ?_) (fun g3 => ?_)
          · have hia : i < fm.length := by have := g3; simp at this; omega
            have hib : i < tt.length := by omega
            have hm : fm[i] ∈ d.tracks := by have := List.all_eq_true.1 hpa _ (List.getElem_mem hia); simpa using this
            have hix := idxS_mem hm
            have hilt := List.idxOf_lt_length_of_mem hm
            have gi : fm.getD i [] = fm[i] := by simp [List.getD_eq_getElem?_getD, hia]
            repeat first | refine opsStep ?_ | refine codeStep ?_ | refine drawStep ?_
            refine guardE_of (by simp; omega) ?_
            repeat first | refine opsStep ?_ | refine codeStep ?_ | refine drawStep ?_
            refine optE_of (c := .str fm[i]) (by simp [Value.cells, hia]) ?_
            repeat first | refine opsStep ?_ | refine codeStep ?_ | refine drawStep ?_
            refine callP (r04_Index kf fm fm[i] (by omega)) ?_
            repeat first | refine opsStep ?_ | refine codeStep ?_ | refine drawStep ?_
            refine decB_dec (fun hx => ?_) (fun hx => ?_)
            · have htw : twS fm = true := tw_bad hia (fun e => hx (by rw [idxS_mem (List.getElem_mem hia), e]))
              repeat first | refine opsStep ?_ | refine codeStep ?_ | refine drawStep ?_
              exact finV (v' := .tup [aDen den0, .int .i64 5]) (by kernel_rfl) (by rw [renR_bad (by rw [ren_twice hr' hl hpre hpa htw]; decide), ren_twice hr' hl hpre hpa htw])
            · have hxi : fm.idxOf fm[i] = i := by
                have := Decidable.of_not_not hx
                rw [idxS_mem (List.getElem_mem hia)] at this
                exact Int.ofNat_inj.1 this
              repeat first | refine opsStep ?_ | refine codeStep ?_ | refine drawStep ?_
              refine SW.drawn rfl (by kernel_rfl) ?_
              repeat first | refine opsStep ?_ | refine codeStep ?_ | refine drawStep ?_
              refine guardE_of (by simp; omega) ?_
              repeat first | refine opsStep ?_ | refine codeStep ?_ | refine drawStep ?_
              refine optE_of (c := .str fm[i]) (by simp [Value.cells, hia]) ?_
              repeat first | refine opsStep ?_ | refine codeStep ?_ | refine drawStep ?_
              refine .inl ⟨_, _, [], (r04_Index d.tk d.tracks fm[i] (by omega)), RdsN_refl _, .inr rfl, none_need, ?_⟩
              repeat first | refine opsStep ?_ | refine codeStep ?_ | refine drawStep ?_
              refine guardE_of (by simp; omega) ?_
              repeat first | refine opsStep ?_ | refine codeStep ?_ | refine drawStep ?_
              refine optE_of (c := .str tt[i]) (by simp [Value.cells, hib]) ?_
              repeat first | refine opsStep ?_ | refine codeStep ?_ | refine drawStep ?_
              refine guardE_of (by rw [hix]; simp; omega) ?_
              repeat first | refine opsStep ?_ | refine codeStep ?_ | refine drawStep ?_
              have z1 : 0 + (idxS d.tracks fm[i]).toNat * 1 + [AV.str tt[i]].length ≤ ((calN d.tracks fm tt i).map AV.str).length := by rw [hix, Int.toNat_natCast]; simp; omega
              refine guardE_of ⟨rfl, by decide, z1⟩ ?_
              repeat first | refine opsStep ?_ | refine codeStep ?_ | refine drawStep ?_
              refine ⟨by kernel_rfl, ?_⟩
              repeat first | refine opsStep ?_ | refine codeStep ?_ | refine drawStep ?_
              refine ⟨⟨i + 1, by omega, fun j hj => ?_⟩, (by show fm.length - (i + 1) < fm.length - i; omega), Ent.fr' ⟨(by kernel_rfl), (by kernel_rfl), (by kernel_rfl), (by kernel_rfl), (by kernel_rfl), inc_slot (i := i) (by omega), trivial⟩ ?_⟩
              · rcases Nat.lt_succ_iff_lt_or_eq.1 hj with hj | rfl
                · exact hpt j hj
                · rw [gi]; exact hxi
              refine Eq.trans (b := [Blk.cells 0 d.cells, .cells 0 den0.cells, .cells 1 (over ((calN d.tracks fm tt i).map AV.str) (0 + (idxS d.tracks fm[i]).toNat * 1) [.str tt[i]])]) (by kernel_rfl) ?_
              show _ = [Blk.cells 0 d.cells, .cells 0 den0.cells, .cells 1 ((calN d.tracks fm tt (i + 1)).map .str)]
              rw [hix, Int.toNat_natCast, Nat.zero_add, Nat.mul_one, over_one (by simp; omega), ← List.map_set, calN]
              simp [List.getD_eq_getElem?_getD, hia, hib]
          · have : i = fm.length := by have := g3; simp at this; omega
            subst this
            have htw := tw_ok hpt
            have hcl : (calS d.tracks fm tt).length = d.tracks.length := calN_length ..
            have hcs : ∀ s ∈ calS d.tracks fm tt, s.length < 2^62 := fun s hs => by have := calS_mem 0 hd.names hts _ s hs; omega
            have hE := ren_sort hr' hl hpre hpa htw
            repeat first | refine opsStep ?_ | refine codeStep ?_ | refine drawStep ?_
            refine callZ 2 (g := 1) (cs := (calS d.tracks fm tt).map .str) (by kernel_rfl) (r04_Sorted .any (calS d.tracks fm tt) (by omega) hcs) ?_ ?_
            · show FzN [.cells 0 d.cells, .cells 0 den0.cells, .fro 1 ((calS d.tracks fm tt).map .str)] [.hs 2 1 0 d.tracks.length 1] [.sl .any (calS d.tracks fm tt).length ((calS d.tracks fm tt).map .str)]
              rw [hcl]
              exact .hs (b := 2) (g := 1) rfl (by simp [hcl]) .nil
            repeat first | refine opsStep ?_ | refine codeStep ?_ | refine drawStep ?_
            refine decB_dec (fun he => ?_) (fun he => ?_)
            · repeat first | refine opsStep ?_ | refine codeStep ?_ | refine drawStep ?_
              exact finV (v' := .tup [aDen den0, .int .i64 (sortE (calS d.tracks fm tt))]) (by kernel_rfl) (by rw [renR_bad (by rw [hE]; exact he), hE])
            · have he0 : sortE (calS d.tracks fm tt) = 0 := Decidable.of_not_not he
              obtain ⟨z1, z2, _⟩ := sort_zero he0
              rw [he0] at hE
              have hmem : ∀ s ∈ calS d.tracks fm tt, s ∈ sortR (calS d.tracks fm tt) := fun s hs => by rw [z1, tog_mem]; exact hs
              have hnl : (sortR (calS d.tracks fm tt)).length = d.tracks.length := by rw [z1, z2, hcl]
              repeat first | refine opsStep ?_ | refine codeStep ?_ | refine drawStep ?_
              refine callY (r15_over .any .any d (sortR (calS d.tracks fm tt)) (calS d.tracks fm tt) hd (by omega) (by omega) hmem (fun r hr => by rw [hcl]; exact (rowOk_parts (hrows r hr)).1)) ?_ ?_
              · show FzN [.cells 0 d.cells, .cells 0 den0.cells, .fro 1 ((calS d.tracks fm tt).map .str)] [aDen d, aSs .any (sortR (calS d.tracks fm tt)), .hs 2 1 0 d.tracks.length 1] [aDen d, aSs .any (sortR (calS d.tracks fm tt)), .sl .any (calS d.tracks fm tt).length ((calS d.tracks fm tt).map .str)]
                rw [hcl]
                exact .same (.same (.hs (b := 2) (g := 1) rfl (by simp [hcl]) .nil))
              repeat first | refine opsStep ?_ | refine codeStep ?_ | refine drawStep ?_
              exact finV (v' := .tup [aDen (renD d fm tt), .int .i64 0]) (by kernel_rfl) (by rw [renR_ok hE, hE])

end Tab
