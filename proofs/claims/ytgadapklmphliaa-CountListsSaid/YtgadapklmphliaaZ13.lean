/- Lemmas for this claim: part 13. No condition. -/
import Derived.Test.YtgadapklmphliaaZ11
import Derived.Test.YtgadapklmphliaaZ12
/- count: made. -/
namespace Tab
open Go Go.Proofs
set_option maxRecDepth 10000
set_option linter.unusedVariables false
set_option linter.unusedSimpArgs false
set_option linter.unusedSectionVars false

def fL (k : Nat) : List AV := List.replicate k (.bool false)
def mL (k : Nat) : List AV := List.replicate k (.int .i64 (-1))
theorem fL_length (k) : (fL k).length = k := by simp [fL]
theorem mL_length (k) : (mL k).length = k := by simp [mL]
theorem fL_snoc (k) : fL (k + 1) = fL k ++ [.bool false] := by simp [fL, List.replicate_succ']
theorem mL_snoc (k) : mL (k + 1) = mL k ++ [.int .i64 (-1)] := by simp [mL, List.replicate_succ']
theorem fL_bel (m k) : bels m (fL k) := bels_iff.2 fun a ha => by rw [List.eq_of_mem_replicate ha]; trivial
theorem mL_bel (m k) : bels m (mL k) := bels_iff.2 fun a ha => by rw [List.eq_of_mem_replicate ha]; trivial
theorem fL_map (k) : fL k = (List.replicate k false).map .bool := by simp [fL]
theorem ids_len {l : List AV} {n : Nat} (h : l.length = n) : (l.drop 0).take (n * 1) = l := by rw [List.drop_zero, Nat.mul_one, ← h, List.take_length]

theorem rns_app (f : Nat → Nat) (a b : List AV) : rns f (a ++ b) = rns f a ++ rns f b := by rw [rns_map, rns_map, rns_map, List.map_append]
theorem yL_rn (f g k) : rns f (yL g k) = yL g k := closeds_rn _ (yL_closed g k)
theorem fL_rn (f k) : rns f (fL k) = fL k := by rw [fL_map]; exact bools_rn f _
theorem mL_rn (f k) : rns f (mL k) = mL k := closeds_rn _ (closeds_iff.2 fun a ha => by rw [List.eq_of_mem_replicate ha]; simp only [AV.closed])
set_option maxHeartbeats 1000000 in
theorem count_made (d : Den) (hd : rightS d = true) (g : Gr) (hgr : grD d = g) :
    ACall Try.prog 35 [aDen d] [] (fun o H' => o = .ret (.ref 0 0 0) ∧ H' = [cnC d (.sl .any g.n ((liveL g).map .bool)) (.hs 1 g.n 0 g.n 1), .cells g.n (mL g.n)]) := by
  have hrow := fun q hq => gr_row hd (q := q) hq
  have hacc := fun c hc => gr_acc (d := d) (c := c) hc
  have hnl : d.next.length = (grD d).n := (rightS_parts hd).2.1
  have hal : d.accept.length = (grD d).n := rfl
  have hgo := grD_ok hd
  have hspr := fun (gl : Nat) (kn : AV) (X : List Blk) (L0 : List Bool) h0 => count_spread d hd g hgr gl kn X L0 h0
  have hcn : ∀ lv kn, cnC d lv kn = .cells 0 (d.cells ++ [.sl .any g.n (yL g g.n), lv, kn]) := fun lv kn => by rw [cnC, hgr]
  rw [hgr] at hrow hnl hgo hacc hal
  have hbig := hgo.big
  have hlet := hgo.let'
  refine ACall.of_sw 65 Try.func35 rfl Try.ntmps35 (by kernel_rfl) (Nat.le_of_ble_eq_true (by kernel_rfl)) ?_; refine SW.of_vc ?_
  repeat first | refine opsStep ?_ | refine codeStep ?_ | refine drawStep ?_
  refine loopE_of (ι := {i : Nat // i ≤ g.n}) (fun i => (fr [(1, .ref 0 0 0), (3, .ref 1 0 0), (13, aRs d.nk d.next), (14, .int .i64 (g.n : Nat)), (15, .int .i64 (i.1 : Nat))], [.cells 0 d.cells, .cells 0 (d.cells ++ [.hs 2 (i.1) 0 (i.1) 1, .hs 3 (i.1) 0 (i.1) 1, .hs 4 (i.1) 0 (i.1) 1]), .cells (i.1) (yL g (i.1)), .cells (i.1) (fL (i.1)), .cells (i.1) (mL (i.1))])) (fun i => g.n - i.1) ⟨0, Nat.zero_le _⟩ ?_ ?_
  · exact ((((Ent.fr' (l := [(1, .ref 0 0 0), (3, .ref 1 0 0), (13, aRs d.nk d.next), (14, .int .i64 (g.n : Nat)), (15, .int .i64 ((0 : Nat) : Nat))]) (H' := [.cells 0 d.cells, .cells 0 (d.cells ++ [.sl .nil 0 [], .sl .nil 0 [], .sl .nil 0 []])]) ⟨(by kernel_rfl), (by kernel_rfl), (by kernel_rfl), (Eq.trans (b := .int .i64 (d.next.length : Nat)) (by kernel_rfl) (by rw [hnl])), (by kernel_rfl), trivial⟩ (by kernel_rfl)).trans (Ent.nilCell 1 3 1 rfl rfl)).trans (Ent.nilCell 1 4 1 rfl rfl)).trans (Ent.nilCell 1 5 1 rfl rfl)).to rfl
  rintro ⟨i, hi⟩
  repeat first | refine opsStep ?_ | refine codeStep ?_ | refine drawStep ?_
  refine decB_dec (fun hic => ?_) (fun hic => ?_)
  · have hil : i < g.n := by have := hic; simp at this; omega
    obtain ⟨r, g1, g2, g3, g4⟩ := hrow i hil
    repeat first | refine opsStep ?_ | refine codeStep ?_ | refine drawStep ?_
    refine guardE_of (by simp; omega) ?_
    repeat first | refine opsStep ?_ | refine codeStep ?_ | refine drawStep ?_
    refine optE_of (c := aIs r.1 r.2) (by simp [Value.cells, g1]) ?_
    repeat first | refine opsStep ?_ | refine codeStep ?_ | refine drawStep ?_
    refine loopE_of (ι := {a : Nat // a ≤ g.K}) (fun a => (fr [(1, .ref 0 0 0), (3, .ref 1 0 0), (13, aRs d.nk d.next), (14, .int .i64 (g.n : Nat)), (15, .int .i64 (i : Nat)), (6, .int .i64 (yesTo g i a.1 : Nat)), (19, aIs r.1 r.2), (20, .int .i64 (r.2.length : Nat)), (21, .int .i64 (a.1 : Nat))], [.cells 0 d.cells, .cells 0 (d.cells ++ [.hs 2 (i) 0 (i) 1, .hs 3 (i) 0 (i) 1, .hs 4 (i) 0 (i) 1]), .cells (i) (yL g (i)), .cells (i) (fL (i)), .cells (i) (mL (i))])) (fun a => g.K - a.1) ⟨0, Nat.zero_le _⟩ (Ent.fr' ⟨(by kernel_rfl), (by kernel_rfl), (by kernel_rfl), (by kernel_rfl), (by kernel_rfl), (by kernel_rfl), (by kernel_rfl), (by kernel_rfl), (by kernel_rfl), trivial⟩ (by kernel_rfl)) ?_
    rintro ⟨a, ha⟩
    repeat first | refine opsStep ?_ | refine codeStep ?_ | refine drawStep ?_
    refine decB_dec (fun hac => ?_) (fun hac => ?_)
    · have hal2 : a < g.K := by have := hac; simp at this; omega
      obtain ⟨g5, g6⟩ := g4 a hal2
      have g7 := hacc _ g6
      have har : a < r.2.length := by omega
      have hys := yesTo_succ g i a
      have hyk := yesTo_le g i a
      generalize g.st i a = c at *
      generalize yesTo g i a = y at *
      repeat first | refine opsStep ?_ | refine codeStep ?_ | refine drawStep ?_
      refine guardE_of (by simp; omega) ?_
      repeat first | refine opsStep ?_ | refine codeStep ?_ | refine drawStep ?_
      refine optE_of (c := .int .i64 (c : Nat)) (by simp [Value.cells, g5]) ?_
      repeat first | refine opsStep ?_ | refine codeStep ?_ | refine drawStep ?_
      refine guardE_of (by simp; omega) ?_
      repeat first | refine opsStep ?_ | refine codeStep ?_ | refine drawStep ?_
      refine optE_of (c := .bool (g.ac c)) (by simp [Value.cells, g7]) ?_
      cases hc : g.ac c with
      | true =>
        rw [hc, if_pos rfl] at hys
        repeat first | refine opsStep ?_ | refine codeStep ?_ | refine drawStep ?_
        refine ⟨⟨a + 1, hal2⟩, (by show g.K - (a + 1) < g.K - a; omega), Ent.fr' ⟨(by kernel_rfl), (by kernel_rfl), (by kernel_rfl), (by kernel_rfl), (by kernel_rfl), ?_, (by kernel_rfl), (by kernel_rfl), inc_slot (i := a) (by omega), trivial⟩ (by kernel_rfl)⟩
        refine Eq.trans (b := .int .i64 (IntKind.wrap .i64 ((y : Int) + 1))) (by kernel_rfl) ?_
        rw [inc_slot (i := y) (by omega), hys]
      | false =>
        rw [hc, if_neg (by simp)] at hys
        repeat first | refine opsStep ?_ | refine codeStep ?_ | refine drawStep ?_
        refine ⟨⟨a + 1, hal2⟩, (by show g.K - (a + 1) < g.K - a; omega), Ent.fr' ⟨(by kernel_rfl), (by kernel_rfl), (by kernel_rfl), (by kernel_rfl), (by kernel_rfl), ?_, (by kernel_rfl), (by kernel_rfl), inc_slot (i := a) (by omega), trivial⟩ (by kernel_rfl)⟩
        refine Eq.trans (b := .int .i64 (y : Nat)) (by kernel_rfl) ?_
        rw [hys]; simp
    · have hae : a = g.K := by have := hac; simp at this; omega
      subst hae
      have hyl := yL_length g i
      have hfl := fL_length i
      have hml := mL_length i
      have hyn : yesTo g i g.K = yesN g i := rfl
      have hys := yL_snoc g i
      rw [hyn]
      generalize yesN g i = y at *
      repeat first | refine opsStep ?_ | refine codeStep ?_ | refine drawStep ?_
      refine guardE_of ⟨rfl, by simp [hyl]⟩ ?_
      refine guardE_of rfl ?_
      refine guardE_of ⟨by show i + 1 ≤ 9223372036854775807; omega, by show (i + 1) * 8 ≤ 140737488355328; omega⟩ ?_
      repeat first | refine opsStep ?_ | refine codeStep ?_ | refine drawStep ?_
      refine guardE_of ⟨rfl, by simp [hfl]⟩ ?_
      refine guardE_of rfl ?_
      refine guardE_of ⟨by show i + 1 ≤ 9223372036854775807; omega, by show (i + 1) * 1 ≤ 140737488355328; omega⟩ ?_
      repeat first | refine opsStep ?_ | refine codeStep ?_ | refine drawStep ?_
      refine guardE_of ⟨rfl, by simp [hml]⟩ ?_
      refine guardE_of rfl ?_
      refine guardE_of ⟨by show i + 1 ≤ 9223372036854775807; omega, by show (i + 1) * 8 ≤ 140737488355328; omega⟩ ?_
      repeat first | refine opsStep ?_ | refine codeStep ?_ | refine drawStep ?_
      refine ⟨⟨i + 1, hil⟩, (by show g.n - (i + 1) < g.n - i; omega), ?_⟩
      refine Ent.to (Ent.frT (H' := [.cells 0 d.cells, .cells 0 (d.cells ++ [.hs 2 (i + 1) 0 (i + 1) 1, .hs 3 (i + 1) 0 (i + 1) 1, .hs 4 (i + 1) 0 (i + 1) 1]), .cells (i + 1) (((yL g i).drop 0).take (i * 1) ++ [.int .i64 (y : Nat)]), .cells (i + 1) (((fL i).drop 0).take (i * 1) ++ [.bool false]), .cells (i + 1) (((mL i).drop 0).take (i * 1) ++ [.int .i64 (-1)])]) 5 ⟨(by kernel_rfl), (by kernel_rfl), (by kernel_rfl), (by kernel_rfl), inc_slot (i := i) (by omega), trivial⟩ (by kernel_rfl) (Nat.zero_le _) (by simp [frBel, AV.bel, bels, aRs_bel]) ?_) ?_
      · rw [ids_len hyl, ids_len hfl, ids_len hml]
        simp [blksBel, Blk.bel, bels_append, cells_bel, yL_bel, fL_bel, mL_bel, bels, AV.bel]
      · rw [ids_len hyl, ids_len hfl, ids_len hml, ← hys, ← fL_snoc, ← mL_snoc]
  · have hie : i = g.n := by have := hic; simp at this; omega
    subst hie
    clear hrow hacc hic
    have hyl := yL_length g g.n
    have hml := mL_length g.n
    repeat first | refine opsStep ?_ | refine codeStep ?_ | refine drawStep ?_
    have e0 : Ent (65 : Fr) (fr [(3, .ref 1 0 0)]) [.cells 0 d.cells, .cells 0 (d.cells ++ [.hs 2 (g.n) 0 (g.n) 1, .hs 3 (g.n) 0 (g.n) 1, .hs 4 (g.n) 0 (g.n) 1]), .cells (g.n) (yL g (g.n)), .cells (g.n) (fL (g.n)), .cells (g.n) (mL (g.n))] (fr [(3, .ref 0 0 0)]) [cnC d (.hs 1 g.n 0 g.n 1) (.hs 2 g.n 0 g.n 1), .cells g.n ((List.replicate g.n false).map .bool), .cells g.n (mL g.n)] := by
      rw [hcn, ← fL_map]
      refine (Ent.freezeCell (b := 2) (g := g.n) (n := g.n) (es := 1) (cs := yL g g.n) 1 3 rfl rfl rfl (by decide) (by omega)).trans ?_
      refine Ent.pick [1, 3, 4] (by decide) (by intro b hb; simp at hb; show b < 5; omega) (fun b hb => absurd hb (Nat.not_lt_zero _)) _ _ rfl (frOk_rn ⟨rfl, trivial⟩) ?_ (by simp [frBel, AV.bel]) (by simp [blksBel, Blk.bel, bels_append, cells_bel, yL_bel, fL_bel, mL_bel, bels, AV.bel])
      intro i x b h1 h2
      match i, h2 with
      | 0, h2 =>
        cases h1; cases h2
        refine Eq.trans (b := some (Blk.cells 0 (d.cells ++ [.sl .any g.n (yL g g.n), .hs 3 g.n 0 g.n 1, .hs 4 g.n 0 g.n 1]))) rfl ?_
        simp [Blk.rn, rns_app, den_rn, rns, AV.rn, yL_rn, rnB]
      | 1, h2 =>
        cases h1; cases h2
        refine Eq.trans (b := some (Blk.cells g.n (fL g.n))) rfl ?_
        simp [Blk.rn, fL_rn]
      | 2, h2 =>
        cases h1; cases h2
        refine Eq.trans (b := some (Blk.cells g.n (mL g.n))) rfl ?_
        simp [Blk.rn, mL_rn]
      | i + 3, h2 => simp at h2
    refine loopE_of (ι := {L : List Bool // SpSound g L}) (fun L => (fr [(3, .ref 0 0 0)], [cnC d (.hs 1 g.n 0 g.n 1) (.hs 2 g.n 0 g.n 1), .cells g.n (L.1.map .bool), .cells g.n (mL g.n)])) (fun L => g.n - trues L.1)
      ⟨List.replicate g.n false, by simp, fun q h => by rw [List.getElem?_replicate] at h; split at h <;> simp at h⟩ ((Ent.fr' (l := [(3, .ref 1 0 0)]) (H' := [.cells 0 d.cells, .cells 0 (d.cells ++ [.hs 2 (g.n) 0 (g.n) 1, .hs 3 (g.n) 0 (g.n) 1, .hs 4 (g.n) 0 (g.n) 1]), .cells (g.n) (yL g (g.n)), .cells (g.n) (fL (g.n)), .cells (g.n) (mL (g.n))]) ⟨(by kernel_rfl), trivial⟩ (by kernel_rfl)).trans e0) ?_
    clear e0
    rintro ⟨L, hL⟩
    repeat first | refine opsStep ?_ | refine codeStep ?_ | refine drawStep ?_
    refine callI2 (hspr g.n (.hs 2 g.n 0 g.n 1) [.cells g.n (mL g.n)] L hL) ?_
    rintro b L' ⟨hp1, hp2, hp3, hp4⟩
    cases b with
    | true =>
      have hp3 := hp3 rfl
      have hp5 := trues_le L'
      rw [hp1.1] at hp5
      repeat first | refine opsStep ?_ | refine codeStep ?_ | refine drawStep ?_
      exact ⟨⟨L', hp1⟩, (by show g.n - trues L' < g.n - trues L; omega), Ent.fr' ⟨(by kernel_rfl), trivial⟩ (by kernel_rfl)⟩
    | false =>
      obtain ⟨rfl, hp5⟩ := hp4 rfl
      have hfin := live_final hgo hp1 hp5
      subst hfin
      have hll := liveL_length g
      repeat first | refine opsStep ?_ | refine codeStep ?_ | refine drawStep ?_
      refine finR (l := [(2, .ref 0 0 0)]) (v := .ref 0 0 0) (H₁ := [cnC d (.hs 1 g.n 0 g.n 1) (.hs 2 g.n 0 g.n 1), .cells g.n ((liveL g).map .bool), .cells g.n (mL g.n)]) (s' := fr [(2, .ref 0 0 0)]) (H' := [cnC d (.sl .any g.n ((liveL g).map .bool)) (.hs 1 g.n 0 g.n 1), .cells g.n (mL g.n)]) ⟨(by kernel_rfl), trivial⟩ (by kernel_rfl) ?_ (by kernel_rfl) ⟨rfl, rfl⟩
      rw [hcn, hcn]
      refine (Ent.freezeCell (b := 1) (g := g.n) (n := g.n) (es := 1) (cs := (liveL g).map .bool) 0 4 rfl rfl rfl (by decide) (by rw [List.length_map, hll]; omega)).trans ?_
      refine Ent.pick [0, 2] (by decide) (by intro b hb; simp at hb; show b < 3; omega) (fun b hb => absurd hb (Nat.not_lt_zero _)) _ _ rfl (frOk_rn ⟨rfl, trivial⟩) ?_ (by simp [frBel, AV.bel]) ?_
      · intro i x b h1 h2
        match i, h2 with
        | 0, h2 =>
          cases h1; cases h2
          refine Eq.trans (b := some (Blk.cells 0 (d.cells ++ [.sl .any g.n (yL g g.n), .sl .any g.n ((liveL g).map .bool), .hs 2 g.n 0 g.n 1]))) rfl ?_
          simp [Blk.rn, rns_app, den_rn, rns, AV.rn, yL_rn, bools_rn, rnB]
        | 1, h2 =>
          cases h1; cases h2
          refine Eq.trans (b := some (Blk.cells g.n (mL g.n))) rfl ?_
          simp [Blk.rn, mL_rn]
        | i + 2, h2 => simp at h2
      · simp [blksBel, Blk.bel, bels_append, cells_bel, yL_bel, fL_bel, mL_bel, bels, AV.bel, bels_map]

end Tab

/- count: ringed, finite. -/
namespace Tab
open Go Go.Proofs
set_option maxRecDepth 10000
set_option linter.unusedVariables false
set_option linter.unusedSimpArgs false
set_option linter.unusedSectionVars false

set_option maxHeartbeats 1000000 in
theorem count_ringed (d : Den) (hd : rightS d = true) (g : Gr) (hgr : grD d = g) (kn : AV) (B1 : Blk) (X : List Blk) : ∀ (k : Nat) (M : List Nat) (q : Nat), zeros M ≤ k → RgPre g M q →
    ACall Try.prog 82 [.ref 0 0 0, .int .i64 (q : Nat), .hs 2 0 0 g.n 1] (cnC d (.sl .any g.n ((liveL g).map .bool)) kn :: B1 :: .cells 0 (iW (M)) :: X) (fun o H' => ∃ b M', o = .ret (.bool b) ∧ H' = cnC d (.sl .any g.n ((liveL g).map .bool)) kn :: B1 :: .cells 0 (iW (M')) :: X ∧ RgPost g M q b M') := by
  have hrow := fun q hq => gr_row hd (q := q) hq
  have hnl : d.next.length = (grD d).n := (rightS_parts hd).2.1
  have hgo := grD_ok hd
  rw [hgr] at hrow hnl hgo
  have hstay := hgo.stay
  have hbig := hgo.big
  have hlet := hgo.let'
  have hll := liveL_length g
  intro k
  induction k with
  | zero =>
    intro M q hz hp
    have hq : q < g.n := hp.at'.lt hgo
    have hlq := liveL_get g hq
    have hml := hp.len
    have hil : (iW M).length = g.n := by rw [iW_length, hml]
    obtain ⟨v, hv⟩ : ∃ v, M[q]? = some v := ⟨_, List.getElem?_eq_getElem (by omega)⟩
    have hgv : (iW M)[q]? = some (.int .i64 (v : Nat)) := by simp [iW, hv]
    have hv2 := hp.two q v hv
    cases hlb : liveB g q with
    | false =>
      have hpost := hp.none (.inl hlb)
      rw [hlb] at hlq
      refine ACall.of_sw 53 Try.func82 rfl Try.ntmps82 (by kernel_rfl) (Nat.le_of_ble_eq_true (by kernel_rfl)) ?_; refine SW.of_vc ?_
      repeat first | refine opsStep ?_ | refine codeStep ?_ | refine drawStep ?_
      refine guardE_of (by simp [hll]; omega) ?_
      repeat first | refine opsStep ?_ | refine codeStep ?_ | refine drawStep ?_
      refine optE_of (c := .bool false) (by simp [Value.cells, hlq]) ?_
      repeat first | refine opsStep ?_ | refine codeStep ?_ | refine drawStep ?_
      exact finR (l := [(6, .bool false)]) (v := .bool false) ⟨(by kernel_rfl), trivial⟩ (by kernel_rfl) (Ent.refl _ _ _) (by kernel_rfl) ⟨false, M, rfl, rfl, hpost⟩
    | true =>
      have hlp := (liveB_iff g).1 hlb
      rw [hlb] at hlq
      obtain rfl | rfl | rfl : v = 2 ∨ v = 1 ∨ v = 0 := by omega
      · have hpost := hp.none (.inr hv)
        refine ACall.of_sw 53 Try.func82 rfl Try.ntmps82 (by kernel_rfl) (Nat.le_of_ble_eq_true (by kernel_rfl)) ?_; refine SW.of_vc ?_
        repeat first | refine opsStep ?_ | refine codeStep ?_ | refine drawStep ?_
        refine guardE_of (by simp [hll]; omega) ?_
        repeat first | refine opsStep ?_ | refine codeStep ?_ | refine drawStep ?_
        refine optE_of (c := .bool true) (by simp [Value.cells, hlq]) ?_
        repeat first | refine opsStep ?_ | refine codeStep ?_ | refine drawStep ?_
        refine guardE_of (by simp; omega) ?_
        repeat first | refine opsStep ?_ | refine codeStep ?_ | refine drawStep ?_
        refine optE_of (c := .int .i64 (2 : Nat)) (by simpa [Value.cells] using hgv) ?_
        repeat first | refine opsStep ?_ | refine codeStep ?_ | refine drawStep ?_
        exact finR (l := [(6, .bool false)]) (v := .bool false) ⟨(by kernel_rfl), trivial⟩ (by kernel_rfl) (Ent.refl _ _ _) (by kernel_rfl) ⟨false, M, rfl, rfl, hpost⟩
      · have hpost := hp.ring hv
        refine ACall.of_sw 53 Try.func82 rfl Try.ntmps82 (by kernel_rfl) (Nat.le_of_ble_eq_true (by kernel_rfl)) ?_; refine SW.of_vc ?_
        repeat first | refine opsStep ?_ | refine codeStep ?_ | refine drawStep ?_
        refine guardE_of (by simp [hll]; omega) ?_
        repeat first | refine opsStep ?_ | refine codeStep ?_ | refine drawStep ?_
        refine optE_of (c := .bool true) (by simp [Value.cells, hlq]) ?_
        repeat first | refine opsStep ?_ | refine codeStep ?_ | refine drawStep ?_
        refine guardE_of (by simp; omega) ?_
        repeat first | refine opsStep ?_ | refine codeStep ?_ | refine drawStep ?_
        refine optE_of (c := .int .i64 (1 : Nat)) (by simpa [Value.cells] using hgv) ?_
        repeat first | refine opsStep ?_ | refine codeStep ?_ | refine drawStep ?_
        refine guardE_of (by simp; omega) ?_
        repeat first | refine opsStep ?_ | refine codeStep ?_ | refine drawStep ?_
        refine optE_of (c := .int .i64 (1 : Nat)) (by simpa [Value.cells] using hgv) ?_
        repeat first | refine opsStep ?_ | refine codeStep ?_ | refine drawStep ?_
        exact finR (l := [(6, .bool true)]) (v := .bool true) ⟨(by kernel_rfl), trivial⟩ (by kernel_rfl) (Ent.refl _ _ _) (by kernel_rfl) ⟨true, M, rfl, rfl, hpost⟩
      · exfalso
        have := zeros_set hv (v := 1) (by decide)
        omega
  | succ k ih =>
    intro M q hz hp
    have hq : q < g.n := hp.at'.lt hgo
    have hlq := liveL_get g hq
    have hml := hp.len
    have hil : (iW M).length = g.n := by rw [iW_length, hml]
    obtain ⟨v, hv⟩ : ∃ v, M[q]? = some v := ⟨_, List.getElem?_eq_getElem (by omega)⟩
    have hgv : (iW M)[q]? = some (.int .i64 (v : Nat)) := by simp [iW, hv]
    have hv2 := hp.two q v hv
    cases hlb : liveB g q with
    | false =>
      have hpost := hp.none (.inl hlb)
      rw [hlb] at hlq
      refine ACall.of_sw 53 Try.func82 rfl Try.ntmps82 (by kernel_rfl) (Nat.le_of_ble_eq_true (by kernel_rfl)) ?_; refine SW.of_vc ?_
      repeat first | refine opsStep ?_ | refine codeStep ?_ | refine drawStep ?_
      refine guardE_of (by simp [hll]; omega) ?_
      repeat first | refine opsStep ?_ | refine codeStep ?_ | refine drawStep ?_
      refine optE_of (c := .bool false) (by simp [Value.cells, hlq]) ?_
      repeat first | refine opsStep ?_ | refine codeStep ?_ | refine drawStep ?_
      exact finR (l := [(6, .bool false)]) (v := .bool false) ⟨(by kernel_rfl), trivial⟩ (by kernel_rfl) (Ent.refl _ _ _) (by kernel_rfl) ⟨false, M, rfl, rfl, hpost⟩
    | true =>
      have hlp := (liveB_iff g).1 hlb
      rw [hlb] at hlq
      obtain rfl | rfl | rfl : v = 2 ∨ v = 1 ∨ v = 0 := by omega
      · have hpost := hp.none (.inr hv)
        refine ACall.of_sw 53 Try.func82 rfl Try.ntmps82 (by kernel_rfl) (Nat.le_of_ble_eq_true (by kernel_rfl)) ?_; refine SW.of_vc ?_
        repeat first | refine opsStep ?_ | refine codeStep ?_ | refine drawStep ?_
        refine guardE_of (by simp [hll]; omega) ?_
        repeat first | refine opsStep ?_ | refine codeStep ?_ | refine drawStep ?_
        refine optE_of (c := .bool true) (by simp [Value.cells, hlq]) ?_
        repeat first | refine opsStep ?_ | refine codeStep ?_ | refine drawStep ?_
        refine guardE_of (by simp; omega) ?_
        repeat first | refine opsStep ?_ | refine codeStep ?_ | refine drawStep ?_
        refine optE_of (c := .int .i64 (2 : Nat)) (by simpa [Value.cells] using hgv) ?_
        repeat first | refine opsStep ?_ | refine codeStep ?_ | refine drawStep ?_
        exact finR (l := [(6, .bool false)]) (v := .bool false) ⟨(by kernel_rfl), trivial⟩ (by kernel_rfl) (Ent.refl _ _ _) (by kernel_rfl) ⟨false, M, rfl, rfl, hpost⟩
      · have hpost := hp.ring hv
        refine ACall.of_sw 53 Try.func82 rfl Try.ntmps82 (by kernel_rfl) (Nat.le_of_ble_eq_true (by kernel_rfl)) ?_; refine SW.of_vc ?_
        repeat first | refine opsStep ?_ | refine codeStep ?_ | refine drawStep ?_
        refine guardE_of (by simp [hll]; omega) ?_
        repeat first | refine opsStep ?_ | refine codeStep ?_ | refine drawStep ?_
        refine optE_of (c := .bool true) (by simp [Value.cells, hlq]) ?_
        repeat first | refine opsStep ?_ | refine codeStep ?_ | refine drawStep ?_
        refine guardE_of (by simp; omega) ?_
        repeat first | refine opsStep ?_ | refine codeStep ?_ | refine drawStep ?_
        refine optE_of (c := .int .i64 (1 : Nat)) (by simpa [Value.cells] using hgv) ?_
        repeat first | refine opsStep ?_ | refine codeStep ?_ | refine drawStep ?_
        refine guardE_of (by simp; omega) ?_
        repeat first | refine opsStep ?_ | refine codeStep ?_ | refine drawStep ?_
        refine optE_of (c := .int .i64 (1 : Nat)) (by simpa [Value.cells] using hgv) ?_
        repeat first | refine opsStep ?_ | refine codeStep ?_ | refine drawStep ?_
        exact finR (l := [(6, .bool true)]) (v := .bool true) ⟨(by kernel_rfl), trivial⟩ (by kernel_rfl) (Ent.refl _ _ _) (by kernel_rfl) ⟨true, M, rfl, rfl, hpost⟩
      · have hz1 := zeros_set hv (v := 1) (by decide)
        have hst := hp.start hv
        have hstop := fun M' (hs : RgSame g (M.set q 1) M') hd => hp.stop hgo hq hlp hv hs hd
        have hgoes := fun (a : Nat) (ha : a < g.K) M' (hs : RgSame g (M.set q 1) M') => hp.go hq hlp hv ha hs
        obtain ⟨r, g1, g2, g3, g4⟩ := hrow q hq
        obtain ⟨M1, hM1⟩ : ∃ M1, M.set q 1 = M1 := ⟨_, rfl⟩
        have hset1 : (iW M).set q (.int .i64 (1 : Nat)) = iW M1 := by rw [iW_set, hM1]
        rw [hM1] at hz1 hst hstop hgoes
        have hM1l := hst.len
        refine ACall.of_sw 53 Try.func82 rfl Try.ntmps82 (by kernel_rfl) (Nat.le_of_ble_eq_true (by kernel_rfl)) ?_; refine SW.of_vc ?_
        repeat first | refine opsStep ?_ | refine codeStep ?_ | refine drawStep ?_
        refine guardE_of (by simp [hll]; omega) ?_
        repeat first | refine opsStep ?_ | refine codeStep ?_ | refine drawStep ?_
        refine optE_of (c := .bool true) (by simp [Value.cells, hlq]) ?_
        repeat first | refine opsStep ?_ | refine codeStep ?_ | refine drawStep ?_
        refine guardE_of (by simp; omega) ?_
        repeat first | refine opsStep ?_ | refine codeStep ?_ | refine drawStep ?_
        refine optE_of (c := .int .i64 (0 : Nat)) (by simpa [Value.cells] using hgv) ?_
        repeat first | refine opsStep ?_ | refine codeStep ?_ | refine drawStep ?_
        refine guardE_of (by simp; omega) ?_
        repeat first | refine opsStep ?_ | refine codeStep ?_ | refine drawStep ?_
        refine optE_of (c := .int .i64 (0 : Nat)) (by simpa [Value.cells] using hgv) ?_
        repeat first | refine opsStep ?_ | refine codeStep ?_ | refine drawStep ?_
        refine guardE_of (by simp; omega) ?_
        repeat first | refine opsStep ?_ | refine codeStep ?_ | refine drawStep ?_
        refine guardE_of ⟨rfl, by decide, by show 0 + q * 1 + 1 ≤ (iW M).length; omega⟩ ?_
        repeat first | refine opsStep ?_ | refine codeStep ?_ | refine drawStep ?_
        refine guardE_of (by simp; omega) ?_
        repeat first | refine opsStep ?_ | refine codeStep ?_ | refine drawStep ?_
        refine optE_of (c := aIs r.1 r.2) (by simp [Value.cells, g1]) ?_
        repeat first | refine opsStep ?_ | refine codeStep ?_ | refine drawStep ?_
        refine loopE_of (ι := {x : Nat × List Nat // x.1 ≤ g.K ∧ RgSame g M1 x.2 ∧ ∀ a, a < x.1 → liveP g (g.st q a) → x.2[g.st q a]? = some 2})
          (fun x => (fr [(0, .ref 0 0 0), (1, .int .i64 (q : Nat)), (2, .hs 2 0 0 g.n 1), (39, aIs r.1 r.2), (40, .int .i64 (r.2.length : Nat)), (41, .int .i64 (x.1.1 : Nat))], cnC d (.sl .any g.n ((liveL g).map .bool)) kn :: B1 :: .cells 0 (iW (x.1.2)) :: X)) (fun x => g.K - x.1.1) ⟨(0, M1), Nat.zero_le _, hst, fun a ha => absurd ha (Nat.not_lt_zero _)⟩ (Ent.fr' ⟨(by kernel_rfl), (by kernel_rfl), (by kernel_rfl), (by kernel_rfl), (by kernel_rfl), (by kernel_rfl), trivial⟩ ?_) ?_
        · refine Eq.trans (b := cnC d (.sl .any g.n ((liveL g).map .bool)) kn :: B1 :: .cells 0 (over (iW M) (0 + q * 1) [.int .i64 (1 : Nat)]) :: X) (by kernel_rfl) ?_
          rw [Nat.zero_add, Nat.mul_one, over_one (by omega), hset1]
        rintro ⟨⟨a, Ma⟩, ha, hsa, hda⟩
        simp only at ha hsa hda
        repeat first | refine opsStep ?_ | refine codeStep ?_ | refine drawStep ?_
        refine decB_dec (fun hac => ?_) (fun hac => ?_)
        · have hal : a < g.K := by have := hac; simp at this; omega
          obtain ⟨g5, g6⟩ := g4 a hal
          have har : a < r.2.length := by omega
          have hpa := hgoes a hal Ma hsa
          have hza : zeros Ma ≤ k := by have := zeros_le (show Ma.length = M1.length by rw [hsa.len, hM1l]) hsa.zero; omega
          have hcall := ih Ma (g.st q a) hza hpa
          have hda' : ∀ b, b < a + 1 → liveP g (g.st q b) → b = a ∨ Ma[g.st q b]? = some 2 := fun b hb hl => by
            by_cases e : b = a
            · exact .inl e
            · exact .inr (hda b (by omega) hl)
          have hto : ∀ M', (liveP g (g.st q a) → M'[g.st q a]? = some 2) → RgSame g Ma M' → ∀ b, b < a + 1 → liveP g (g.st q b) → M'[g.st q b]? = some 2 := fun M' h1 h2 b hb hl => by
            rcases hda' b hb hl with e | e
            · subst e; exact h1 hl
            · exact h2.keep _ e
          generalize g.st q a = to at hcall g5 g6 hpa hto
          repeat first | refine opsStep ?_ | refine codeStep ?_ | refine drawStep ?_
          refine guardE_of (by simp; omega) ?_
          repeat first | refine opsStep ?_ | refine codeStep ?_ | refine drawStep ?_
          refine optE_of (c := .int .i64 (to : Nat)) (by simp [Value.cells, g5]) ?_
          repeat first | refine opsStep ?_ | refine codeStep ?_ | refine drawStep ?_
          refine callI2 hcall ?_
          rintro b M' hpost
          cases b with
          | true =>
            repeat first | refine opsStep ?_ | refine codeStep ?_ | refine drawStep ?_
            exact finR (l := [(6, .bool true)]) (v := .bool true) ⟨(by kernel_rfl), trivial⟩ (by kernel_rfl) (Ent.refl _ _ _) (by kernel_rfl) ⟨true, M', rfl, rfl, hpost⟩
          | false =>
            obtain ⟨hs', hl'⟩ := hpost
            repeat first | refine opsStep ?_ | refine codeStep ?_ | refine drawStep ?_
            exact ⟨⟨(a + 1, M'), hal, hsa.trans hs', hto M' hl' hs'⟩, (by show g.K - (a + 1) < g.K - a; omega), Ent.fr' ⟨(by kernel_rfl), (by kernel_rfl), (by kernel_rfl), (by kernel_rfl), (by kernel_rfl), inc_slot (i := a) (by omega), trivial⟩ (by kernel_rfl)⟩
        · have hae : a = g.K := by have := hac; simp at this; omega
          subst hae
          have hpost := hstop Ma hsa hda
          have hmal := hsa.len
          have hial : (iW Ma).length = g.n := by rw [iW_length, hmal]
          repeat first | refine opsStep ?_ | refine codeStep ?_ | refine drawStep ?_
          refine guardE_of (by simp; omega) ?_
          repeat first | refine opsStep ?_ | refine codeStep ?_ | refine drawStep ?_
          refine guardE_of ⟨rfl, by decide, by show 0 + q * 1 + 1 ≤ (iW Ma).length; omega⟩ ?_
          repeat first | refine opsStep ?_ | refine codeStep ?_ | refine drawStep ?_
          refine finR (l := [(6, .bool false)]) (v := .bool false) (H₁ := cnC d (.sl .any g.n ((liveL g).map .bool)) kn :: B1 :: .cells 0 (iW (Ma.set q 2)) :: X) ⟨(by kernel_rfl), trivial⟩ ?_ (Ent.refl _ _ _) (by kernel_rfl) ⟨false, Ma.set q 2, rfl, rfl, hpost⟩
          refine Eq.trans (b := cnC d (.sl .any g.n ((liveL g).map .bool)) kn :: B1 :: .cells 0 (over (iW Ma) (0 + q * 1) [.int .i64 (2 : Nat)]) :: X) (by kernel_rfl) ?_
          rw [Nat.zero_add, Nat.mul_one, over_one (by omega), iW_set]

end Tab

/- count: finite, beyond. -/
namespace Tab
open Go Go.Proofs
set_option maxRecDepth 10000
set_option linter.unusedVariables false
set_option linter.unusedSimpArgs false
set_option linter.unusedSectionVars false

noncomputable def cnH (d : Den) (g : Gr) (X : List Blk) : List Blk := cnC d (.sl .any g.n ((liveL g).map .bool)) (.hs 1 g.n 0 g.n 1) :: X
theorem count_finite (d : Den) (hd : rightS d = true) (g : Gr) (hgr : grD d = g) :
    ACall Try.prog 36 [.ref 0 0 0] (cnH d g [.cells g.n (mL g.n)]) (fun o H' => o = .ret (.bool (finT g)) ∧ H' = cnH d g [.cells g.n (mL g.n)]) := by
  have hgo : g.Ok := by rw [← hgr]; exact grD_ok hd
  have hbig := hgo.big
  have hll := liveL_length g
  have hcn : ∀ lv kn, cnC d lv kn = .cells 0 (d.cells ++ [.sl .any g.n (yL g g.n), lv, kn]) := fun lv kn => by rw [cnC, hgr]
  have hcall := count_ringed d hd g hgr (.hs 1 g.n 0 g.n 1) (.cells g.n (mL g.n)) [] (zeros (List.replicate g.n 0)) (List.replicate g.n 0) 0 (Nat.le_refl _) (RgPre.zero hgo)
  have hrep : iW (List.replicate g.n 0) = reps [.int .i64 0] g.n := by rw [reps_one]; simp [iW]
  have hfin := fun b M h => ring_fin (b := b) (M := M) hgo h
  rw [hrep] at hcall
  generalize finT g = fb at *
  rw [cnH]
  refine ACall.of_sw 12 Try.func36 rfl Try.ntmps36 (by kernel_rfl) (Nat.le_of_ble_eq_true (by kernel_rfl)) ?_; refine SW.of_vc ?_
  repeat first | refine opsStep ?_ | refine codeStep ?_ | refine drawStep ?_
  refine guardE_of ⟨by show 0 ≤ ((g.n : Nat) : Int); omega, Int.le_refl _, by show (8 : Int) * ((g.n : Nat) : Int) ≤ _; omega, by show ((g.n : Nat) : Int) ≤ _; omega⟩ ?_
  repeat first | refine opsStep ?_ | refine codeStep ?_ | refine drawStep ?_
  refine callI2 hcall ?_
  rintro b M' hpost
  have hfb := hfin b M' hpost
  subst hfb
  repeat first | refine opsStep ?_ | refine codeStep ?_ | refine drawStep ?_
  refine finR (l := [(2, .bool (!b))]) (v := .bool (!b)) (H₁ := [cnC d (.sl .any g.n ((liveL g).map .bool)) (.hs 1 g.n 0 g.n 1), .cells g.n (mL g.n), .cells 0 (iW M')]) ⟨(by kernel_rfl), trivial⟩ (by kernel_rfl) (Ent.drop (l := [(2, .bool (!b))]) (H := [cnC d (.sl .any g.n ((liveL g).map .bool)) (.hs 1 g.n 0 g.n 1), .cells g.n (mL g.n)]) (X := [.cells 0 (iW M')]) (Nat.le_refl _) (by simp [frBel, AV.bel]) ?_) (by kernel_rfl) ⟨rfl, rfl⟩
  rw [hcn]
  simp [blksBel, Blk.bel, bels_append, cells_bel, yL_bel, mL_bel, bels, AV.bel, bels_map]

end Tab

/- count: beyond. -/
namespace Tab
open Go Go.Proofs
set_option maxRecDepth 10000
set_option linter.unusedVariables false
set_option linter.unusedSimpArgs false
set_option linter.unusedSectionVars false

theorem callPan {P : Program} {f : FuncId} {args : List AV} {H : List Blk} {α : Type} {v : AV} {Hh : α → List Blk} {Q : α → Prop} {c : Prop} {X : Out → List Blk → Prop}
    (h : ACall P f args H fun o H' => ∃ a, H' = Hh a ∧ Q a ∧ ((o = .ret v ∧ c) ∨ (o = .pan ∧ ¬ c))) (k1 : c → ∀ a, Q a → X (.ret v) (Hh a)) (k2 : ¬ c → ∀ a, Q a → X .pan (Hh a)) : ∃ R : Out → List Blk → Prop, ACall P f args H R ∧ ∀ o H', R o H' → X o H' :=
  ⟨_, h, by
    rintro _ _ ⟨a, rfl, hq, ⟨rfl, hc⟩ | ⟨rfl, hc⟩⟩
    · exact k1 hc a hq
    · exact k2 hc a hq⟩
/-- A call that panics. -/
theorem callX {P : Program} {f : FuncId} {args : List AV} {H H₁ : List Blk} {X : Out → List Blk → Prop} (h : ACall P f args H fun o H' => o = .pan ∧ H' = H₁) (k : X .pan H₁) : ∃ R : Out → List Blk → Prop, ACall P f args H R ∧ ∀ o H', R o H' → X o H' :=
  ⟨_, h, by rintro _ _ ⟨rfl, rfl⟩; exact k⟩

def KnOk (g : Gr) (B : Nat → Nat) (kn : List Int) : Prop := kn.length = g.n ∧ ∀ (x : Nat) (v : Int), kn[x]? = some v → v = -1 ∨ (v = (B x : Nat) ∧ B x < 9223372036854775808)
theorem KnOk.set {g : Gr} {B : Nat → Nat} {kn : List Int} (h : KnOk g B kn) {q : Nat} (hq : B q < 9223372036854775808) : KnOk g B (kn.set q (B q : Nat)) := by
  refine ⟨by simpa using h.1, fun x v hx => ?_⟩
  rw [List.getElem?_set] at hx
  split at hx
  · rename_i e
    subst e
    split at hx
    · simp at hx; exact .inr ⟨hx.symm, hq⟩
    · simp at hx
  · exact h.2 x v hx
noncomputable def kH (d : Den) (g : Gr) (kn : List Int) (X : List Blk) : List Blk := cnC d (.sl .any g.n ((liveL g).map .bool)) (.hs 1 g.n 0 g.n 1) :: .cells g.n (kn.map (.int .i64)) :: X

set_option maxHeartbeats 1000000 in
theorem count_beyond (d : Den) (hd : rightS d = true) (g : Gr) (hgr : grD d = g) (X : List Blk) (r : Nat → Nat) (hr : ∀ x, Rch g x → ∀ y, Ed g x y → liveP g y → r y < r x) : ∀ (m q : Nat) (kn : List Int), q < g.n → KnOk g (beyN g) kn → (liveP g q → Rch g q ∧ r q < m) →
    ACall Try.prog 85 [.ref 0 0 0, .int .i64 (q : Nat)] (kH d g kn X) (fun o H' => ∃ kn', H' = kH d g kn' X ∧ KnOk g (beyN g) kn' ∧ ((o = .ret (.int .i64 (beyN g q : Nat)) ∧ beyN g q < 9223372036854775808) ∨ (o = .pan ∧ ¬ beyN g q < 9223372036854775808))) := by
  have hends := fun q a hq ha (kn : List Int) => count_ends d hd q a hq ha (.sl .any g.n ((liveL g).map .bool)) (.hs 1 g.n 0 g.n 1) (.cells g.n (kn.map (.int .i64)) :: X)
  have hrow := fun q hq => gr_row hd (q := q) hq
  have hgo := grD_ok hd
  have hel : ∀ q a, endsN (grD d) q a ≤ 64 := fun q a => Nat.le_trans (endsN_le _ _ _) (Nat.le_trans (yesTo_le _ _ _) hgo.let')
  rw [hgr] at hrow hgo hends hel
  have hstay := hgo.stay
  have hbig := hgo.big
  have hlet := hgo.let'
  have hll := liveL_length g
  have hdead := fun q => bey_dead (g := g) (q := q)
  have hrec := fun q => bey_rec hgo ⟨r, hr⟩ (q := q)
  obtain ⟨B, hB⟩ : ∃ B, beyN g = B := ⟨_, rfl⟩
  rw [hB] at hdead hrec ⊢
  intro m
  induction m with
  | zero =>
    intro q kn hq hk hl
    have hlb : liveB g q = false := by
      cases h : liveB g q with
      | false => rfl
      | true => have := (hl ((liveB_iff g).1 h)).2; omega
    have hlq := liveL_get g hq
    have hb0 : B q = 0 := hdead q fun h => by have := (liveB_iff g).2 h; rw [hlb] at this; simp at this
    rw [hlb] at hlq
    rw [hb0, kH]
    refine ACall.of_sw 63 Try.func85 rfl Try.ntmps85 (by kernel_rfl) (Nat.le_of_ble_eq_true (by kernel_rfl)) ?_; refine SW.of_vc ?_
    repeat first | refine opsStep ?_ | refine codeStep ?_ | refine drawStep ?_
    refine guardE_of (by simp [hll]; omega) ?_
    repeat first | refine opsStep ?_ | refine codeStep ?_ | refine drawStep ?_
    refine optE_of (c := .bool false) (by simp [Value.cells, hlq]) ?_
    repeat first | refine opsStep ?_ | refine codeStep ?_ | refine drawStep ?_
    exact finR (l := [(4, .int .i64 (0 : Nat))]) (v := .int .i64 (0 : Nat)) ⟨(by kernel_rfl), trivial⟩ (by kernel_rfl) (Ent.refl _ _ _) (by kernel_rfl) ⟨kn, rfl, hk, .inl ⟨rfl, by decide⟩⟩
  | succ m ih =>
    intro q kn hq hk hl
    cases hlb : liveB g q with
    | false =>
      have hlq := liveL_get g hq
      have hb0 : B q = 0 := hdead q fun h => by have := (liveB_iff g).2 h; rw [hlb] at this; simp at this
      rw [hlb] at hlq
      rw [hb0, kH]
      refine ACall.of_sw 63 Try.func85 rfl Try.ntmps85 (by kernel_rfl) (Nat.le_of_ble_eq_true (by kernel_rfl)) ?_; refine SW.of_vc ?_
      repeat first | refine opsStep ?_ | refine codeStep ?_ | refine drawStep ?_
      refine guardE_of (by simp [hll]; omega) ?_
      repeat first | refine opsStep ?_ | refine codeStep ?_ | refine drawStep ?_
      refine optE_of (c := .bool false) (by simp [Value.cells, hlq]) ?_
      repeat first | refine opsStep ?_ | refine codeStep ?_ | refine drawStep ?_
      exact finR (l := [(4, .int .i64 (0 : Nat))]) (v := .int .i64 (0 : Nat)) ⟨(by kernel_rfl), trivial⟩ (by kernel_rfl) (Ent.refl _ _ _) (by kernel_rfl) ⟨kn, rfl, hk, .inl ⟨rfl, by decide⟩⟩
    | true =>
      have hlp := (liveB_iff g).1 hlb
      obtain ⟨hrq, hrm⟩ := hl hlp
      have hlq := liveL_get g hq
      rw [hlb] at hlq
      obtain ⟨r0, g1, g2, g3, g4⟩ := hrow q hq
      have hBq := hrec q hrq
      obtain ⟨f, hf⟩ : ∃ f, (fun a => endsN g (g.st q a) a + B (g.st q a)) = f := ⟨_, rfl⟩
      rw [hf] at hBq
      have hfa : ∀ a, endsN g (g.st q a) a + B (g.st q a) = f a := fun a => congrFun hf a
      have hcall := fun a (ha : a < g.K) (kn1 : List Int) (hk1 : KnOk g B kn1) => ih (g.st q a) kn1 (hstay q a hq ha) hk1 (fun h => ⟨hrq.snoc ⟨hlp, a, ha, rfl⟩, by have := hr q hrq _ ⟨hlp, a, ha, rfl⟩ h; omega⟩)
      have hen := fun a (ha : a < g.K) (kn1 : List Int) => hends (g.st q a) a (hstay q a hq ha) ha kn1
      have hkl := hk.1
      obtain ⟨v, hv⟩ : ∃ v, kn[q]? = some v := ⟨_, List.getElem?_eq_getElem (by omega)⟩
      have hv2 := hk.2 q v hv
      have hle : ∀ a, a ≤ g.K → sumTo f a ≤ B q := fun a ha => by rw [hBq]; exact sumTo_mono ha
      have hsucc : ∀ a, sumTo f (a + 1) = sumTo f a + f a := fun a => rfl
      clear hends ih hl hr hdead hrec hf
      rw [kH]
      rcases hv2 with rfl | ⟨rfl, hfit⟩
      · refine ACall.of_sw 63 Try.func85 rfl Try.ntmps85 (by kernel_rfl) (Nat.le_of_ble_eq_true (by kernel_rfl)) ?_; refine SW.of_vc ?_
        repeat first | refine opsStep ?_ | refine codeStep ?_ | refine drawStep ?_
        refine guardE_of (by simp [hll]; omega) ?_
        repeat first | refine opsStep ?_ | refine codeStep ?_ | refine drawStep ?_
        refine optE_of (c := .bool true) (by simp [Value.cells, hlq]) ?_
        repeat first | refine opsStep ?_ | refine codeStep ?_ | refine drawStep ?_
        refine guardE_of (by simp; omega) ?_
        repeat first | refine opsStep ?_ | refine codeStep ?_ | refine drawStep ?_
        refine guardE_of rfl ?_
        refine optE_of rfl ?_
        refine optE_of (c := .int .i64 (-1)) (by show (kn.map (AV.int .i64))[0 + q * 1]? = _; simp [hv]) ?_
        repeat first | refine opsStep ?_ | refine codeStep ?_ | refine drawStep ?_
        refine guardE_of (by simp; omega) ?_
        repeat first | refine opsStep ?_ | refine codeStep ?_ | refine drawStep ?_
        refine optE_of (c := aIs r0.1 r0.2) (by simp [Value.cells, g1]) ?_
        repeat first | refine opsStep ?_ | refine codeStep ?_ | refine drawStep ?_
        refine loopE_of (ι := {x : Nat × List Int // x.1 ≤ g.K ∧ KnOk g B x.2 ∧ sumTo f x.1 < 9223372036854775808})
          (fun x => (fr [(0, .ref 0 0 0), (1, .int .i64 (q : Nat)), (5, .int .i64 (sumTo f x.1.1 : Nat)), (31, aIs r0.1 r0.2), (32, .int .i64 (r0.2.length : Nat)), (33, .int .i64 (x.1.1 : Nat))], cnC d (.sl .any g.n ((liveL g).map .bool)) (.hs 1 g.n 0 g.n 1) :: .cells g.n ((x.1.2).map (.int .i64)) :: X)) (fun x => g.K - x.1.1) ⟨(0, kn), Nat.zero_le _, hk, by show (0 : Nat) < _; decide⟩ (Ent.fr' ⟨(by kernel_rfl), (by kernel_rfl), (by kernel_rfl), (by kernel_rfl), (by kernel_rfl), (by kernel_rfl), trivial⟩ (by kernel_rfl)) ?_
        rintro ⟨⟨a, kn1⟩, ha, hk1, hs1⟩
        simp only at ha hk1 hs1
        repeat first | refine opsStep ?_ | refine codeStep ?_ | refine drawStep ?_
        refine decB_dec (fun hac => ?_) (fun hac => ?_)
        · have hal : a < g.K := by have := hac; simp at this; omega
          obtain ⟨g5, g6⟩ := g4 a hal
          have har : a < r0.2.length := by omega
          have hcall := hcall a hal kn1 hk1
          have hen := hen a hal kn1
          have hel := hel (g.st q a) a
          have hfa := hfa a
          have hsu := hsucc a
          have hle1 := hle (a + 1) hal
          rw [kH] at hcall
          generalize endsN g (g.st q a) a = en at *
          obtain ⟨Bt, hBt⟩ : ∃ Bt, B (g.st q a) = Bt := ⟨_, rfl⟩
          rw [hBt] at hcall hfa
          generalize g.st q a = to at hcall hen g5 g6
          obtain ⟨fa, hfe⟩ : ∃ fa, f a = fa := ⟨_, rfl⟩
          rw [hfe] at hfa hsu
          repeat first | refine opsStep ?_ | refine codeStep ?_ | refine drawStep ?_
          refine guardE_of (by simp; omega) ?_
          repeat first | refine opsStep ?_ | refine codeStep ?_ | refine drawStep ?_
          refine optE_of (c := .int .i64 (to : Nat)) (by simp [Value.cells, g5]) ?_
          repeat first | refine opsStep ?_ | refine codeStep ?_ | refine drawStep ?_
          refine callH hen ?_
          repeat first | refine opsStep ?_ | refine codeStep ?_ | refine drawStep ?_
          refine callPan hcall (fun hc kn2 hk2 => ?_) (fun hc kn2 hk2 => ?_)
          · by_cases h3 : en + Bt < 9223372036854775808
            · have hsum := count_sum en Bt h3
              rw [hfa] at hsum
              by_cases h4 : sumTo f a + fa < 9223372036854775808
              · have hsum2 := count_sum (sumTo f a) fa h4
                repeat first | refine opsStep ?_ | refine codeStep ?_ | refine drawStep ?_
                refine callP hsum ?_
                repeat first | refine opsStep ?_ | refine codeStep ?_ | refine drawStep ?_
                refine callP hsum2 ?_
                repeat first | refine opsStep ?_ | refine codeStep ?_ | refine drawStep ?_
                refine ⟨⟨(a + 1, kn2), hal, hk2, by show sumTo f (a + 1) < _; omega⟩, (by show g.K - (a + 1) < g.K - a; omega), Ent.fr' ⟨(by kernel_rfl), (by kernel_rfl), ?_, (by kernel_rfl), (by kernel_rfl), inc_slot (i := a) (by omega), trivial⟩ (by kernel_rfl)⟩
                refine Eq.trans (b := .int .i64 ((sumTo f a + fa : Nat) : Int)) (by kernel_rfl) ?_
                rw [← hsu]
              · have hsum2 := count_sumPan (sumTo f a) fa hs1 (by omega) h4
                repeat first | refine opsStep ?_ | refine codeStep ?_ | refine drawStep ?_
                refine callP hsum ?_
                repeat first | refine opsStep ?_ | refine codeStep ?_ | refine drawStep ?_
                refine callX (hsum2 _) ?_
                exact ⟨_, _, Ent.refl _ _ _, kn2, rfl, hk2, .inr ⟨rfl, by omega⟩⟩
            · have hsum := count_sumPan en Bt (by omega) hc h3
              repeat first | refine opsStep ?_ | refine codeStep ?_ | refine drawStep ?_
              refine callX (hsum _) ?_
              exact ⟨_, _, Ent.refl _ _ _, kn2, rfl, hk2, .inr ⟨rfl, by omega⟩⟩
          · exact ⟨_, _, Ent.refl _ _ _, kn2, rfl, hk2, .inr ⟨rfl, by omega⟩⟩
        · have hae : a = g.K := by have := hac; simp at this; omega
          subst hae
          have hkl1 := hk1.1
          have hfit : B q < 9223372036854775808 := by omega
          have hkset := hk1.set hfit
          have hmap : (kn1.map (AV.int .i64)).set q (.int .i64 (B q : Nat)) = (kn1.set q (B q : Nat)).map (.int .i64) := by rw [List.map_set]
          have hgs : ((kn1.map (AV.int .i64)).set q (.int .i64 (B q : Nat)))[q]? = some (.int .i64 (B q : Nat)) := by rw [List.getElem?_set, if_pos rfl, if_pos (by rw [List.length_map]; omega)]
          have hov : over (kn1.map (AV.int .i64)) (0 + q * 1) [.int .i64 (B q : Nat)] = (kn1.map (AV.int .i64)).set q (.int .i64 (B q : Nat)) := by rw [Nat.zero_add, Nat.mul_one, over_one (by rw [List.length_map]; omega)]
          rw [← hBq] at hs1
          repeat first | refine opsStep ?_ | refine codeStep ?_ | refine drawStep ?_
          refine guardE_of (by simp; omega) ?_
          repeat first | refine opsStep ?_ | refine codeStep ?_ | refine drawStep ?_
          refine guardE_of rfl ?_
          refine optE_of rfl ?_
          refine optE_of rfl ?_
          refine guardE_of ⟨rfl, by decide, by show 0 + q * 1 + 1 ≤ (kn1.map (AV.int .i64)).length; rw [List.length_map]; omega⟩ ?_
          repeat first | refine opsStep ?_ | refine codeStep ?_ | refine drawStep ?_
          refine guardE_of (by simp; omega) ?_
          repeat first | refine opsStep ?_ | refine codeStep ?_ | refine drawStep ?_
          refine guardE_of rfl ?_
          refine optE_of rfl ?_
          refine optE_of (c := .int .i64 (B q : Nat)) (by show (over (kn1.map (AV.int .i64)) (0 + q * 1) [.int .i64 (sumTo f g.K : Nat)])[0 + q * 1]? = _; rw [← hBq, hov, Nat.zero_add, Nat.mul_one]; exact hgs) ?_
          repeat first | refine opsStep ?_ | refine codeStep ?_ | refine drawStep ?_
          refine finR (l := [(4, .int .i64 (B q : Nat))]) (v := .int .i64 (B q : Nat)) (H₁ := kH d g (kn1.set q (B q : Nat)) X) ⟨(by kernel_rfl), trivial⟩ ?_ (Ent.refl _ _ _) (by kernel_rfl) ⟨_, rfl, hkset, .inl ⟨rfl, hfit⟩⟩
          refine Eq.trans (b := cnC d (.sl .any g.n ((liveL g).map .bool)) (.hs 1 g.n 0 g.n 1) :: .cells g.n (over (kn1.map (AV.int .i64)) (0 + q * 1) [.int .i64 (sumTo f g.K : Nat)]) :: X) (by kernel_rfl) ?_
          rw [← hBq, hov, hmap, kH]
      · refine ACall.of_sw 63 Try.func85 rfl Try.ntmps85 (by kernel_rfl) (Nat.le_of_ble_eq_true (by kernel_rfl)) ?_; refine SW.of_vc ?_
        repeat first | refine opsStep ?_ | refine codeStep ?_ | refine drawStep ?_
        refine guardE_of (by simp [hll]; omega) ?_
        repeat first | refine opsStep ?_ | refine codeStep ?_ | refine drawStep ?_
        refine optE_of (c := .bool true) (by simp [Value.cells, hlq]) ?_
        repeat first | refine opsStep ?_ | refine codeStep ?_ | refine drawStep ?_
        refine guardE_of (by simp; omega) ?_
        repeat first | refine opsStep ?_ | refine codeStep ?_ | refine drawStep ?_
        refine guardE_of rfl ?_
        refine optE_of rfl ?_
        refine optE_of (c := .int .i64 (B q : Nat)) (by show (kn.map (AV.int .i64))[0 + q * 1]? = _; simp [hv]) ?_
        repeat first | refine opsStep ?_ | refine codeStep ?_ | refine drawStep ?_
        refine guardE_of (by simp; omega) ?_
        repeat first | refine opsStep ?_ | refine codeStep ?_ | refine drawStep ?_
        refine guardE_of rfl ?_
        refine optE_of rfl ?_
        refine optE_of (c := .int .i64 (B q : Nat)) (by show (kn.map (AV.int .i64))[0 + q * 1]? = _; simp [hv]) ?_
        repeat first | refine opsStep ?_ | refine codeStep ?_ | refine drawStep ?_
        exact finR (l := [(4, .int .i64 (B q : Nat))]) (v := .int .i64 (B q : Nat)) ⟨(by kernel_rfl), trivial⟩ (by kernel_rfl) (Ent.refl _ _ _) (by kernel_rfl) ⟨kn, rfl, hk, .inl ⟨rfl, hfit⟩⟩

end Tab
