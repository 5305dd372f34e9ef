/- Lemmas for this claim: part 13. No condition. -/
import Derived.Test.YtgadapklmphliaaGreatZ10
import Derived.Test.YtgadapklmphliaaGreatZ12
/- tabardref21: Reached, Length. -/
namespace Tab
open Go Go.Proofs
set_option maxRecDepth 10000
set_option linter.unusedVariables false
set_option linter.unusedSimpArgs false
set_option linter.unusedSectionVars false

def rowA (r : List Nat) : AV := .sl .any r.length (iW r)
@[simp] theorem rowA_closed (r) : (rowA r).closed := by simp [rowA, AV.closed, iW_closed]
def rowsA (L : List (List Nat)) : List AV := L.map rowA
@[simp] theorem rowsA_closed (L) : closeds (rowsA L) := by
  rw [rowsA, closeds_iff]; intro a ha; obtain ⟨r, _, rfl⟩ := List.mem_map.1 ha; exact rowA_closed r
theorem rowsA_bel (n L) : bels n (rowsA L) := bels_iff.2 fun a ha => AV.closed_bel _ (closeds_iff.1 (rowsA_closed L) a ha)
@[irreducible] def rchL (d e : Den) : List (List Nat) := lvL (2 ^ d.tracks.length) (stC d e) (d.accept.length * e.accept.length + 2) [] [0]

/-- A row at a list's end, and in a slot: both given away. -/
theorem Ent.rowBoth {nt : Fr} {s : Slots} {H H' : List Blk} {l l' : List (Nat × AV)} {gb gr n es r : Nat} {L cs : List AV} (t : Nat) (pre : List Blk) (hf : frOk s l) (h0 : H.take pre.length = pre) (h1 : H[pre.length]? = some (.cells gb (L ++ [.hs r gr 0 n es])))
    (h2 : H[pre.length + 1]? = some (.cells gr cs)) (hr : r = pre.length + 1) (ht : Tab.fr l t = .hs r gr 0 n es) (hfit : n * es = cs.length) (hl' : frOk (upd (Tab.fr l) t (.sl .any n cs)) l')
    (hk : nt.k ≤ pre.length + 1) (hl : frBel (pre.length + 1) l') (hp : blksBel (pre.length + 1) pre) (hL : bels (pre.length + 1) L) (hcs : bels (pre.length + 1) cs) (e : pre ++ [.cells gb (L ++ [.sl .any n cs])] = H') : Ent nt s H (Tab.fr l') H' := by
  subst e
  subst hr
  obtain ⟨X, hH⟩ := split_at2 h0 h1 h2
  refine (Ent.fr' hf hH).trans ?_
  have h1 := Ent.rowEnd (nt := nt) (s := Tab.fr l) (H := pre ++ .cells gb (L ++ [.hs (pre.length + 1) gr 0 n es]) :: .cells gr cs :: X) pre.length (pre.length + 1) (gb := gb) (gr := gr) (n := n) (es := es) (pre := L) (cs := cs)
    (by simp) (by rw [List.getElem?_append_right (by omega)]; simp) (by omega) hfit
  refine h1.trans ?_
  rw [List.set_append_right _ _ (by omega), show pre.length + 1 - pre.length = 1 by omega, List.set_append_right _ _ (Nat.le_refl _), Nat.sub_self]
  have h3 := Ent.slot (nt := nt) (s := Tab.fr l) (H := pre ++ .cells gb (L ++ [.sl .any n cs]) :: .fro gr cs :: X) (cs := cs) (o := 0) t ht (by rw [List.getElem?_append_right (by omega)]; simp) (by omega)
  rw [List.drop_zero, hfit, List.take_length] at h3
  refine h3.trans ?_
  refine Ent.frD (X := .fro gr cs :: X) hl' (by simp) (by simpa using hk) (by simpa using hl) ?_
  simp only [List.length_append, List.length_singleton]; rw [blksBel_append]; exact ⟨hp, by simp only [Blk.bel, bels_append]; exact ⟨hL, by simp only [bels, AV.bel]; exact ⟨hcs, trivial⟩⟩, trivial⟩

theorem r21_Reached (d e : Den) (hd : rightS d = true) (he : rightS e = true) (hk : d.tracks.length = e.tracks.length) :
    Pure Tryz.prog 21 [.agg (d.cells ++ e.cells)] (.sl .any (rchL d e).length (rowsA (rchL d e))) := by
  have hpd := right_pos hd
  have hpe := right_pos he
  obtain ⟨k6, _, _, d256⟩ := tracksS_parts (rightS_parts hd).1
  obtain ⟨_, _, _, e256⟩ := tracksS_parts (rightS_parts he).1
  have hK64 : 2 ^ d.tracks.length ≤ 64 := by have : 2 ^ d.tracks.length ≤ 2 ^ 6 := Nat.pow_le_pow_right (by omega) k6; omega
  have hNN : d.accept.length * e.accept.length ≤ 256 * 256 := Nat.mul_le_mul (by omega) (by omega)
  have hst : ∀ x a, x < d.accept.length * e.accept.length → a < 2 ^ d.tracks.length → stC d e x a < d.accept.length * e.accept.length := fun x a hx ha => by
    obtain ⟨h1, h2⟩ := divmod_lt hx hpe
    exact pair_lt (stepN_ok hd h1 ha).2.2.2 (stepN_ok he h2 (by rw [← hk]; exact ha)).2.2.2
  have hwm : IntKind.wrap .i64 ((d.accept.length : Int) * (e.accept.length : Int)) = ((d.accept.length * e.accept.length : Nat) : Int) := by
    rw [IntWalk.i64_in _ (by omega), Int.natCast_mul]
  have hpos : 0 < d.accept.length * e.accept.length := Nat.mul_pos hpd hpe
  rw [rchL]
  obtain ⟨N, hN⟩ : ∃ N, d.accept.length * e.accept.length = N := ⟨_, rfl⟩
  rw [hN] at hNN hst hwm hpos ⊢
  obtain ⟨K, hK⟩ : ∃ K, 2 ^ d.tracks.length = K := ⟨_, rfl⟩
  have hK' : 2 ^ e.tracks.length = K := by rw [← hk, hK]
  have hrow : ∀ x, x < N → ∃ r1 r2, d.next[x / e.accept.length]? = some r1 ∧ e.next[x % e.accept.length]? = some r2 ∧ r1.2.length = K ∧ r2.2.length = K ∧ x / e.accept.length < d.next.length ∧ x % e.accept.length < e.next.length ∧
      ∀ a, a < K → ∃ c1 c2 : Nat, r1.2[a]? = some (c1 : Int) ∧ r2.2[a]? = some (c2 : Int) ∧ c1 * e.accept.length + c2 = stC d e x a ∧ c1 < 256 ∧ c2 < 256 := fun x hx => by
    obtain ⟨h1, h2⟩ := divmod_lt (hN ▸ hx) hpe
    obtain ⟨s1, _⟩ := stepN_ok hd h1 (show 0 < 2 ^ d.tracks.length from Nat.two_pow_pos _)
    obtain ⟨t1, _⟩ := stepN_ok he h2 (show 0 < 2 ^ e.tracks.length from Nat.two_pow_pos _)
    have l1 := (rowOk_parts ((rightS_parts hd).2.2 _ (List.getElem_mem s1))).1
    have l2 := (rowOk_parts ((rightS_parts he).2.2 _ (List.getElem_mem t1))).1
    refine ⟨_, _, List.getElem?_eq_getElem s1, List.getElem?_eq_getElem t1, by rw [l1, hK], by rw [l2, hK'], s1, t1, fun a ha => ?_⟩
    obtain ⟨_, a1, a2, a3⟩ := stepN_ok hd h1 (show a < 2 ^ d.tracks.length by rw [hK]; exact ha)
    obtain ⟨_, b1, b2, b3⟩ := stepN_ok he h2 (show a < 2 ^ e.tracks.length by rw [hK']; exact ha)
    exact ⟨_, _, by rw [List.getElem?_eq_getElem a1, a2], by rw [List.getElem?_eq_getElem b1, b2], rfl, by omega, by omega⟩
  rw [hK] at hst hK64 ⊢
  obtain ⟨n, hn⟩ : ∃ n, e.accept.length = n := ⟨_, rfl⟩
  generalize hfs : stC d e = st at *
  obtain ⟨LL, hL⟩ : ∃ LL, lvL K st (N + 2) [] [0] = LL := ⟨_, rfl⟩
  rw [hL]
  refine Pure.of_sw 96 Tryz.func21 rfl Tryz.ntmps21 (by kernel_rfl) (Nat.le_of_ble_eq_true (by kernel_rfl)) (by simp [closeds, AV.closed, aSs_closed, aIs_closed, aBs_closed, aRs_closed, aDen_closed, aCs_closed, aAut_closed]) (by simp [AV.closed, closeds, aSs_closed, aIs_closed, aBs_closed, aRs_closed, aDen_closed, aCs_closed, aAut_closed]) ?_; refine SW.of_vc ?_
  repeat first | refine opsStep ?_ | refine codeStep ?_ | refine drawStep ?_
  refine guardE_of ⟨by show 0 ≤ IntKind.wrap .i64 _; rw [hwm]; omega, Int.le_refl _, by show (1 : Int) * IntKind.wrap .i64 _ ≤ _; rw [hwm]; omega, by show IntKind.wrap .i64 _ ≤ _; rw [hwm]; omega⟩ ?_
  repeat first | refine opsStep ?_ | refine codeStep ?_ | refine drawStep ?_
  have hm0 : Ent ⟨96, 0⟩ (fr [(1, .ref 0 0 0), (3, .int .i64 (e.accept.length : Nat)), (4, .hs 1 0 0 N 1), (5, .hs 2 0 0 1 1), (6, .sl .nil 0 [])]) [.cells 0 (d.cells ++ e.cells), .cells 0 ((metB N []).map .bool), .cells 0 [.int .i64 0]]
      (fr [(1, .ref 0 0 0), (3, .int .i64 (e.accept.length : Nat)), (4, .hs 1 0 0 N 1), (5, .sl .any 1 (iW [0])), (6, .hs 2 0 0 0 1)]) [.cells 0 (d.cells ++ e.cells), .cells 0 ((metB N []).map .bool), .cells 0 []] := by
    refine (Ent.freeze (b := 2) (g := 0) (n := 1) (es := 1) (cs := [.int .i64 0]) 5 rfl rfl rfl).trans ?_
    refine (Ent.frD (l := [(1, .ref 0 0 0), (3, .int .i64 (e.accept.length : Nat)), (4, .hs 1 0 0 N 1), (5, .sl .any 1 [.int .i64 0]), (6, .sl .nil 0 [])]) (H' := [.cells 0 (d.cells ++ e.cells), .cells 0 ((metB N []).map .bool)]) (X := [.fro 0 [.int .i64 0]]) ⟨(by kernel_rfl), (by kernel_rfl), (by kernel_rfl), (by kernel_rfl), (by kernel_rfl), trivial⟩ (by kernel_rfl) (Nat.zero_le _) (by simp [frBel, AV.bel, bels]) (by simp [blksBel, Blk.bel, bels_append, cells_bel, bels_map, AV.bel])).trans ?_
    exact (Ent.nil 6 1 rfl).trans (Ent.fr' ⟨(by kernel_rfl), (by kernel_rfl), (by kernel_rfl), (by kernel_rfl), (by kernel_rfl), trivial⟩ (by kernel_rfl))
  refine loopE_of (ι := {x : List Nat × List Nat × List (List Nat) × Nat // x.2.2.1 ++ lvL K st x.2.2.2 x.1 x.2.1 = LL ∧ lvEnough N x.2.2.2 x.1 x.2.1 ∧ (∀ y ∈ x.1, y < N) ∧ (∀ y ∈ x.2.1, y < N) ∧ x.1.Nodup ∧ x.2.2.1.length + x.2.2.2 = N + 2 ∧ x.2.1.length ≤ N})
    (fun x => (fr [(1, .ref 0 0 0), (3, .int .i64 (e.accept.length : Nat)), (4, .hs 1 0 0 N 1), (5, .sl .any x.1.2.1.length (iW x.1.2.1)), (6, .hs 2 x.1.2.2.1.length 0 x.1.2.2.1.length 1)], [.cells 0 (d.cells ++ e.cells), .cells 0 ((metB N x.1.1).map .bool), .cells x.1.2.2.1.length (rowsA x.1.2.2.1)])) (fun x => x.1.2.2.2)
    ⟨([], [0], [], N + 2), hL, .inr (by simp), by simp, by simpa using hpos, List.nodup_nil, by simp, by show 1 ≤ N; omega⟩ (((Ent.fr' (l := [(1, .ref 0 0 0), (3, .int .i64 (e.accept.length : Nat)), (4, .hs 1 0 0 N 1), (5, .hs 2 0 0 1 1), (6, .sl .nil 0 [])]) (H' := [.cells 0 (d.cells ++ e.cells), .cells 0 ((metB N []).map .bool), .cells 0 [.int .i64 0]]) ⟨(by kernel_rfl), (by kernel_rfl), ?_, (by kernel_rfl), (by kernel_rfl), trivial⟩ ?_).trans hm0).trans (Ent.fr' ⟨(by kernel_rfl), (by kernel_rfl), (by kernel_rfl), (by kernel_rfl), (by kernel_rfl), trivial⟩ (by kernel_rfl))) ?_
  · refine Eq.trans (b := .hs 1 0 0 (IntKind.wrap .i64 ((d.accept.length : Int) * (e.accept.length : Int))).toNat 1) (by kernel_rfl) ?_
    rw [hwm]; simp
  · refine Eq.trans (b := [.cells 0 (d.cells ++ e.cells), .cells 0 (reps [.bool false] (IntKind.wrap .i64 ((d.accept.length : Int) * (e.accept.length : Int))).toNat), .cells 0 [.int .i64 0]]) (by kernel_rfl) ?_
    rw [hwm, reps_one, metB_nil]; simp
  rintro ⟨⟨M, last, out, fuel⟩, hout, hen, hMN, hlN, hMd, hofl, hll⟩
  simp only at hout hen hMN hlN hMd hofl hll
  repeat first | refine opsStep ?_ | refine codeStep ?_ | refine drawStep ?_
  refine decB_dec (fun h => ?_) (fun h => ?_)
  · have hlast : last ≠ [] := by intro e; subst e; simp at h
    obtain ⟨f, rfl⟩ : ∃ f, fuel = f + 1 := by rcases hen with h' | h'; exact absurd h' hlast; exact ⟨fuel - 1, by omega⟩
    have hSN : ∀ y ∈ lvS K st M last, y < N := fun y hy => by
      rcases (lvS_mem K st M last y).1 hy with h | ⟨x, hx, a, ha, rfl⟩
      · exact hMN y h
      · exact hst x a (hlN x hx) ha
    have hSd : (lvS K st M last).Nodup := metL_nodup _ _ hMd
    have hSl : (lvS K st M last).length ≤ N := nodup_le hSd hSN
    have hen' := hen.next K st hlast hSl
    rw [lvL_cons K st hlast] at hout
    have hpre := lvS_pre K st M last
    obtain ⟨nx, hnx⟩ : ∃ nx, (lvS K st M last).drop M.length = nx := ⟨_, rfl⟩
    have hmetle : ∀ (l : List Nat) (m : Nat), lvS K st M last = metL M l → (metL M (l.take m)).length ≤ N := fun l m e => by
      obtain ⟨r, hr⟩ := metL_prefix (l.drop m) (metL M (l.take m))
      rw [← metL_append, List.take_append_drop, ← e] at hr
      rw [hr, List.length_append] at hSl
      omega
    repeat first | refine opsStep ?_ | refine codeStep ?_ | refine drawStep ?_
    refine loopE_of (ι := {x : Nat × List Nat // M ++ x.2 = metL M ((last.take x.1).flatMap (tosC K st)) ∧ x.1 ≤ last.length})
      (fun x => (fr [(1, .ref 0 0 0), (3, .int .i64 (e.accept.length : Nat)), (4, .hs 1 0 0 N 1), (5, .sl .any last.length (iW last)), (6, .hs 2 out.length 0 out.length 1), (7, .hs 3 x.1.2.length 0 x.1.2.length 1), (8, .int .i64 (x.1.1 : Nat))],
        [.cells 0 (d.cells ++ e.cells), .cells 0 ((metB N (M ++ x.1.2)).map .bool), .cells out.length (rowsA out), .cells x.1.2.length (iW x.1.2)])) (fun x => last.length - x.1.1)
      ⟨(0, []), by simp [metL], Nat.zero_le _⟩
      (((Ent.fr' (l := [(1, .ref 0 0 0), (3, .int .i64 (e.accept.length : Nat)), (4, .hs 1 0 0 N 1), (5, .sl .any last.length (iW last)), (6, .hs 2 out.length 0 out.length 1), (7, .sl .nil 0 []), (8, .int .i64 (0 : Nat))]) (H' := [.cells 0 (d.cells ++ e.cells), .cells 0 ((metB N M).map .bool), .cells out.length (rowsA out)]) ⟨(by kernel_rfl), (by kernel_rfl), (by kernel_rfl), (by kernel_rfl), (by kernel_rfl), (by kernel_rfl), (by kernel_rfl), trivial⟩ (by kernel_rfl)).trans (Ent.nil 7 1 rfl)).trans (Ent.fr' ⟨(by kernel_rfl), (by kernel_rfl), (by kernel_rfl), (by kernel_rfl), (by kernel_rfl), (by kernel_rfl), (by kernel_rfl), trivial⟩ ?_)) ?_
    · refine Eq.trans (b := [.cells 0 (d.cells ++ e.cells), .cells 0 ((metB N M).map .bool), .cells out.length (rowsA out), .cells 0 []]) (by kernel_rfl) ?_
      show _ = [Blk.cells 0 (d.cells ++ e.cells), Blk.cells 0 ((metB N (M ++ [])).map .bool), Blk.cells out.length (rowsA out), Blk.cells 0 []]
      rw [List.append_nil]
    rintro ⟨⟨i, nx1⟩, hnx1, hi⟩
    simp only at hnx1 hi
    have hM1N : ∀ y ∈ M ++ nx1, y < N := fun y hy => by
      rw [hnx1] at hy
      rcases (metL_mem y _ M).1 hy with h | h
      · exact hMN y h
      · obtain ⟨x, hx, ha⟩ := List.mem_flatMap.1 h
        obtain ⟨a, ha1, rfl⟩ := List.mem_map.1 ha
        exact hst x a (hlN x (List.mem_of_mem_take hx)) (List.mem_range.1 ha1)
    have hM1d : (M ++ nx1).Nodup := by rw [hnx1]; exact metL_nodup _ _ hMd
    have hM1l := nodup_le hM1d hM1N
    repeat first | refine opsStep ?_ | refine codeStep ?_ | refine drawStep ?_
    refine decB_dec (fun hi2 => ?_) (fun hi2 => ?_)
    · have hil : i < last.length := by have := hi2; simp at this; omega
      have hx := hlN _ (List.getElem_mem hil)
      have hgx : (iW last)[i]? = some (.int .i64 (last[i] : Nat)) := by simp [iW, hil]
      have htk : last.take (i + 1) = last.take i ++ [last[i]] := List.take_succ_eq_append_getElem hil
      generalize last[i] = x at *
      obtain ⟨r1, r2, g1, g2, g3, g4, g5, g6, g7⟩ := hrow x hx
      have hn0 : ¬ ((e.accept.length : Nat) : Int) = 0 := by omega
      have w1 : IntKind.wrap .i64 (((x : Nat) : Int).tdiv (e.accept.length : Nat)) = ((x / e.accept.length : Nat) : Int) := by
        rw [show ((x : Nat) : Int).tdiv (e.accept.length : Nat) = ((x / e.accept.length : Nat) : Int) from rfl]
        have := Nat.div_le_self x e.accept.length
        generalize x / e.accept.length = y at *
        rw [IntWalk.i64_in _ (by omega)]
      have w2 : ((x : Nat) : Int).tmod (e.accept.length : Nat) = ((x % e.accept.length : Nat) : Int) := rfl
      generalize x / e.accept.length = p1 at *
      generalize x % e.accept.length = p2 at *
      repeat first | refine opsStep ?_ | refine codeStep ?_ | refine drawStep ?_
      refine SW.drawn rfl (by kernel_rfl) ?_
      repeat first | refine opsStep ?_ | refine codeStep ?_ | refine drawStep ?_
      refine guardE_of (by simp [iW_length]; omega) ?_
      repeat first | refine opsStep ?_ | refine codeStep ?_ | refine drawStep ?_
      refine optE_of (c := .int .i64 (x : Nat)) (by simpa [Value.cells] using hgx) ?_
      repeat first | refine opsStep ?_ | refine codeStep ?_ | refine drawStep ?_
      refine optE_of (c := .int .i64 p1) (by show (if ((e.accept.length : Nat) : Int) = 0 then none else some (AV.int .i64 (IntKind.wrap .i64 (((x : Nat) : Int).tdiv (e.accept.length : Nat))))) = _; rw [if_neg hn0, w1]) ?_
      repeat first | refine opsStep ?_ | refine codeStep ?_ | refine drawStep ?_
      refine guardE_of (by simp [iW_length]; omega) ?_
      repeat first | refine opsStep ?_ | refine codeStep ?_ | refine drawStep ?_
      refine optE_of (c := .int .i64 (x : Nat)) (by simpa [Value.cells] using hgx) ?_
      repeat first | refine opsStep ?_ | refine codeStep ?_ | refine drawStep ?_
      refine optE_of (c := .int .i64 p2) (by show (if ((e.accept.length : Nat) : Int) = 0 then none else some (AV.int .i64 (((x : Nat) : Int).tmod (e.accept.length : Nat)))) = _; rw [if_neg hn0, w2]) ?_
      repeat first | refine opsStep ?_ | refine codeStep ?_ | refine drawStep ?_
      refine ⟨by kernel_rfl, ?_⟩
      repeat first | refine opsStep ?_ | refine codeStep ?_ | refine drawStep ?_
      refine loopE_of (ι := {y : Nat × List Nat // M ++ y.2 = metL (M ++ nx1) ((tosC K st x).take y.1) ∧ y.1 ≤ K})
        (fun y => (fr [(1, .ref 0 0 0), (3, .int .i64 (e.accept.length : Nat)), (4, .hs 1 0 0 N 1), (5, .sl .any last.length (iW last)), (6, .hs 2 out.length 0 out.length 1), (7, .hs 3 y.1.2.length 0 y.1.2.length 1), (8, .int .i64 (i : Nat)), (9, .int .i64 p1), (10, .int .i64 p2), (11, .int .i64 (y.1.1 : Nat))],
          [.cells 0 (d.cells ++ e.cells), .cells 0 ((metB N (M ++ y.1.2)).map .bool), .cells out.length (rowsA out), .cells y.1.2.length (iW y.1.2)])) (fun y => K - y.1.1)
        ⟨(0, nx1), by simp [metL], Nat.zero_le _⟩ (Ent.fr' ⟨(by kernel_rfl), (by kernel_rfl), (by kernel_rfl), (by kernel_rfl), (by kernel_rfl), (by kernel_rfl), (by kernel_rfl), (by kernel_rfl), (by kernel_rfl), (by kernel_rfl), trivial⟩ (by kernel_rfl)) ?_
      rintro ⟨⟨a, nx2⟩, hnx2, ha⟩
      simp only at hnx2 ha
      have hM2N : ∀ y ∈ M ++ nx2, y < N := fun y hy => by
        rw [hnx2] at hy
        rcases (metL_mem y _ _).1 hy with h | h
        · exact hM1N y h
        · obtain ⟨a, ha1, rfl⟩ := List.mem_map.1 (List.mem_of_mem_take h)
          exact hst x a hx (List.mem_range.1 ha1)
      have hM2d : (M ++ nx2).Nodup := by rw [hnx2]; exact metL_nodup _ _ hM1d
      have hM2l := nodup_le hM2d hM2N
      rw [List.length_append] at hM2l
      repeat first | refine opsStep ?_ | refine codeStep ?_ | refine drawStep ?_
      refine guardE_of (by simp; omega) ?_
      repeat first | refine opsStep ?_ | refine codeStep ?_ | refine drawStep ?_
      refine optE_of (c := aIs r1.1 r1.2) (by simp [Value.cells, g1]) ?_
      repeat first | refine opsStep ?_ | refine codeStep ?_ | refine drawStep ?_
      refine decB_dec (fun ha2 => ?_) (fun ha2 => ?_)
      · have hal : a < K := by rw [← g3]; exact Int.ofNat_lt.1 (show ((a : Nat) : Int) < ((r1.2.length : Nat) : Int) from ha2)
        obtain ⟨c1, c2, q1, q2, q3, q4, q5⟩ := g7 a hal
        have hto := hst x a hx hal
        have htl : (tosC K st x).length = K := tosC_length K st x
        have hta : (tosC K st x)[a]'(by rw [htl]; exact hal) = st x a := tosC_get K st x a _
        have hhit := metL_at_hit (acc := M ++ nx1) (l := tosC K st x) (a := a) (by rw [htl]; exact hal)
        have hmiss := metL_at_miss (acc := M ++ nx1) (l := tosC K st x) (a := a) (by rw [htl]; exact hal)
        rw [hta, ← hnx2] at hhit hmiss
        have hmg := metB_get (M := M ++ nx2) hto
        have hms := metB_set N (M ++ nx2) (st x a)
        have hcb : c1 * e.accept.length ≤ 256 * 256 := Nat.mul_le_mul (by omega) (by omega)
        have w3 : IntKind.wrap .i64 ((c1 : Int) * (e.accept.length : Int)) = ((c1 * e.accept.length : Nat) : Int) := by
          rw [← Int.natCast_mul]
          generalize c1 * e.accept.length = z at *
          rw [IntWalk.i64_in _ (by omega)]
        have w4 : IntKind.wrap .i64 (((c1 * e.accept.length : Nat) : Int) + (c2 : Int)) = ((st x a : Nat) : Int) := by
          rw [← Int.natCast_add, q3, IntWalk.i64_in _ (by omega)]
        generalize st x a = to at *
        repeat first | refine opsStep ?_ | refine codeStep ?_ | refine drawStep ?_
        refine SW.drawn rfl (by kernel_rfl) ?_
        repeat first | refine opsStep ?_ | refine codeStep ?_ | refine drawStep ?_
        refine guardE_of (by simp; omega) ?_
        repeat first | refine opsStep ?_ | refine codeStep ?_ | refine drawStep ?_
        refine optE_of (c := aIs r1.1 r1.2) (by simp [Value.cells, g1]) ?_
        repeat first | refine opsStep ?_ | refine codeStep ?_ | refine drawStep ?_
        refine guardE_of (by simp; omega) ?_
        repeat first | refine opsStep ?_ | refine codeStep ?_ | refine drawStep ?_
        refine optE_of (c := .int .i64 (c1 : Nat)) (by simp [Value.cells, q1]) ?_
        repeat first | refine opsStep ?_ | refine codeStep ?_ | refine drawStep ?_
        refine guardE_of (by simp; omega) ?_
        repeat first | refine opsStep ?_ | refine codeStep ?_ | refine drawStep ?_
        refine optE_of (c := aIs r2.1 r2.2) (by simp [Value.cells, g2]) ?_
        repeat first | refine opsStep ?_ | refine codeStep ?_ | refine drawStep ?_
        refine guardE_of (by simp; omega) ?_
        repeat first | refine opsStep ?_ | refine codeStep ?_ | refine drawStep ?_
        refine optE_of (c := .int .i64 (c2 : Nat)) (by simp [Value.cells, q2]) ?_
        repeat first | refine opsStep ?_ | refine codeStep ?_ | refine drawStep ?_
        refine ⟨by kernel_rfl, ?_⟩
        refine VCode.ent (Ent.fr' (l := [(1, .ref 0 0 0), (3, .int .i64 (e.accept.length : Nat)), (4, .hs 1 0 0 N 1), (5, .sl .any last.length (iW last)), (6, .hs 2 out.length 0 out.length 1), (7, .hs 3 nx2.length 0 nx2.length 1), (8, .int .i64 (i : Nat)), (9, .int .i64 p1), (10, .int .i64 p2), (11, .int .i64 (a : Nat)), (12, .int .i64 (to : Nat))]) (H' := [.cells 0 (d.cells ++ e.cells), .cells 0 ((metB N (M ++ nx2)).map .bool), .cells out.length (rowsA out), .cells nx2.length (iW nx2)]) ⟨(by kernel_rfl), (by kernel_rfl), (by kernel_rfl), (by kernel_rfl), (by kernel_rfl), (by kernel_rfl), (by kernel_rfl), (by kernel_rfl), (by kernel_rfl), (by kernel_rfl), (Eq.trans (b := .int .i64 (IntKind.wrap .i64 (IntKind.wrap .i64 ((c1 : Int) * (e.accept.length : Int)) + (c2 : Int)))) (by kernel_rfl) (by rw [w3, w4])), trivial⟩ (by kernel_rfl)) ?_
        have hmlen := metB_length N (M ++ nx2)
        by_cases hm : to ∈ M ++ nx2
        · obtain ⟨hh, _⟩ := hhit hm
          rw [decide_eq_true hm] at hmg
          repeat first | refine opsStep ?_ | refine codeStep ?_ | refine drawStep ?_
          refine guardE_of (by simp; omega) ?_
          repeat first | refine opsStep ?_ | refine codeStep ?_ | refine drawStep ?_
          refine optE_of (c := .bool true) (by simpa [Value.cells] using hmg) ?_
          repeat first | refine opsStep ?_ | refine codeStep ?_ | refine drawStep ?_
          exact ⟨⟨(a + 1, nx2), hh.symm, hal⟩, (by show K - (a + 1) < K - a; omega), Ent.fr' ⟨(by kernel_rfl), (by kernel_rfl), (by kernel_rfl), (by kernel_rfl), (by kernel_rfl), (by kernel_rfl), (by kernel_rfl), (by kernel_rfl), (by kernel_rfl), inc_slot (i := a) (by omega), trivial⟩ (by kernel_rfl)⟩
        · obtain ⟨hh, _⟩ := hmiss hm
          rw [decide_eq_false hm] at hmg
          repeat first | refine opsStep ?_ | refine codeStep ?_ | refine drawStep ?_
          refine guardE_of (by simp; omega) ?_
          repeat first | refine opsStep ?_ | refine codeStep ?_ | refine drawStep ?_
          refine optE_of (c := .bool false) (by simpa [Value.cells] using hmg) ?_
          repeat first | refine opsStep ?_ | refine codeStep ?_ | refine drawStep ?_
          refine guardE_of (by simp; omega) ?_
          repeat first | refine opsStep ?_ | refine codeStep ?_ | refine drawStep ?_
          refine guardE_of ⟨rfl, by decide, by show 0 + to * 1 + 1 ≤ ((metB N (M ++ nx2)).map AV.bool).length; rw [List.length_map, hmlen]; omega⟩ ?_
          repeat first | refine opsStep ?_ | refine codeStep ?_ | refine drawStep ?_
          refine guardE_of ⟨rfl, by simp [iW_length]⟩ ?_
          refine guardE_of rfl ?_
          refine guardE_of ⟨by show nx2.length + 1 ≤ 9223372036854775807; omega, by show (nx2.length + 1) * 8 ≤ 140737488355328; omega⟩ ?_
          repeat first | refine opsStep ?_ | refine codeStep ?_ | refine drawStep ?_
          refine ⟨⟨(a + 1, nx2 ++ [to]), by rw [hh, List.append_assoc], hal⟩, (by show K - (a + 1) < K - a; omega), ?_⟩
          refine Ent.to (Ent.frT (H' := [.cells 0 (d.cells ++ e.cells), .cells 0 (over ((metB N (M ++ nx2)).map .bool) (0 + to * 1) [.bool true]), .cells out.length (rowsA out), .cells (nx2.length + 1) (((iW nx2).drop 0).take (nx2.length * 1) ++ [.int .i64 (to : Nat)])]) 4 ⟨(by kernel_rfl), (by kernel_rfl), (by kernel_rfl), (by kernel_rfl), (by kernel_rfl), ?_, (by kernel_rfl), (by kernel_rfl), (by kernel_rfl), inc_slot (i := a) (by omega), trivial⟩ (by kernel_rfl) (Nat.zero_le _) (by simp [frBel, AV.bel, bels, iW_bel]) ?_) ?_
          · refine Eq.trans (b := .hs 3 (nx2.length + 1) 0 (nx2.length + 1) 1) (by kernel_rfl) ?_
            simp
          · simp only [blksBel, Blk.bel, bels_append]
            exact ⟨⟨cells_bel _ _, cells_bel _ _⟩, by rw [Nat.zero_add, Nat.mul_one, over_one (by rw [List.length_map, hmlen]; exact hto), show AV.bool true = AV.bool true from rfl, ← List.map_set, bels_map]; intro x _; trivial, rowsA_bel _ _, ⟨bels_td (iW_bel _ _), by simp [bels, AV.bel]⟩, trivial⟩
          · rw [td_all (l := iW nx2) (by rw [iW_length]; omega), Nat.zero_add, Nat.mul_one, over_one (by rw [List.length_map, hmlen]; exact hto), ← List.map_set, hms, ← iW_snoc]
            show _ = [Blk.cells 0 (d.cells ++ e.cells), Blk.cells 0 ((metB N (M ++ (nx2 ++ [to]))).map .bool), Blk.cells out.length (rowsA out), Blk.cells (nx2 ++ [to]).length (iW (nx2 ++ [to]))]
            rw [List.append_assoc, List.length_append, List.length_singleton]
      · have hae : a = K := by
          have : ¬ a < r1.2.length := fun h => ha2 (show ((a : Nat) : Int) < ((r1.2.length : Nat) : Int) from Int.ofNat_lt.2 h)
          omega
        subst hae
        rw [List.take_of_length_le (by rw [tosC_length]; exact Nat.le_refl _)] at hnx2
        repeat first | refine opsStep ?_ | refine codeStep ?_ | refine drawStep ?_
        refine ⟨⟨(i + 1, nx2), ?_, hil⟩, (by show last.length - (i + 1) < last.length - i; omega), Ent.fr' ⟨(by kernel_rfl), (by kernel_rfl), (by kernel_rfl), (by kernel_rfl), (by kernel_rfl), (by kernel_rfl), inc_slot (i := i) (by omega), trivial⟩ (by kernel_rfl)⟩
        show M ++ nx2 = metL M ((last.take (i + 1)).flatMap (tosC a st))
        rw [htk, List.flatMap_append, metL_append, ← hnx1, hnx2]
        simp
    · have hie : i = last.length := by have := hi2; simp at this; omega
      subst hie
      rw [List.take_length] at hnx1
      have hnxe : (lvS K st M last).drop M.length = nx1 := by rw [lvS, ← hnx1]; simp
      have hSe : lvS K st M last = M ++ nx1 := by rw [hpre, hnxe]
      rw [hnxe, hSe] at hout
      rw [hnxe, hSe] at hen'
      rw [List.length_append] at hM1l
      repeat first | refine opsStep ?_ | refine codeStep ?_ | refine drawStep ?_
      refine guardE_of ⟨rfl, by simp [rowsA]⟩ ?_
      refine guardE_of rfl ?_
      refine guardE_of ⟨by show out.length + 1 ≤ 9223372036854775807; omega, by show (out.length + 1) * 24 ≤ 140737488355328; omega⟩ ?_
      repeat first | refine opsStep ?_ | refine codeStep ?_ | refine drawStep ?_
      refine ⟨⟨(M ++ nx1, nx1, out ++ [nx1], f), by simp only; rw [← hout, List.append_assoc]; rfl, hen', hM1N, fun y hy => hM1N y (by simp [hy]), hM1d, by simp only [List.length_append, List.length_singleton]; omega, by simp only; omega⟩, (by show f < f + 1; omega), ?_⟩
      refine Ent.rowBoth (l := [(1, .ref 0 0 0), (3, .int .i64 (e.accept.length : Nat)), (4, .hs 1 0 0 N 1), (5, .hs 3 nx1.length 0 nx1.length 1), (6, .hs 2 (out ++ [nx1]).length 0 (out ++ [nx1]).length 1)]) (gb := out.length + 1) (gr := nx1.length) (n := nx1.length) (es := 1) (r := 3) (L := rowsA out) (cs := iW nx1) 5 [.cells 0 (d.cells ++ e.cells), .cells 0 ((metB N (M ++ nx1)).map .bool)]
        ⟨(by kernel_rfl), (by kernel_rfl), (by kernel_rfl), (by kernel_rfl), ?_, trivial⟩ (by kernel_rfl) ?_ (by kernel_rfl) rfl (by kernel_rfl) (by rw [iW_length, Nat.mul_one]) ⟨(by kernel_rfl), (by kernel_rfl), (by kernel_rfl), (by kernel_rfl), (by kernel_rfl), trivial⟩ (Nat.zero_le _) (by simp [frBel, AV.bel, bels, iW_bel]) ?_ (rowsA_bel _ _) (iW_bel _ _) ?_
      · refine Eq.trans (b := .hs 2 (out.length + 1) 0 (out.length + 1) 1) (by kernel_rfl) ?_
        rw [List.length_append, List.length_singleton]
      · refine Eq.trans (b := some (.cells (out.length + 1) (((rowsA out).drop 0).take (out.length * 1) ++ [.hs 3 nx1.length 0 nx1.length 1]))) (by kernel_rfl) ?_
        rw [td_all (l := rowsA out) (by simp [rowsA])]
      · simp only [blksBel, Blk.bel, bels_append]
        exact ⟨⟨cells_bel _ _, cells_bel _ _⟩, by rw [bels_map]; intro x _; trivial, trivial⟩
      · show _ = [Blk.cells 0 (d.cells ++ e.cells), Blk.cells 0 ((metB N (M ++ nx1)).map .bool), Blk.cells (out ++ [nx1]).length (rowsA (out ++ [nx1]))]
        simp [rowsA, rowA]
  · have hlast : last = [] := by
      have h' : ¬ 0 < last.length := fun h' => h (show ((last.length : Nat) : Int) > 0 by omega)
      exact List.length_eq_zero_iff.1 (by omega)
    subst hlast
    rw [lvL_nil, List.append_nil] at hout
    subst hout
    repeat first | refine opsStep ?_ | refine codeStep ?_ | refine drawStep ?_
    exact finFrz 2 (b := 2) (g := out.length) (es := 1) (by kernel_rfl) (by kernel_rfl) (by simp [rowsA]) rfl

end Tab

/- tabardref21: Length, walked; what it says. -/
namespace Tab
open Go Go.Proofs
set_option maxRecDepth 10000
set_option linter.unusedVariables false
set_option linter.unusedSimpArgs false
set_option linter.unusedSectionVars false

theorem stC_code {d e : Den} {p : N2} (hp : p.2 < e.accept.length) (a : Nat) : stC d e (p.1 * e.accept.length + p.2) a = (stp d e p a).1 * e.accept.length + (stp d e p a).2 := by
  have h1 : (p.1 * e.accept.length + p.2) / e.accept.length = p.1 := by rw [Nat.mul_comm, Nat.mul_add_div (by omega), Nat.div_eq_of_lt hp]; omega
  have h2 : (p.1 * e.accept.length + p.2) % e.accept.length = p.2 := by rw [Nat.mul_comm, Nat.mul_add_mod, Nat.mod_eq_of_lt hp]
  rw [stC, h1, h2]; rfl
theorem tellC_code {d e : Den} {p : N2} (q : Int) (hp : p.2 < e.accept.length) : tellC d e q (p.1 * e.accept.length + p.2) = askP d e (askQ q) p := by
  have h1 : (p.1 * e.accept.length + p.2) / e.accept.length = p.1 := by rw [Nat.mul_comm, Nat.mul_add_div (by omega), Nat.div_eq_of_lt hp]; omega
  have h2 : (p.1 * e.accept.length + p.2) % e.accept.length = p.2 := by rw [Nat.mul_comm, Nat.mul_add_mod, Nat.mod_eq_of_lt hp]
  rw [tellC, h1, h2]; rfl
theorem stp_ok {d e : Den} (hd : rightS d = true) (he : rightS e = true) (hk : d.tracks.length = e.tracks.length) {p : N2} {a : Nat} (hp : okP d e p) (ha : a < 2 ^ d.tracks.length) : okP d e (stp d e p a) :=
  ⟨(stepN_ok hd hp.1 ha).2.2.2, (stepN_ok he hp.2 (by rw [← hk]; exact ha)).2.2.2⟩
theorem runC_code {d e : Den} (hd : rightS d = true) (he : rightS e = true) (hk : d.tracks.length = e.tracks.length) : ∀ (w : List Nat) (p : N2), okP d e p → (∀ x ∈ w, x < 2 ^ d.tracks.length) →
    okP d e (w.foldl (stp d e) p) ∧ w.foldl (stC d e) (p.1 * e.accept.length + p.2) = (w.foldl (stp d e) p).1 * e.accept.length + (w.foldl (stp d e) p).2
  | [], p, hp, _ => ⟨hp, rfl⟩
  | a :: w, p, hp, hw => by
    have hs := stp_ok hd he hk hp (hw a (by simp))
    simp only [List.foldl_cons]
    rw [stC_code hp.2]
    exact runC_code hd he hk w _ hs fun x hx => hw x (by simp [hx])
/-- What is told of the place of a word. -/
theorem tell_word {d e : Den} (hd : rightS d = true) (he : rightS e = true) (hk : d.tracks.length = e.tracks.length) (q : Int) {w : List Nat} (hw : ∀ x ∈ w, x < 2 ^ d.tracks.length) :
    runG (stC d e) 0 w < d.accept.length * e.accept.length ∧ tellC d e q (runG (stC d e) 0 w) = askT d e (askQ q) w := by
  have h0 : okP d e (0, 0) := ⟨right_pos hd, right_pos he⟩
  obtain ⟨h1, h2⟩ := runC_code hd he hk w (0, 0) h0 hw
  have e0 : (0 : Nat) * e.accept.length + 0 = 0 := by omega
  rw [e0] at h2
  rw [runG, h2]
  exact ⟨pair_lt h1.1 h1.2, tellC_code q h1.2⟩

theorem rch_sound {d e : Den} {j : Nat} {row : List Nat} (h : (rchL d e)[j]? = some row) {x : Nat} (hx : x ∈ row) : ∃ w : List Nat, w.length = j + 1 ∧ (∀ a ∈ w, a < 2 ^ d.tracks.length) ∧ runG (stC d e) 0 w = x := by
  rw [rchL] at h
  obtain ⟨w, h1, h2⟩ := lvL_sound _ _ _ 0 _ _ (fun x hx => by simp at hx; subst hx; exact ⟨[], rfl, by simp, rfl⟩) j row h x hx
  exact ⟨w, by omega, h2⟩
theorem rch_cover {d e : Den} (hd : rightS d = true) (he : rightS e = true) (hk : d.tracks.length = e.tracks.length) {v : List Nat} (hv : v ≠ []) (hl : ∀ a ∈ v, a < 2 ^ d.tracks.length) : ∃ (j : Nat) (row : List Nat), (rchL d e)[j]? = some row ∧ runG (stC d e) 0 v ∈ row ∧ j + 1 ≤ v.length := by
  have hpe := right_pos he
  have hpos : 0 < d.accept.length * e.accept.length := Nat.mul_pos (right_pos hd) hpe
  rw [rchL]
  rcases lvL_cover (2 ^ d.tracks.length) (stC d e) (d.accept.length * e.accept.length) (d.accept.length * e.accept.length + 2) [] [0] [] (.inr (by simp)) (by simp) (by simp) (fun _ _ _ _ => trivial) (by simp) (by simpa using hpos) List.nodup_nil
    (fun x a hx ha => by
      obtain ⟨h1, h2⟩ := divmod_lt hx hpe
      exact pair_lt (stepN_ok hd h1 ha).2.2.2 (stepN_ok he h2 (by rw [← hk]; exact ha)).2.2.2) v hv hl 0 (.inr (by simp)) with h | h
  · simp at h
  · exact h
theorem rch_lt {d e : Den} (hd : rightS d = true) (he : rightS e = true) (hk : d.tracks.length = e.tracks.length) {j : Nat} {row : List Nat} (h : (rchL d e)[j]? = some row) {x : Nat} (hx : x ∈ row) : x < d.accept.length * e.accept.length := by
  obtain ⟨w, _, h2, rfl⟩ := rch_sound h hx
  exact (tell_word hd he hk 0 h2).1

theorem lvL_len (K : Nat) (st : Nat → Nat → Nat) : ∀ (n : Nat) (M last : List Nat), (lvL K st n M last).length ≤ n
  | 0, _, _ => by simp [lvL]
  | n + 1, M, last => by
    rw [lvL]
    split
    · simp
    · have := lvL_len K st n (lvS K st M last) ((lvS K st M last).drop M.length)
      simp; exact this
theorem lvL_nodup (K : Nat) (st : Nat → Nat → Nat) : ∀ (n : Nat) (M last : List Nat), M.Nodup → ∀ r ∈ lvL K st n M last, r.Nodup
  | 0, _, _, _, r, h => by simp [lvL] at h
  | n + 1, M, last, hM, r, h => by
    rw [lvL] at h
    split at h
    · simp at h
    · have hS : (lvS K st M last).Nodup := metL_nodup _ _ hM
      rcases List.mem_cons.1 h with h | h
      · rw [h]; exact hS.sublist (List.drop_sublist _ _)
      · exact lvL_nodup K st n _ _ hS r h
theorem rch_small {d e : Den} (hd : rightS d = true) (he : rightS e = true) (hk : d.tracks.length = e.tracks.length) : (rchL d e).length < 2 ^ 40 ∧ ∀ (j : Nat) (r : List Nat), (rchL d e)[j]? = some r → r.length < 2 ^ 40 := by
  obtain ⟨_, _, _, d256⟩ := tracksS_parts (rightS_parts hd).1
  obtain ⟨_, _, _, e256⟩ := tracksS_parts (rightS_parts he).1
  have hNN : d.accept.length * e.accept.length ≤ 256 * 256 := Nat.mul_le_mul (by omega) (by omega)
  refine ⟨?_, fun j r h => ?_⟩
  · have := lvL_len (2 ^ d.tracks.length) (stC d e) (d.accept.length * e.accept.length + 2) [] [0]
    rw [rchL]; omega
  · have h1 := nodup_le (n := d.accept.length * e.accept.length) (by rw [rchL] at h; exact lvL_nodup _ _ _ _ _ List.nodup_nil r (List.mem_of_getElem? h)) fun x hx => rch_lt hd he hk h hx
    omega

/-- The first level with a place that is told of. -/
def levF (p : Nat → Bool) : List (List Nat) → Nat → Nat
  | [], _ => 0
  | r :: L, i => if r.any p = true then i + 1 else levF p L (i + 1)
theorem levF_zero {p : Nat → Bool} : ∀ {L : List (List Nat)} {i : Nat}, levF p L i = 0 ↔ ∀ r ∈ L, r.any p = false
  | [], i => by simp [levF]
  | r :: L, i => by
    rw [levF]
    cases h : r.any p with
    | true =>
      constructor
      · intro h0; rw [if_pos rfl] at h0; omega
      · intro h0; have := h0 r (by simp); rw [h] at this; simp at this
    | false =>
      rw [if_neg (by simp), levF_zero]
      simp only [List.mem_cons, forall_eq_or_imp, h, true_and]
theorem levF_some {p : Nat → Bool} : ∀ {L : List (List Nat)} {i : Nat}, levF p L i ≠ 0 → ∃ j r, levF p L i = i + j + 1 ∧ L[j]? = some r ∧ r.any p = true ∧ ∀ j' r', j' < j → L[j']? = some r' → r'.any p = false
  | [], i, h => by simp [levF] at h
  | r :: L, i, h => by
    rw [levF] at h ⊢
    cases hr : r.any p with
    | true => exact ⟨0, r, by simp, rfl, hr, fun j' _ h => by omega⟩
    | false =>
      rw [hr, if_neg (by simp)] at h
      obtain ⟨j, r', h1, h2, h3, h4⟩ := levF_some h
      refine ⟨j + 1, r', by rw [if_neg (by simp), h1]; omega, by simpa using h2, h3, fun j' r1 hj h5 => ?_⟩
      cases j' with
      | zero => simp at h5; subst h5; exact hr
      | succ j' => exact h4 j' r1 (by omega) (by simpa using h5)
def lenC (d e : Den) (q : Int) : Nat := levF (tellC d e q) (rchL d e) 0
theorem lenC_none {d e : Den} (hd : rightS d = true) (he : rightS e = true) (hk : d.tracks.length = e.tracks.length) (q : Int) (h : cmpO d e (askQ q) = none) : lenC d e q = 0 := by
  have hs := cmpO_spec d e (askQ q) hd he hk
  rw [h] at hs
  refine levF_zero.2 fun r hr => ?_
  obtain ⟨j, hj, e1⟩ := List.getElem_of_mem hr
  rw [List.any_eq_false]
  intro x hx
  obtain ⟨w, h1, h2, rfl⟩ := rch_sound (by rw [List.getElem?_eq_getElem hj, e1]) hx
  rw [(tell_word hd he hk q h2).2, hs w (by intro e; subst e; simp at h1) h2]
  simp
theorem lenC_some {d e : Den} (hd : rightS d = true) (he : rightS e = true) (hk : d.tracks.length = e.tracks.length) (q : Int) {w : List Nat} (h : cmpO d e (askQ q) = some w) : lenC d e q = w.length := by
  have hs := cmpO_spec d e (askQ q) hd he hk
  rw [h] at hs
  obtain ⟨h1, h2, h3, h4⟩ := hs
  obtain ⟨j, row, c1, c2, c3⟩ := rch_cover hd he hk h1 h2
  have hany : row.any (tellC d e q) = true := List.any_eq_true.2 ⟨_, c2, by rw [(tell_word hd he hk q h2).2]; exact h3⟩
  have hne : lenC d e q ≠ 0 := fun e0 => by
    have := levF_zero.1 e0 row (List.mem_of_getElem? c1)
    rw [hany] at this; simp at this
  obtain ⟨j', r', f1, f2, f3, f4⟩ := levF_some hne
  obtain ⟨x, x1, x2⟩ := List.any_eq_true.1 f3
  obtain ⟨u, u1, u2, rfl⟩ := rch_sound f2 x1
  rw [(tell_word hd he hk q u2).2] at x2
  have hle := h4 u (by intro e0; subst e0; simp at u1) u2 x2
  have hwu : w.length ≤ u.length := by
    rcases hle with (h | ⟨h, _⟩) | h
    · omega
    · omega
    · subst h; exact Nat.le_refl _
  have : ¬ j < j' := fun hj => by have := f4 j row hj c1; rw [hany] at this; simp at this
  show levF _ _ 0 = _
  rw [f1]; omega
theorem levF_hit {p : Nat → Bool} : ∀ {L : List (List Nat)} {i j : Nat} {r : List Nat}, L[j]? = some r → r.any p = true → (∀ r' ∈ L.take j, r'.any p = false) → levF p L i = i + j + 1
  | [], _, _, _, h, _, _ => by simp at h
  | r0 :: L, i, 0, r, h, hr, _ => by simp at h; subst h; rw [levF, if_pos hr]
  | r0 :: L, i, j + 1, r, h, hr, hn => by
    rw [levF, hn r0 (by simp), if_neg (by simp), levF_hit (by simpa using h) hr fun r' h' => hn r' (by simp [h'])]
    omega

theorem r21_Length (d e : Den) (q : Int) (hd : rightS d = true) (he : rightS e = true) (hk : d.tracks.length = e.tracks.length) :
    Pure Tryz.prog 9 [.agg (d.cells ++ e.cells), .int .i64 q] (.int .i64 (lenC d e q : Nat)) := by
  have hre := r21_Reached d e hd he hk
  obtain ⟨hL, hR⟩ := rch_small hd he hk
  have htold := fun x hx => r21_told d e q hd he x hx
  have hlt := fun (j : Nat) (row : List Nat) h (x : Nat) hx => rch_lt hd he hk (j := j) (row := row) h (x := x) hx
  rw [lenC]
  generalize rchL d e = L at *
  generalize hp : tellC d e q = p at *
  refine Pure.of_sw 37 Tryz.func9 rfl Tryz.ntmps9 (by kernel_rfl) (Nat.le_of_ble_eq_true (by kernel_rfl)) (by simp [closeds, AV.closed, aSs_closed, aIs_closed, aBs_closed, aRs_closed, aDen_closed, aCs_closed, aAut_closed]) (by simp [AV.closed, closeds, aSs_closed, aIs_closed, aBs_closed, aRs_closed, aDen_closed, aCs_closed, aAut_closed]) ?_; refine SW.of_vc ?_
  repeat first | refine opsStep ?_ | refine codeStep ?_ | refine drawStep ?_
  refine callP hre ?_
  repeat first | refine opsStep ?_ | refine codeStep ?_ | refine drawStep ?_
  refine loopE_of (ι := {i : Nat // i ≤ L.length ∧ ∀ r ∈ L.take i, r.any p = false}) (fun i => (fr [(1, .int .i64 q), (2, .ref 0 0 0), (5, .sl .any L.length (rowsA L)), (6, .int .i64 (i.1 : Nat))], [.cells 0 (d.cells ++ e.cells)])) (fun i => L.length - i.1)
    ⟨0, Nat.zero_le _, by simp⟩ (Ent.fr' ⟨(by kernel_rfl), (by kernel_rfl), (by kernel_rfl), (by kernel_rfl), trivial⟩ (by kernel_rfl)) ?_
  rintro ⟨i, hi, hpre⟩
  repeat first | refine opsStep ?_ | refine codeStep ?_ | refine drawStep ?_
  refine decB_dec (fun h => ?_) (fun h => ?_)
  · have hil : i < L.length := by have := h; simp at this; omega
    have hg : L[i]? = some L[i] := List.getElem?_eq_getElem hil
    have hgr : (rowsA L)[i]? = some (rowA L[i]) := by simp [rowsA, hil]
    have hrl : (rowsA L).length = L.length := by simp [rowsA]
    have htk : L.take (i + 1) = L.take i ++ [L[i]] := List.take_succ_eq_append_getElem hil
    have hlt := hlt i L[i] hg
    have hR := hR i L[i] hg
    generalize L[i] = r at *
    repeat first | refine opsStep ?_ | refine codeStep ?_ | refine drawStep ?_
    refine loopE_of (ι := {k : Nat // k ≤ r.length ∧ ∀ x ∈ r.take k, p x = false}) (fun k => (fr [(1, .int .i64 q), (2, .ref 0 0 0), (5, .sl .any L.length (rowsA L)), (6, .int .i64 (i : Nat)), (7, .int .i64 (k.1 : Nat))], [.cells 0 (d.cells ++ e.cells)])) (fun k => r.length - k.1)
      ⟨0, Nat.zero_le _, by simp⟩ (Ent.fr' ⟨(by kernel_rfl), (by kernel_rfl), (by kernel_rfl), (by kernel_rfl), (by kernel_rfl), trivial⟩ (by kernel_rfl)) ?_
    rintro ⟨k, hk2, hpk⟩
    repeat first | refine opsStep ?_ | refine codeStep ?_ | refine drawStep ?_
    refine guardE_of (by simp [hrl]; omega) ?_
    repeat first | refine opsStep ?_ | refine codeStep ?_ | refine drawStep ?_
    refine optE_of (c := rowA r) (by simpa [Value.cells] using hgr) ?_
    repeat first | refine opsStep ?_ | refine codeStep ?_ | refine drawStep ?_
    refine decB_dec (fun h2 => ?_) (fun h2 => ?_)
    · have hkl : k < r.length := Int.ofNat_lt.1 (show ((k : Nat) : Int) < ((r.length : Nat) : Int) from h2)
      have hgx : (iW r)[k]? = some (.int .i64 (r[k] : Nat)) := by simp [iW, hkl]
      have hil2 := iW_length r
      have hxt := htold r[k] (hlt _ (List.getElem_mem hkl))
      have htk2 : r.take (k + 1) = r.take k ++ [r[k]] := List.take_succ_eq_append_getElem hkl
      have hmem : r[k] ∈ r := List.getElem_mem hkl
      generalize r[k] = x at *
      repeat first | refine opsStep ?_ | refine codeStep ?_ | refine drawStep ?_
      refine SW.drawn rfl (by kernel_rfl) ?_
      repeat first | refine opsStep ?_ | refine codeStep ?_ | refine drawStep ?_
      refine guardE_of (by simp [hrl]; omega) ?_
      repeat first | refine opsStep ?_ | refine codeStep ?_ | refine drawStep ?_
      refine optE_of (c := rowA r) (by simpa [Value.cells] using hgr) ?_
      repeat first | refine opsStep ?_ | refine codeStep ?_ | refine drawStep ?_
      refine guardE_of (by simp [hil2]; omega) ?_
      repeat first | refine opsStep ?_ | refine codeStep ?_ | refine drawStep ?_
      refine optE_of (c := .int .i64 (x : Nat)) (by simpa [Value.cells] using hgx) ?_
      repeat first | refine opsStep ?_ | refine codeStep ?_ | refine drawStep ?_
      cases hx : p x with
      | true =>
        rw [hx] at hxt
        refine .inl ⟨_, _, [], hxt, RdsN_refl _, .inr rfl, none_need, ?_⟩
        repeat first | refine opsStep ?_ | refine codeStep ?_ | refine drawStep ?_
        refine ⟨by kernel_rfl, ?_⟩
        repeat first | refine opsStep ?_ | refine codeStep ?_ | refine drawStep ?_
        exact finV (v' := .int .i64 (IntKind.wrap .i64 ((i : Int) + 1))) (by kernel_rfl) (by rw [levF_hit hg (List.any_eq_true.2 ⟨x, hmem, hx⟩) hpre, Nat.zero_add, IntWalk.i64_in _ (by omega)]; simp)
      | false =>
        rw [hx] at hxt
        refine .inl ⟨_, _, [], hxt, RdsN_refl _, .inr rfl, none_need, ?_⟩
        repeat first | refine opsStep ?_ | refine codeStep ?_ | refine drawStep ?_
        refine ⟨by kernel_rfl, ?_⟩
        repeat first | refine opsStep ?_ | refine codeStep ?_ | refine drawStep ?_
        refine ⟨⟨k + 1, hkl, fun y hy => ?_⟩, (by show r.length - (k + 1) < r.length - k; omega), Ent.fr' ⟨(by kernel_rfl), (by kernel_rfl), (by kernel_rfl), (by kernel_rfl), inc_slot (i := k) (by omega), trivial⟩ (by kernel_rfl)⟩
        rw [htk2] at hy
        rcases List.mem_append.1 hy with hy | hy
        · exact hpk y hy
        · simp at hy; subst hy; exact hx
    · have hke : k = r.length := by
        have : ¬ k < r.length := fun h => h2 (show ((k : Nat) : Int) < ((r.length : Nat) : Int) from Int.ofNat_lt.2 h)
        omega
      subst hke
      rw [List.take_length] at hpk
      repeat first | refine opsStep ?_ | refine codeStep ?_ | refine drawStep ?_
      refine ⟨⟨i + 1, hil, fun y hy => ?_⟩, (by show L.length - (i + 1) < L.length - i; omega), Ent.fr' ⟨(by kernel_rfl), (by kernel_rfl), (by kernel_rfl), inc_slot (i := i) (by omega), trivial⟩ (by kernel_rfl)⟩
      rw [htk] at hy
      rcases List.mem_append.1 hy with hy | hy
      · exact hpre y hy
      · simp at hy; subst hy; rw [List.any_eq_false]; intro z hz; rw [hpk z hz]; simp
  · have hie : i = L.length := by have := h; simp at this; omega
    subst hie
    rw [List.take_length] at hpre
    repeat first | refine opsStep ?_ | refine codeStep ?_ | refine drawStep ?_
    exact finV (v' := .int .i64 (0 : Nat)) (by kernel_rfl) (by rw [levF_zero.2 hpre])

end Tab

/- The first word of a length, by sets from behind: plain. -/
namespace Tab
open Go
set_option maxRecDepth 10000
set_option linter.unusedVariables false
set_option linter.unusedSimpArgs false
set_option linter.unusedSectionVars false

section
variable (K : Nat) (st : Nat → Nat → Nat) (t : Nat → Bool)
/-- Some word of so many letters leads from a place to one that is told of. -/
def gW : Nat → Nat → Bool
  | 0, p => t p
  | k + 1, p => (List.range K).any fun a => gW k (st p a)
def gAny (k p a : Nat) : Bool := (List.range a).any fun b => gW K st t k (st p b)
theorem gAny_succ (k p a) : gAny K st t k p (a + 1) = (gAny K st t k p a || gW K st t k (st p a)) := by simp [gAny, List.range_succ]
theorem gAny_full (k p) : gAny K st t k p K = gW K st t (k + 1) p := rfl
theorem gAny_zero (k p) : gAny K st t k p 0 = false := rfl
def rowG (N k : Nat) : List Bool := (List.range N).map (gW K st t k)
def rowT (N p : Nat) : List Bool := (List.range N).map fun j => if j < p then t j else false
def rowP (N k p a : Nat) : List Bool := (List.range N).map fun j => if j < p then gW K st t (k + 1) j else if j = p then gAny K st t k p a else false
theorem rowG_length (N k) : (rowG K st t N k).length = N := by simp [rowG]
theorem rowT_length (N p) : (rowT t N p).length = N := by simp [rowT]
theorem rowP_length (N k p a) : (rowP K st t N k p a).length = N := by simp [rowP]
theorem rowG_get {N k p} (h : p < N) : (rowG K st t N k)[p]? = some (gW K st t k p) := by simp [rowG, h]
theorem rowP_get {N k p a} (h : p < N) : (rowP K st t N k p a)[p]? = some (gAny K st t k p a) := by simp [rowP, h]
theorem rowT_zero (N) : rowT t N 0 = List.replicate N false := by
  refine List.ext_getElem (by simp [rowT]) fun j h1 h2 => ?_
  simp [rowT]
theorem rowT_step (N p) : (rowT t N p).set p (t p) = rowT t N (p + 1) := by
  refine List.ext_getElem (by simp [rowT]) fun j h1 h2 => ?_
  simp only [rowT, List.getElem_set, List.getElem_map, List.getElem_range]
  by_cases e : p = j
  · subst e; simp
  · rw [if_neg e]
    by_cases h : j < p
    · rw [if_pos h, if_pos (by omega)]
    · rw [if_neg h, if_neg (by omega)]
theorem rowT_full (N) : rowT t N N = rowG K st t N 0 := by
  refine List.ext_getElem (by simp [rowT, rowG]) fun j h1 h2 => ?_
  have : j < N := by simpa [rowT] using h1
  simp [rowT, rowG, gW, this]
theorem rowP_zero (N k) : rowP K st t N k 0 0 = List.replicate N false := by
  refine List.ext_getElem (by simp [rowP]) fun j h1 h2 => ?_
  simp [rowP, gAny]
theorem rowP_set (N k p a) : (rowP K st t N k p a).set p (gAny K st t k p (a + 1)) = rowP K st t N k p (a + 1) := by
  refine List.ext_getElem (by simp [rowP]) fun j h1 h2 => ?_
  simp only [rowP, List.getElem_set, List.getElem_map, List.getElem_range]
  by_cases e : p = j
  · subst e; simp
  · rw [if_neg e]
    by_cases h : j < p
    · rw [if_pos h, if_pos h]
    · rw [if_neg h, if_neg h, if_neg (by omega), if_neg (by omega)]
theorem rowP_next (N k p) : rowP K st t N k p K = rowP K st t N k (p + 1) 0 := by
  refine List.ext_getElem (by simp [rowP]) fun j h1 h2 => ?_
  simp only [rowP, List.getElem_map, List.getElem_range]
  by_cases h : j < p
  · rw [if_pos h, if_pos (by omega)]
  · rw [if_neg h]
    by_cases e : j = p
    · subst e; rw [if_pos rfl, if_pos (by omega), gAny_full]
    · rw [if_neg e, if_neg (by omega), gAny_zero]; split <;> rfl
theorem rowP_full (N k) : rowP K st t N k N 0 = rowG K st t N (k + 1) := by
  refine List.ext_getElem (by simp [rowP, rowG]) fun j h1 h2 => ?_
  have : j < N := by simpa [rowP] using h1
  simp [rowP, rowG, this]

def leastA (k p : Nat) : Nat := ((List.range K).find? fun a => gW K st t k (st p a)).getD 0
def grW : Nat → Nat → List Nat
  | 0, _ => []
  | k + 1, p => leastA K st t k p :: grW k (st p (leastA K st t k p))
theorem leastA_spec {k p : Nat} (h : gW K st t (k + 1) p = true) : leastA K st t k p < K ∧ gW K st t k (st p (leastA K st t k p)) = true ∧ ∀ b, b < leastA K st t k p → gW K st t k (st p b) = false := by
  rw [gW, List.any_eq_true] at h
  obtain ⟨a, h1, h2⟩ := h
  rw [leastA]
  cases hf : (List.range K).find? fun a => gW K st t k (st p a) with
  | none =>
    have := List.find?_eq_none.1 hf a h1
    rw [h2] at this; simp at this
  | some c =>
    rw [List.find?_range_eq_some] at hf
    refine ⟨?_, hf.1, fun b hb => ?_⟩
    · have := hf.2.1; simpa using this
    · have := hf.2.2 b hb; simpa using this
theorem leastA_eq {k p a : Nat} (h : gW K st t (k + 1) p = true) (h1 : gW K st t k (st p a) = true) (h2 : ∀ b, b < a → gW K st t k (st p b) = false) : leastA K st t k p = a := by
  obtain ⟨g1, g2, g3⟩ := leastA_spec K st t h
  rcases Nat.lt_trichotomy (leastA K st t k p) a with k | k | k
  · have := h2 _ k; rw [g2] at this; simp at this
  · exact k
  · have := g3 _ k; rw [h1] at this; simp at this
theorem gW_iff : ∀ (k p : Nat), gW K st t k p = true ↔ ∃ v : List Nat, v.length = k ∧ (∀ a ∈ v, a < K) ∧ t (runG st p v) = true
  | 0, p => by
    constructor
    · intro h; exact ⟨[], rfl, by simp, h⟩
    · rintro ⟨v, h1, _, h3⟩
      have := List.length_eq_zero_iff.1 h1
      subst this; exact h3
  | k + 1, p => by
    rw [gW, List.any_eq_true]
    constructor
    · rintro ⟨a, h1, h2⟩
      obtain ⟨v, g1, g2, g3⟩ := (gW_iff k (st p a)).1 h2
      refine ⟨a :: v, by simp [g1], fun b hb => ?_, g3⟩
      rcases List.mem_cons.1 hb with rfl | hb
      · exact List.mem_range.1 h1
      · exact g2 b hb
    · rintro ⟨v, h1, h2, h3⟩
      cases v with
      | nil => simp at h1
      | cons a v => exact ⟨a, List.mem_range.2 (h2 a (by simp)), (gW_iff k (st p a)).2 ⟨v, by simpa using h1, fun b hb => h2 b (by simp [hb]), h3⟩⟩
theorem grW_spec : ∀ (k p : Nat), gW K st t k p = true → (grW K st t k p).length = k ∧ (∀ a ∈ grW K st t k p, a < K) ∧ t (runG st p (grW K st t k p)) = true ∧ ∀ v : List Nat, v.length = k → (∀ a ∈ v, a < K) → t (runG st p v) = true → lexL v (grW K st t k p) = false
  | 0, p, h => ⟨rfl, by simp [grW], h, fun v h1 _ _ => by have := List.length_eq_zero_iff.1 h1; subst this; rfl⟩
  | k + 1, p, h => by
    obtain ⟨g1, g2, g3⟩ := leastA_spec K st t h
    obtain ⟨i1, i2, i3, i4⟩ := grW_spec k _ g2
    refine ⟨by simp [grW, i1], fun b hb => ?_, i3, fun v h1 h2 h3 => ?_⟩
    · rw [grW] at hb
      rcases List.mem_cons.1 hb with rfl | hb
      · exact g1
      · exact i2 b hb
    · cases v with
      | nil => simp at h1
      | cons a v =>
        have ha := h2 a (by simp)
        have hg : gW K st t k (st p a) = true := (gW_iff K st t k (st p a)).2 ⟨v, by simpa using h1, fun b hb => h2 b (by simp [hb]), h3⟩
        rw [grW, lexL]
        have hn : ¬ a < leastA K st t k p := fun hlt => by have := g3 a hlt; rw [hg] at this; simp at this
        rw [decide_eq_false hn, Bool.false_or]
        by_cases e : a = leastA K st t k p
        · rw [decide_eq_true e, Bool.true_and]
          subst e
          exact i4 v (by simpa using h1) (fun b hb => h2 b (by simp [hb])) h3
        · rw [decide_eq_false e, Bool.false_and]
/-- The first word of all is the first of its length. -/
theorem grW_first {w : List Nat} (h : FirstW K (fun v => t (runG st 0 v)) (some w)) : gW K st t w.length 0 = true ∧ grW K st t w.length 0 = w := by
  obtain ⟨h1, h2, h3, h4⟩ := h
  have hg : gW K st t w.length 0 = true := (gW_iff K st t w.length 0).2 ⟨w, rfl, h2, h3⟩
  obtain ⟨i1, i2, i3, i4⟩ := grW_spec K st t w.length 0 hg
  refine ⟨hg, ?_⟩
  have hne : grW K st t w.length 0 ≠ [] := fun e => by rw [e] at i1; exact h1 (List.length_eq_zero_iff.1 i1.symm)
  rcases h4 _ hne i2 i3 with (hl | ⟨_, hl⟩) | he
  · omega
  · rw [i4 w rfl h2 h3] at hl; simp at hl
  · exact he.symm
end

end Tab

/- tabardref21: First, walked. -/
namespace Tab
open Go Go.Proofs
set_option maxRecDepth 10000
set_option linter.unusedVariables false
set_option linter.unusedSimpArgs false
set_option linter.unusedSectionVars false

theorem pair_row {d e : Den} (hd : rightS d = true) (he : rightS e = true) (hk : d.tracks.length = e.tracks.length) {x : Nat} (hx : x < d.accept.length * e.accept.length) :
    ∃ r1 r2, d.next[x / e.accept.length]? = some r1 ∧ e.next[x % e.accept.length]? = some r2 ∧ r1.2.length = 2 ^ d.tracks.length ∧ r2.2.length = 2 ^ d.tracks.length ∧ x / e.accept.length < d.next.length ∧ x % e.accept.length < e.next.length ∧
      ∀ a, a < 2 ^ d.tracks.length → ∃ c1 c2 : Nat, r1.2[a]? = some (c1 : Int) ∧ r2.2[a]? = some (c2 : Int) ∧ c1 * e.accept.length + c2 = stC d e x a ∧ c1 < 256 ∧ c2 < 256 := by
  obtain ⟨_, _, _, d256⟩ := tracksS_parts (rightS_parts hd).1
  obtain ⟨_, _, _, e256⟩ := tracksS_parts (rightS_parts he).1
  obtain ⟨h1, h2⟩ := divmod_lt hx (right_pos he)
  obtain ⟨s1, _⟩ := stepN_ok hd h1 (show 0 < 2 ^ d.tracks.length from Nat.two_pow_pos _)
  obtain ⟨t1, _⟩ := stepN_ok he h2 (show 0 < 2 ^ e.tracks.length from Nat.two_pow_pos _)
  have l1 := (rowOk_parts ((rightS_parts hd).2.2 _ (List.getElem_mem s1))).1
  have l2 := (rowOk_parts ((rightS_parts he).2.2 _ (List.getElem_mem t1))).1
  refine ⟨_, _, List.getElem?_eq_getElem s1, List.getElem?_eq_getElem t1, l1, by rw [l2, hk], s1, t1, fun a ha => ?_⟩
  obtain ⟨_, a1, a2, a3⟩ := stepN_ok hd h1 ha
  obtain ⟨_, b1, b2, b3⟩ := stepN_ok he h2 (show a < 2 ^ e.tracks.length by rw [← hk]; exact ha)
  exact ⟨_, _, by rw [List.getElem?_eq_getElem a1, a2], by rw [List.getElem?_eq_getElem b1, b2], rfl, by omega, by omega⟩
theorem pair_stay {d e : Den} (hd : rightS d = true) (he : rightS e = true) (hk : d.tracks.length = e.tracks.length) {x a : Nat} (hx : x < d.accept.length * e.accept.length) (ha : a < 2 ^ d.tracks.length) : stC d e x a < d.accept.length * e.accept.length := by
  obtain ⟨h1, h2⟩ := divmod_lt hx (right_pos he)
  exact pair_lt (stepN_ok hd h1 ha).2.2.2 (stepN_ok he h2 (by rw [← hk]; exact ha)).2.2.2

/-- Rows that are done, one, and those that are nil yet. -/
def rowB (r : List Bool) : AV := .sl .any r.length (r.map .bool)
theorem rowB_closed (r) : (rowB r).closed := aBs_closed .any r
def gB (R : Nat → List Bool) (n k : Nat) (x : AV) : List AV := (List.range k).map (fun j => rowB (R j)) ++ x :: List.replicate (n - k) (.sl .nil 0 [])
def gA (R : Nat → List Bool) (n k : Nat) : List AV := (List.range k).map (fun j => rowB (R j)) ++ List.replicate (n + 1 - k) (.sl .nil 0 [])
theorem gB_length {R n k x} (h : k ≤ n) : (gB R n k x).length = n + 1 := by simp [gB]; omega
theorem gA_length {R n k} (h : k ≤ n + 1) : (gA R n k).length = n + 1 := by simp [gA]; omega
theorem gA_zero (R n) : gA R n 0 = List.replicate (n + 1) (.sl .nil 0 []) := by simp [gA]
theorem gB_get (R n k x) : (gB R n k x)[k]? = some x := by
  rw [gB, List.getElem?_append_right (by simp)]; simp
theorem gB_old {R n k x j} (h : j < k) : (gB R n k x)[j]? = some (rowB (R j)) := by
  rw [gB, List.getElem?_append_left (by simpa using h)]; simp [h]
theorem gA_old {R n k j} (h : j < k) : (gA R n k)[j]? = some (rowB (R j)) := by
  rw [gA, List.getElem?_append_left (by simpa using h)]; simp [h]
theorem gA_set {R n k x} (h : k ≤ n) : (gA R n k).set k x = gB R n k x := by
  rw [gA, gB, List.set_append_right _ _ (by simp)]
  simp only [List.length_map, List.length_range, Nat.sub_self]
  rw [show n + 1 - k = (n - k) + 1 by omega, List.replicate_succ, List.set_cons_zero]
theorem gB_set {R n k x} (h : k ≤ n) : (gB R n k x).set k (rowB (R k)) = gA R n (k + 1) := by
  rw [gA, gB, List.set_append_right _ _ (by simp)]
  simp only [List.length_map, List.length_range, Nat.sub_self, List.set_cons_zero]
  rw [List.range_succ, List.map_append, show n + 1 - (k + 1) = n - k by omega]
  simp
theorem gA_bel (m R n k) : bels m (gA R n k) := by
  rw [gA, bels_append, bels_map]
  exact ⟨fun j _ => AV.closed_bel _ (rowB_closed _), bels_iff.2 fun a ha => by rw [List.eq_of_mem_replicate ha]; simp [AV.bel, bels]⟩

/-- A row of the list of rows is done. -/
theorem Ent.rowDone {nt : Fr} {s : Slots} {H H' : List Blk} {l : List (Nat × AV)} {R : Nat → List Bool} {n k : Nat} {x : Blk} (hf : frOk s l) (hkn : k ≤ n) (hx : x.bel 2) (hk : nt.k ≤ 2) (hl : frBel 2 l)
    (h : H = x :: .cells 0 (gB R n k (.hs 2 0 0 (R k).length 1)) :: .cells 0 ((R k).map .bool) :: H') : Ent nt s H (Tab.fr l) [x, .cells 0 (gA R n (k + 1))] := by
  subst h
  refine (Ent.fr' hf rfl).trans ?_
  have h1 := Ent.freezeCell (nt := nt) (s := Tab.fr l) (H := x :: .cells 0 (gB R n k (.hs 2 0 0 (R k).length 1)) :: .cells 0 ((R k).map .bool) :: H') (gc := 0) (ccs := gB R n k (.hs 2 0 0 (R k).length 1)) (b := 2) (g := 0) (n := (R k).length) (es := 1) (cs := (R k).map .bool) 1 k rfl (gB_get _ _ _ _) rfl (by decide) (by simp)
  refine h1.trans ?_
  rw [show AV.sl .any (R k).length ((R k).map .bool) = rowB (R k) from rfl, gB_set hkn]
  exact Ent.drop (H := [x, .cells 0 (gA R n (k + 1))]) (X := .fro 0 ((R k).map .bool) :: H') hk hl ⟨hx, gA_bel _ _ _ _, trivial⟩

set_option maxHeartbeats 1000000 in
theorem r21_First (d e : Den) (n : Nat) (hn40 : n ≤ 40) (hd : rightS d = true) (he : rightS e = true) (hk : d.tracks.length = e.tracks.length) (hgood : gW (2 ^ d.tracks.length) (stC d e) (tellC d e 1) n 0 = true) :
    Pure Tryz.prog 10 [.agg (d.cells ++ e.cells), .int .i64 (n : Nat)] (.sl .any n (iW (grW (2 ^ d.tracks.length) (stC d e) (tellC d e 1) n 0))) := by
  have hpd := right_pos hd
  have hpe := right_pos he
  obtain ⟨k6, _, _, d256⟩ := tracksS_parts (rightS_parts hd).1
  obtain ⟨_, _, _, e256⟩ := tracksS_parts (rightS_parts he).1
  have hK64 : 2 ^ d.tracks.length ≤ 64 := by have : 2 ^ d.tracks.length ≤ 2 ^ 6 := Nat.pow_le_pow_right (by omega) k6; omega
  have hNN : d.accept.length * e.accept.length ≤ 256 * 256 := Nat.mul_le_mul (by omega) (by omega)
  have hst := fun x a hx ha => pair_stay hd he hk (x := x) (a := a) hx ha
  have hrow := fun x hx => pair_row hd he hk (x := x) hx
  have htold := fun x hx => r21_told d e 1 hd he x hx
  have hwm : IntKind.wrap .i64 ((d.accept.length : Int) * (e.accept.length : Int)) = ((d.accept.length * e.accept.length : Nat) : Int) := by
    rw [IntWalk.i64_in _ (by omega), Int.natCast_mul]
  have hpos : 0 < d.accept.length * e.accept.length := Nat.mul_pos hpd hpe
  obtain ⟨N, hN⟩ : ∃ N, d.accept.length * e.accept.length = N := ⟨_, rfl⟩
  rw [hN] at hNN hst hwm hpos hrow htold
  obtain ⟨K, hK⟩ : ∃ K, 2 ^ d.tracks.length = K := ⟨_, rfl⟩
  rw [hK] at hst hK64 hrow hgood ⊢
  generalize stC d e = st at *
  generalize tellC d e 1 = t at *
  have hgl := (grW_spec K st t n 0 hgood).1
  obtain ⟨W, hW⟩ : ∃ W, grW K st t n 0 = W := ⟨_, rfl⟩
  rw [hW] at hgl ⊢
  have hwc := iW_closed W
  have hcl : (AV.sl .any n (iW W)).closed := by simpa [AV.closed] using hwc
  refine Pure.of_sw 191 Tryz.func10 rfl Tryz.ntmps10 (by kernel_rfl) (Nat.le_of_ble_eq_true (by kernel_rfl)) (by simp [closeds, AV.closed, Den.cells, aSs_closed, aBs_closed, aRs_closed]) hcl ?_; refine SW.of_vc ?_
  have hw1 : IntKind.wrap .i64 ((n : Int) + 1) = ((n + 1 : Nat) : Int) := by rw [IntWalk.i64_in _ (by omega)]; simp
  obtain ⟨R, hR⟩ : ∃ R : Nat → List Bool, R = fun j => rowG K st t N j := ⟨_, rfl⟩
  have hRl : ∀ j, (R j).length = N := fun j => by rw [hR]; exact rowG_length K st t N j
  repeat first | refine opsStep ?_ | refine codeStep ?_ | refine drawStep ?_
  refine guardE_of ⟨by show 0 ≤ IntKind.wrap .i64 _; rw [hw1]; omega, Int.le_refl _, by show (24 : Int) * IntKind.wrap .i64 _ ≤ _; rw [hw1]; omega, by show IntKind.wrap .i64 _ ≤ _; rw [hw1]; omega⟩ ?_
  iterate 2 refine opsStep ?_
  refine VCode.ent (Ent.fr' (l := [(1, .int .i64 (n : Nat)), (2, .ref 0 0 0), (5, .int .i64 (e.accept.length : Nat)), (6, .int .i64 (N : Nat)), (7, .hs 1 0 0 (n + 1) 1)]) (H' := [.cells 0 (d.cells ++ e.cells), .cells 0 (gA R n 0)]) ⟨(by kernel_rfl), (by kernel_rfl), (by kernel_rfl), (Eq.trans (b := .int .i64 (IntKind.wrap .i64 ((d.accept.length : Int) * (e.accept.length : Int)))) (by kernel_rfl) (by rw [hwm])), (Eq.trans (b := .hs 1 0 0 (IntKind.wrap .i64 ((n : Int) + 1)).toNat 1) (by kernel_rfl) (by rw [hw1]; simp)), trivial⟩ (Eq.trans (b := [.cells 0 (d.cells ++ e.cells), .cells 0 (reps [.sl .nil 0 []] (IntKind.wrap .i64 ((n : Int) + 1)).toNat)]) (by kernel_rfl) (by rw [hw1, reps_one, gA_zero]; simp))) ?_
  repeat first | refine opsStep ?_ | refine codeStep ?_ | refine drawStep ?_
  refine guardE_of ⟨by show 0 ≤ ((N : Nat) : Int); omega, Int.le_refl _, by show (1 : Int) * ((N : Nat) : Int) ≤ _; omega, by show ((N : Nat) : Int) ≤ _; omega⟩ ?_
  repeat first | refine opsStep ?_ | refine codeStep ?_ | refine drawStep ?_
  refine guardE_of (by show (0 : Int) ≤ 0 ∧ (0 : Int) < ((n + 1 : Nat) : Int); omega) ?_
  repeat first | refine opsStep ?_ | refine codeStep ?_ | refine drawStep ?_
  refine loopE_of (ι := {p : Nat // p ≤ N}) (fun p => (fr [(1, .int .i64 (n : Nat)), (2, .ref 0 0 0), (5, .int .i64 (e.accept.length : Nat)), (6, .int .i64 (N : Nat)), (7, .hs 1 0 0 (n + 1) 1), (8, .int .i64 (p.1 : Nat))], [Blk.cells 0 (d.cells ++ e.cells), .cells 0 (gB R n (0) (.hs 2 0 0 N 1)), .cells 0 ((rowT t N p.1).map .bool)])) (fun p => N - p.1) ⟨0, Nat.zero_le _⟩ (Ent.fr' ⟨(by kernel_rfl), (by kernel_rfl), (by kernel_rfl), (by kernel_rfl), (by kernel_rfl), (by kernel_rfl), trivial⟩ ?_) ?_
  · refine Eq.trans (b := [Blk.cells 0 (d.cells ++ e.cells), .cells 0 (over (gA R n 0) (0 + 0 * 1) [.hs 2 0 0 ((N : Nat) : Int).toNat 1]), .cells 0 (reps [.bool false] ((N : Nat) : Int).toNat)]) (by kernel_rfl) ?_
    rw [over_one (by rw [gA_length (by omega)]; omega), Nat.zero_mul, Nat.add_zero, gA_set (Nat.zero_le _), reps_one, Int.toNat_natCast]
    show _ = [Blk.cells 0 (d.cells ++ e.cells), .cells 0 (gB R n (0) (.hs 2 0 0 N 1)), .cells 0 ((rowT t N 0).map .bool)]
    rw [rowT_zero]; simp
  rintro ⟨p, hp⟩
  have htl := rowT_length t N p
  repeat first | refine opsStep ?_ | refine codeStep ?_ | refine drawStep ?_
  refine decB_dec (fun h => ?_) (fun h => ?_)
  · have hpl : p < N := by have := h; simp at this; omega
    have hts := rowT_step t N p
    have htp := htold p hpl
    generalize t p = tp at *
    repeat first | refine opsStep ?_ | refine codeStep ?_ | refine drawStep ?_
    refine SW.drawn rfl (by kernel_rfl) ?_
    repeat first | refine opsStep ?_ | refine codeStep ?_ | refine drawStep ?_
    refine guardE_of (by show (0 : Int) ≤ 0 ∧ (0 : Int) < ((n + 1 : Nat) : Int); omega) ?_
    repeat first | refine opsStep ?_ | refine codeStep ?_ | refine drawStep ?_
    refine .inl ⟨_, _, [], htp, RdsN_refl _, .inr rfl, none_need, ?_⟩
    repeat first | refine opsStep ?_ | refine codeStep ?_ | refine drawStep ?_
    refine guardE_of (by simp; omega) ?_
    repeat first | refine opsStep ?_ | refine codeStep ?_ | refine drawStep ?_
    refine guardE_of ⟨rfl, by decide, by show 0 + p * 1 + 1 ≤ ((rowT t N p).map AV.bool).length; rw [List.length_map, htl]; omega⟩ ?_
    repeat first | refine opsStep ?_ | refine codeStep ?_ | refine drawStep ?_
    refine ⟨by kernel_rfl, ?_⟩
    repeat first | refine opsStep ?_ | refine codeStep ?_ | refine drawStep ?_
    refine ⟨⟨p + 1, hpl⟩, (by show N - (p + 1) < N - p; omega), Ent.fr' ⟨(by kernel_rfl), (by kernel_rfl), (by kernel_rfl), (by kernel_rfl), (by kernel_rfl), inc_slot (i := p) (by omega), trivial⟩ ?_⟩
    refine Eq.trans (b := [Blk.cells 0 (d.cells ++ e.cells), .cells 0 (gB R n 0 (.hs 2 0 0 N 1)), .cells 0 (over ((rowT t N p).map .bool) (0 + p * 1) [.bool tp])]) (by kernel_rfl) ?_
    rw [Nat.zero_add, Nat.mul_one, over_one (by rw [List.length_map, htl]; exact hpl), ← List.map_set, hts]
  have hpe : N = p := by have := h; simp at this; omega
  subst hpe
  clear htold
  repeat first | refine opsStep ?_ | refine codeStep ?_ | refine drawStep ?_
  refine loopE_of (ι := {k : Nat // 1 ≤ k ∧ k ≤ n + 1}) (fun k => (fr [(1, .int .i64 (n : Nat)), (2, .ref 0 0 0), (5, .int .i64 (e.accept.length : Nat)), (6, .int .i64 (N : Nat)), (7, .hs 1 0 0 (n + 1) 1), (9, .int .i64 (k.1 : Nat))], [Blk.cells 0 (d.cells ++ e.cells), .cells 0 (gA R n k.1)])) (fun k => n + 1 - k.1) ⟨1, by omega⟩
    (Ent.rowDone (l := [(1, .int .i64 (n : Nat)), (2, .ref 0 0 0), (5, .int .i64 (e.accept.length : Nat)), (6, .int .i64 (N : Nat)), (7, .hs 1 0 0 (n + 1) 1), (9, .int .i64 (1 : Nat))]) (R := R) (n := n) (k := 0) (H' := []) ⟨(by kernel_rfl), (by kernel_rfl), (by kernel_rfl), (by kernel_rfl), (by kernel_rfl), (by kernel_rfl), trivial⟩ (Nat.zero_le _) (by simp [Blk.bel, bels_append, cells_bel]) (Nat.zero_le _) (by simp [frBel, AV.bel, bels]) (Eq.trans (b := [Blk.cells 0 (d.cells ++ e.cells), .cells 0 (gB R n (0) (.hs 2 0 0 N 1)), .cells 0 ((rowT t N N).map .bool)]) (by kernel_rfl) (by rw [hRl, rowT_full K st, hR]))) ?_
  rintro ⟨k, hk1, hkn⟩
  obtain ⟨k, rfl⟩ : ∃ k', k = k' + 1 := ⟨k - 1, by omega⟩
  repeat first | refine opsStep ?_ | refine codeStep ?_ | refine drawStep ?_
  refine decB_dec (fun hkc => ?_) (fun hkc => ?_)
  · have hkl : k + 1 ≤ n := by have := hkc; simp at this; omega
    have hwk : IntKind.wrap .i64 (((k + 1 : Nat) : Int) - 1) = ((k : Nat) : Int) := by rw [IntWalk.i64_in _ (by omega)]; omega
    repeat first | refine opsStep ?_ | refine codeStep ?_ | refine drawStep ?_
    refine guardE_of ⟨by show 0 ≤ ((N : Nat) : Int); omega, Int.le_refl _, by show (1 : Int) * ((N : Nat) : Int) ≤ _; omega, by show ((N : Nat) : Int) ≤ _; omega⟩ ?_
    repeat first | refine opsStep ?_ | refine codeStep ?_ | refine drawStep ?_
    refine guardE_of (by show (0 : Int) ≤ ((k + 1 : Nat) : Int) ∧ ((k + 1 : Nat) : Int) < ((n + 1 : Nat) : Int); omega) ?_
    repeat first | refine opsStep ?_ | refine codeStep ?_ | refine drawStep ?_
    refine guardE_of ⟨rfl, by decide, by show 0 + (k + 1) * 1 + 1 ≤ (gA R n (k + 1)).length; rw [gA_length (by omega)]; omega⟩ ?_
    repeat first | refine opsStep ?_ | refine codeStep ?_ | refine drawStep ?_
    refine loopE_of (ι := {p : Nat // p ≤ N}) (fun p => (fr [(1, .int .i64 (n : Nat)), (2, .ref 0 0 0), (5, .int .i64 (e.accept.length : Nat)), (6, .int .i64 (N : Nat)), (7, .hs 1 0 0 (n + 1) 1), (9, .int .i64 (k + 1 : Nat)), (10, .int .i64 (p.1 : Nat))], [Blk.cells 0 (d.cells ++ e.cells), .cells 0 (gB R n (k + 1) (.hs 2 0 0 N 1)), .cells 0 ((rowP K st t N k p.1 0).map .bool)])) (fun p => N - p.1) ⟨0, Nat.zero_le _⟩ (Ent.fr' ⟨(by kernel_rfl), (by kernel_rfl), (by kernel_rfl), (by kernel_rfl), (by kernel_rfl), (by kernel_rfl), (by kernel_rfl), trivial⟩ ?_) ?_
    · refine Eq.trans (b := [Blk.cells 0 (d.cells ++ e.cells), .cells 0 (over (gA R n (k + 1)) (0 + (k + 1) * 1) [.hs 2 0 0 ((N : Nat) : Int).toNat 1]), .cells 0 (reps [.bool false] ((N : Nat) : Int).toNat)]) (by kernel_rfl) ?_
      rw [over_one (by rw [gA_length (by omega)]; omega), Nat.zero_add, Nat.mul_one, gA_set hkl, reps_one, Int.toNat_natCast]
      show _ = [Blk.cells 0 (d.cells ++ e.cells), .cells 0 (gB R n (k + 1) (.hs 2 0 0 N 1)), .cells 0 ((rowP K st t N k 0 0).map .bool)]
      rw [rowP_zero]; simp
    rintro ⟨p, hp⟩
    repeat first | refine opsStep ?_ | refine codeStep ?_ | refine drawStep ?_
    refine decB_dec (fun hpc => ?_) (fun hpc => ?_)
    · have hpl : p < N := by have := hpc; simp at this; omega
      obtain ⟨r1, r2, g1, g2, g3, g4, g5, g6, g7⟩ := hrow p hpl
      have hn0 : ¬ ((e.accept.length : Nat) : Int) = 0 := by omega
      have w1 : IntKind.wrap .i64 (((p : Nat) : Int).tdiv (e.accept.length : Nat)) = ((p / e.accept.length : Nat) : Int) := by
        rw [show ((p : Nat) : Int).tdiv (e.accept.length : Nat) = ((p / e.accept.length : Nat) : Int) from rfl]
        have := Nat.div_le_self p e.accept.length
        generalize p / e.accept.length = y at *
        rw [IntWalk.i64_in _ (by omega)]
      have w2 : ((p : Nat) : Int).tmod (e.accept.length : Nat) = ((p % e.accept.length : Nat) : Int) := rfl
      have hstp := fun a ha => hst p a hpl ha
      generalize p / e.accept.length = p1 at *
      generalize p % e.accept.length = p2 at *
      repeat first | refine opsStep ?_ | refine codeStep ?_ | refine drawStep ?_
      refine loopE_of (ι := {a : Nat // a ≤ K}) (fun a => (fr [(1, .int .i64 (n : Nat)), (2, .ref 0 0 0), (5, .int .i64 (e.accept.length : Nat)), (6, .int .i64 (N : Nat)), (7, .hs 1 0 0 (n + 1) 1), (9, .int .i64 (k + 1 : Nat)), (10, .int .i64 (p : Nat)), (11, .int .i64 (a.1 : Nat))], [Blk.cells 0 (d.cells ++ e.cells), .cells 0 (gB R n (k + 1) (.hs 2 0 0 N 1)), .cells 0 ((rowP K st t N k p a.1).map .bool)])) (fun a => K - a.1) ⟨0, Nat.zero_le _⟩ (Ent.fr' ⟨(by kernel_rfl), (by kernel_rfl), (by kernel_rfl), (by kernel_rfl), (by kernel_rfl), (by kernel_rfl), (by kernel_rfl), (by kernel_rfl), trivial⟩ (by kernel_rfl)) ?_
      rintro ⟨a, ha⟩
      repeat first | refine opsStep ?_ | refine codeStep ?_ | refine drawStep ?_
      refine SW.drawn rfl (by kernel_rfl) ?_
      repeat first | refine opsStep ?_ | refine codeStep ?_ | refine drawStep ?_
      refine optE_of (c := .int .i64 p1) (by show (if ((e.accept.length : Nat) : Int) = 0 then none else some (AV.int .i64 (IntKind.wrap .i64 (((p : Nat) : Int).tdiv (e.accept.length : Nat))))) = _; rw [if_neg hn0, w1]) ?_
      repeat first | refine opsStep ?_ | refine codeStep ?_ | refine drawStep ?_
      refine guardE_of (by simp; omega) ?_
      repeat first | refine opsStep ?_ | refine codeStep ?_ | refine drawStep ?_
      refine optE_of (c := aIs r1.1 r1.2) (by simp [Value.cells, g1]) ?_
      repeat first | refine opsStep ?_ | refine codeStep ?_ | refine drawStep ?_
      refine ⟨by kernel_rfl, ?_⟩
      repeat first | refine opsStep ?_ | refine codeStep ?_ | refine drawStep ?_
      refine decB_dec (fun hac => ?_) (fun hac => ?_)
      · have hal : a < K := by rw [← g3]; exact Int.ofNat_lt.1 (show ((a : Nat) : Int) < ((r1.2.length : Nat) : Int) from hac)
        obtain ⟨c1, c2, q1, q2, q3, q4, q5⟩ := g7 a hal
        have hto := hstp a hal
        have hcb : c1 * e.accept.length ≤ 256 * 256 := Nat.mul_le_mul (by omega) (by omega)
        have w3 : IntKind.wrap .i64 ((c1 : Int) * (e.accept.length : Int)) = ((c1 * e.accept.length : Nat) : Int) := by
          rw [← Int.natCast_mul]
          generalize c1 * e.accept.length = z at *
          rw [IntWalk.i64_in _ (by omega)]
        have w4 : IntKind.wrap .i64 (((c1 * e.accept.length : Nat) : Int) + (c2 : Int)) = ((st p a : Nat) : Int) := by
          rw [← Int.natCast_add, q3, IntWalk.i64_in _ (by omega)]
        have hpg := rowP_get K st t (N := N) (k := k) (p := p) (a := a) hpl
        have hrl := rowP_length K st t N k p a
        have hset := rowP_set K st t N k p a
        have hgg : (R k)[st p a]? = some (gW K st t k (st p a)) := by rw [hR]; exact rowG_get K st t hto
        rw [gAny_succ] at hset
        generalize st p a = to at *
        generalize gW K st t k to = v2 at *
        have hgnew := gB_get R n (k + 1) (.hs 2 0 0 N 1)
        have hgold := gB_old (R := R) (n := n) (k := k + 1) (x := .hs 2 0 0 N 1) (show k < k + 1 by omega)
        cases hv : gAny K st t k p a with
        | true =>
          rw [hv] at hpg hset
          repeat first | refine opsStep ?_ | refine codeStep ?_ | refine drawStep ?_
          refine SW.drawn rfl (by kernel_rfl) ?_
          repeat first | refine opsStep ?_ | refine codeStep ?_ | refine drawStep ?_
          refine guardE_of (by show (0 : Int) ≤ ((k + 1 : Nat) : Int) ∧ ((k + 1 : Nat) : Int) < ((n + 1 : Nat) : Int); omega) ?_
          repeat first | refine opsStep ?_ | refine codeStep ?_ | refine drawStep ?_
          refine optE_of (c := .hs 2 0 0 N 1) (by simpa [Value.cells] using hgnew) ?_
          repeat first | refine opsStep ?_ | refine codeStep ?_ | refine drawStep ?_
          refine guardE_of (by show (0 : Int) ≤ ((k + 1 : Nat) : Int) ∧ ((k + 1 : Nat) : Int) < ((n + 1 : Nat) : Int); omega) ?_
          repeat first | refine opsStep ?_ | refine codeStep ?_ | refine drawStep ?_
          refine optE_of (c := .hs 2 0 0 N 1) (by simpa [Value.cells] using hgnew) ?_
          repeat first | refine opsStep ?_ | refine codeStep ?_ | refine drawStep ?_
          refine guardE_of (by simp; omega) ?_
          repeat first | refine opsStep ?_ | refine codeStep ?_ | refine drawStep ?_
          refine optE_of (c := .bool true) (by simpa [Value.cells] using hpg) ?_
          repeat first | refine opsStep ?_ | refine codeStep ?_ | refine drawStep ?_
          refine guardE_of (by simp; omega) ?_
          repeat first | refine opsStep ?_ | refine codeStep ?_ | refine drawStep ?_
          refine guardE_of ⟨rfl, by decide, by show 0 + p * 1 + 1 ≤ ((rowP K st t N k p a).map AV.bool).length; rw [List.length_map, hrl]; omega⟩ ?_
          repeat first | refine opsStep ?_ | refine codeStep ?_ | refine drawStep ?_
          refine ⟨by kernel_rfl, ?_⟩
          repeat first | refine opsStep ?_ | refine codeStep ?_ | refine drawStep ?_
          refine ⟨⟨a + 1, hal⟩, (by show K - (a + 1) < K - a; omega), Ent.fr' ⟨(by kernel_rfl), (by kernel_rfl), (by kernel_rfl), (by kernel_rfl), (by kernel_rfl), (by kernel_rfl), (by kernel_rfl), inc_slot (i := a) (by omega), trivial⟩ ?_⟩
          refine Eq.trans (b := [Blk.cells 0 (d.cells ++ e.cells), .cells 0 (gB R n (k + 1) (.hs 2 0 0 N 1)), .cells 0 (over ((rowP K st t N k p a).map .bool) (0 + p * 1) [.bool (true)])]) (by kernel_rfl) ?_
          rw [Nat.zero_add, Nat.mul_one, over_one (by rw [List.length_map, hrl]; exact hpl), ← List.map_set]
          show _ = [Blk.cells 0 (d.cells ++ e.cells), .cells 0 (gB R n (k + 1) (.hs 2 0 0 N 1)), .cells 0 ((rowP K st t N k p (a + 1)).map .bool)]
          rw [← hset]; rfl
        | false =>
          rw [hv] at hpg hset
          repeat first | refine opsStep ?_ | refine codeStep ?_ | refine drawStep ?_
          refine SW.drawn rfl (by kernel_rfl) ?_
          repeat first | refine opsStep ?_ | refine codeStep ?_ | refine drawStep ?_
          refine guardE_of (by show (0 : Int) ≤ ((k + 1 : Nat) : Int) ∧ ((k + 1 : Nat) : Int) < ((n + 1 : Nat) : Int); omega) ?_
          repeat first | refine opsStep ?_ | refine codeStep ?_ | refine drawStep ?_
          refine optE_of (c := .hs 2 0 0 N 1) (by simpa [Value.cells] using hgnew) ?_
          repeat first | refine opsStep ?_ | refine codeStep ?_ | refine drawStep ?_
          refine guardE_of (by show (0 : Int) ≤ ((k + 1 : Nat) : Int) ∧ ((k + 1 : Nat) : Int) < ((n + 1 : Nat) : Int); omega) ?_
          repeat first | refine opsStep ?_ | refine codeStep ?_ | refine drawStep ?_
          refine optE_of (c := .hs 2 0 0 N 1) (by simpa [Value.cells] using hgnew) ?_
          repeat first | refine opsStep ?_ | refine codeStep ?_ | refine drawStep ?_
          refine guardE_of (by simp; omega) ?_
          repeat first | refine opsStep ?_ | refine codeStep ?_ | refine drawStep ?_
          refine optE_of (c := .bool false) (by simpa [Value.cells] using hpg) ?_
          repeat first | refine opsStep ?_ | refine codeStep ?_ | refine drawStep ?_
          refine guardE_of (by show (0 : Int) ≤ IntKind.wrap .i64 (((k + 1 : Nat) : Int) - 1) ∧ IntKind.wrap .i64 (((k + 1 : Nat) : Int) - 1) < ((n + 1 : Nat) : Int); rw [hwk]; omega) ?_
          repeat first | refine opsStep ?_ | refine codeStep ?_ | refine drawStep ?_
          refine optE_of (c := rowB (R k)) (by rw [hwk]; simpa [Value.cells] using hgold) ?_
          repeat first | refine opsStep ?_ | refine codeStep ?_ | refine drawStep ?_
          refine optE_of (c := .int .i64 p1) (by show (if ((e.accept.length : Nat) : Int) = 0 then none else some (AV.int .i64 (IntKind.wrap .i64 (((p : Nat) : Int).tdiv (e.accept.length : Nat))))) = _; rw [if_neg hn0, w1]) ?_
          repeat first | refine opsStep ?_ | refine codeStep ?_ | refine drawStep ?_
          refine guardE_of (by simp; omega) ?_
          repeat first | refine opsStep ?_ | refine codeStep ?_ | refine drawStep ?_
          refine optE_of (c := aIs r1.1 r1.2) (by simp [Value.cells, g1]) ?_
          repeat first | refine opsStep ?_ | refine codeStep ?_ | refine drawStep ?_
          refine guardE_of (by simp; omega) ?_
          repeat first | refine opsStep ?_ | refine codeStep ?_ | refine drawStep ?_
          refine optE_of (c := .int .i64 (c1 : Nat)) (by simp [Value.cells, q1]) ?_
          repeat first | refine opsStep ?_ | refine codeStep ?_ | refine drawStep ?_
          refine optE_of (c := .int .i64 p2) (by show (if ((e.accept.length : Nat) : Int) = 0 then none else some (AV.int .i64 (((p : Nat) : Int).tmod (e.accept.length : Nat)))) = _; rw [if_neg hn0, w2]) ?_
          repeat first | refine opsStep ?_ | refine codeStep ?_ | refine drawStep ?_
          refine guardE_of (by simp; omega) ?_
          repeat first | refine opsStep ?_ | refine codeStep ?_ | refine drawStep ?_
          refine optE_of (c := aIs r2.1 r2.2) (by simp [Value.cells, g2]) ?_
          repeat first | refine opsStep ?_ | refine codeStep ?_ | refine drawStep ?_
          refine guardE_of (by simp; omega) ?_
          repeat first | refine opsStep ?_ | refine codeStep ?_ | refine drawStep ?_
          refine optE_of (c := .int .i64 (c2 : Nat)) (by simp [Value.cells, q2]) ?_
          repeat first | refine opsStep ?_ | refine codeStep ?_ | refine drawStep ?_
          refine guardE_of (by show (0 : Int) ≤ IntKind.wrap .i64 (IntKind.wrap .i64 ((c1 : Int) * (e.accept.length : Int)) + (c2 : Int)) ∧ IntKind.wrap .i64 (IntKind.wrap .i64 ((c1 : Int) * (e.accept.length : Int)) + (c2 : Int)) < (((R k).length : Nat) : Int); rw [w3, w4, hRl]; omega) ?_
          repeat first | refine opsStep ?_ | refine codeStep ?_ | refine drawStep ?_
          refine optE_of (c := .bool v2) (by rw [w3, w4]; simpa [Value.cells] using hgg) ?_
          repeat first | refine opsStep ?_ | refine codeStep ?_ | refine drawStep ?_
          refine guardE_of (by simp; omega) ?_
          repeat first | refine opsStep ?_ | refine codeStep ?_ | refine drawStep ?_
          refine guardE_of ⟨rfl, by decide, by show 0 + p * 1 + 1 ≤ ((rowP K st t N k p a).map AV.bool).length; rw [List.length_map, hrl]; omega⟩ ?_
          repeat first | refine opsStep ?_ | refine codeStep ?_ | refine drawStep ?_
          refine ⟨by kernel_rfl, ?_⟩
          repeat first | refine opsStep ?_ | refine codeStep ?_ | refine drawStep ?_
          refine ⟨⟨a + 1, hal⟩, (by show K - (a + 1) < K - a; omega), Ent.fr' ⟨(by kernel_rfl), (by kernel_rfl), (by kernel_rfl), (by kernel_rfl), (by kernel_rfl), (by kernel_rfl), (by kernel_rfl), inc_slot (i := a) (by omega), trivial⟩ ?_⟩
          refine Eq.trans (b := [Blk.cells 0 (d.cells ++ e.cells), .cells 0 (gB R n (k + 1) (.hs 2 0 0 N 1)), .cells 0 (over ((rowP K st t N k p a).map .bool) (0 + p * 1) [.bool (v2)])]) (by kernel_rfl) ?_
          rw [Nat.zero_add, Nat.mul_one, over_one (by rw [List.length_map, hrl]; exact hpl), ← List.map_set]
          show _ = [Blk.cells 0 (d.cells ++ e.cells), .cells 0 (gB R n (k + 1) (.hs 2 0 0 N 1)), .cells 0 ((rowP K st t N k p (a + 1)).map .bool)]
          rw [← hset]; simp
      · have hae : a = K := by
          have : ¬ a < r1.2.length := fun h => hac (show ((a : Nat) : Int) < ((r1.2.length : Nat) : Int) from Int.ofNat_lt.2 h)
          omega
        subst hae
        have hnx := rowP_next a st t N k p
        repeat first | refine opsStep ?_ | refine codeStep ?_ | refine drawStep ?_
        refine ⟨⟨p + 1, hpl⟩, (by show N - (p + 1) < N - p; omega), Ent.fr' ⟨(by kernel_rfl), (by kernel_rfl), (by kernel_rfl), (by kernel_rfl), (by kernel_rfl), (by kernel_rfl), inc_slot (i := p) (by omega), trivial⟩ ?_⟩
        refine Eq.trans (b := [Blk.cells 0 (d.cells ++ e.cells), .cells 0 (gB R n (k + 1) (.hs 2 0 0 N 1)), .cells 0 ((rowP a st t N k p a).map .bool)]) (by kernel_rfl) ?_
        show _ = [Blk.cells 0 (d.cells ++ e.cells), .cells 0 (gB R n (k + 1) (.hs 2 0 0 N 1)), .cells 0 ((rowP a st t N k (p + 1) 0).map .bool)]
        rw [hnx]
    · have hpe : N = p := by have := hpc; simp at this; omega
      subst hpe
      repeat first | refine opsStep ?_ | refine codeStep ?_ | refine drawStep ?_
      refine ⟨⟨k + 2, by omega, by omega⟩, (by show n + 1 - (k + 2) < n + 1 - (k + 1); omega), ?_⟩
      exact Ent.rowDone (l := [(1, .int .i64 (n : Nat)), (2, .ref 0 0 0), (5, .int .i64 (e.accept.length : Nat)), (6, .int .i64 (N : Nat)), (7, .hs 1 0 0 (n + 1) 1), (9, .int .i64 (k + 2 : Nat))]) (R := R) (n := n) (k := k + 1) (H' := []) ⟨(by kernel_rfl), (by kernel_rfl), (by kernel_rfl), (by kernel_rfl), (by kernel_rfl), inc_slot (i := k + 1) (by omega), trivial⟩ hkl (by simp [Blk.bel, bels_append, cells_bel]) (Nat.zero_le _) (by simp [frBel, AV.bel, bels]) (Eq.trans (b := [Blk.cells 0 (d.cells ++ e.cells), .cells 0 (gB R n (k + 1) (.hs 2 0 0 N 1)), .cells 0 ((rowP K st t N k N 0).map .bool)]) (by kernel_rfl) (by rw [hRl, rowP_full, hR]))
  have hke : k = n := by have := hkc; simp at this; omega
  subst hke
  repeat first | refine opsStep ?_ | refine codeStep ?_ | refine drawStep ?_
  have hm0 : Ent ⟨191, 0⟩ (fr [(2, .ref 0 0 0), (5, .int .i64 (e.accept.length : Nat)), (7, .hs 1 0 0 (k + 1) 1), (12, .sl .nil 0 []), (13, .int .i64 (0 : Nat)), (14, .int .i64 (k : Nat))]) [Blk.cells 0 (d.cells ++ e.cells), .cells 0 (gA R k (k + 1))]
      (fr [(2, .ref 0 0 0), (5, .int .i64 (e.accept.length : Nat)), (7, .sl .any (k + 1) (gA R k (k + 1))), (12, .hs 1 0 0 0 1), (13, .int .i64 (0 : Nat)), (14, .int .i64 (k : Nat))]) [Blk.cells 0 (d.cells ++ e.cells), .cells 0 []] := by
    refine (Ent.freeze (b := 1) (g := 0) (n := k + 1) (es := 1) (cs := gA R k (k + 1)) 7 rfl rfl (by rw [gA_length (by omega)]; omega)).trans ?_
    refine (Ent.frD (l := [(2, .ref 0 0 0), (5, .int .i64 (e.accept.length : Nat)), (7, .sl .any (k + 1) (gA R k (k + 1))), (12, .sl .nil 0 []), (13, .int .i64 (0 : Nat)), (14, .int .i64 (k : Nat))]) (H' := [Blk.cells 0 (d.cells ++ e.cells)]) (X := [.fro 0 (gA R k (k + 1))]) ⟨(by kernel_rfl), (by kernel_rfl), (by kernel_rfl), (by kernel_rfl), (by kernel_rfl), (by kernel_rfl), trivial⟩ (by kernel_rfl) (Nat.zero_le _) (by simp [frBel, AV.bel, bels, gA_bel]) (by simp [blksBel, Blk.bel, bels_append, cells_bel])).trans ?_
    exact (Ent.nil 12 1 rfl).trans (Ent.fr' ⟨(by kernel_rfl), (by kernel_rfl), (by kernel_rfl), (by kernel_rfl), (by kernel_rfl), (by kernel_rfl), trivial⟩ (by kernel_rfl))
  have hgold : ∀ j, j < k + 1 → (gA R k (k + 1))[j]? = some (rowB (R j)) := fun j hj => gA_old hj
  have hgal : (gA R k (k + 1)).length = k + 1 := gA_length (by omega)
  have hgbel := gA_bel 2 R k (k + 1)
  generalize gA R k (k + 1) = G at *
  refine loopE_of (ι := {x : List Nat × Nat × Nat // x.1 ++ grW K st t x.2.2 x.2.1 = W ∧ gW K st t x.2.2 x.2.1 = true ∧ x.2.1 < N ∧ x.2.2 ≤ k ∧ x.1.length + x.2.2 = k})
    (fun x => (fr [(2, .ref 0 0 0), (5, .int .i64 (e.accept.length : Nat)), (7, .sl .any (k + 1) G), (12, .hs 1 x.1.1.length 0 x.1.1.length 1), (13, .int .i64 (x.1.2.1 : Nat)), (14, .int .i64 (x.1.2.2 : Nat))], [Blk.cells 0 (d.cells ++ e.cells), .cells x.1.1.length (iW x.1.1)])) (fun x => x.1.2.2)
    ⟨([], 0, k), hW, hgood, hpos, Nat.le_refl _, by simp⟩ (((Ent.fr' (l := [(2, .ref 0 0 0), (5, .int .i64 (e.accept.length : Nat)), (7, .hs 1 0 0 (k + 1) 1), (12, .sl .nil 0 []), (13, .int .i64 (0 : Nat)), (14, .int .i64 (k : Nat))]) (H' := [Blk.cells 0 (d.cells ++ e.cells), .cells 0 G]) ⟨(by kernel_rfl), (by kernel_rfl), (by kernel_rfl), (by kernel_rfl), (by kernel_rfl), (by kernel_rfl), trivial⟩ (by kernel_rfl)).trans hm0).trans (Ent.fr' ⟨(by kernel_rfl), (by kernel_rfl), (by kernel_rfl), (by kernel_rfl), (by kernel_rfl), (by kernel_rfl), trivial⟩ (by kernel_rfl))) ?_
  clear hm0
  rintro ⟨⟨out, p, j⟩, hx1, hx2, hx3, hx4, hx5⟩
  simp only at hx1 hx2 hx3 hx4 hx5
  repeat first | refine opsStep ?_ | refine codeStep ?_ | refine drawStep ?_
  refine decB_dec (fun hj => ?_) (fun hj => ?_)
  · obtain ⟨j, rfl⟩ : ∃ j', j = j' + 1 := ⟨j - 1, by have : (0 : Int) < ((j : Nat) : Int) := hj; omega⟩
    obtain ⟨r1, r2, g1, g2, g3, g4, g5, g6, g7⟩ := hrow p hx3
    obtain ⟨la1, la2, la3⟩ := leastA_spec K st t hx2
    have hlae := fun a => leastA_eq K st t (a := a) hx2
    rw [grW] at hx1
    have hwj : IntKind.wrap .i64 (((j + 1 : Nat) : Int) - 1) = ((j : Nat) : Int) := by rw [IntWalk.i64_in _ (by omega)]; omega
    have hgo := hgold j (by omega)
    have hRj := hRl j
    have hn0 : ¬ ((e.accept.length : Nat) : Int) = 0 := by omega
    have w1 : IntKind.wrap .i64 (((p : Nat) : Int).tdiv (e.accept.length : Nat)) = ((p / e.accept.length : Nat) : Int) := by
      rw [show ((p : Nat) : Int).tdiv (e.accept.length : Nat) = ((p / e.accept.length : Nat) : Int) from rfl]
      have := Nat.div_le_self p e.accept.length
      generalize p / e.accept.length = y at *
      rw [IntWalk.i64_in _ (by omega)]
    have w2 : ((p : Nat) : Int).tmod (e.accept.length : Nat) = ((p % e.accept.length : Nat) : Int) := rfl
    have hstp := fun a ha => hst p a hx3 ha
    have hgg : ∀ a, a < K → (R j)[st p a]? = some (gW K st t j (st p a)) := fun a ha => by rw [hR]; exact rowG_get K st t (hstp a ha)
    generalize p / e.accept.length = p1 at *
    generalize p % e.accept.length = p2 at *
    generalize R j = Rj at *
    repeat first | refine opsStep ?_ | refine codeStep ?_ | refine drawStep ?_
    refine loopE_of (ι := {a : Nat // a ≤ leastA K st t j p}) (fun a => (fr [(2, .ref 0 0 0), (5, .int .i64 (e.accept.length : Nat)), (7, .sl .any (k + 1) G), (12, .hs 1 out.length 0 out.length 1), (13, .int .i64 (p : Nat)), (14, .int .i64 (j + 1 : Nat)), (15, .int .i64 (a.1 : Nat))], [Blk.cells 0 (d.cells ++ e.cells), .cells out.length (iW out)])) (fun a => K - a.1) ⟨0, Nat.zero_le _⟩ (Ent.fr' ⟨(by kernel_rfl), (by kernel_rfl), (by kernel_rfl), (by kernel_rfl), (by kernel_rfl), (by kernel_rfl), (by kernel_rfl), trivial⟩ (by kernel_rfl)) ?_
    rintro ⟨a, ha⟩
    have hal : a < K := by omega
    obtain ⟨c1, c2, q1, q2, q3, q4, q5⟩ := g7 a hal
    have hto := hstp a hal
    have hgg := hgg a hal
    have hlae := hlae a
    have hcb : c1 * e.accept.length ≤ 256 * 256 := Nat.mul_le_mul (by omega) (by omega)
    have w3 : IntKind.wrap .i64 ((c1 : Int) * (e.accept.length : Int)) = ((c1 * e.accept.length : Nat) : Int) := by
      rw [← Int.natCast_mul]
      generalize c1 * e.accept.length = z at *
      rw [IntWalk.i64_in _ (by omega)]
    have w4 : IntKind.wrap .i64 (((c1 * e.accept.length : Nat) : Int) + (c2 : Int)) = ((st p a : Nat) : Int) := by
      rw [← Int.natCast_add, q3, IntWalk.i64_in _ (by omega)]
    repeat first | refine opsStep ?_ | refine codeStep ?_ | refine drawStep ?_
    refine SW.drawn rfl (by kernel_rfl) ?_
    repeat first | refine opsStep ?_ | refine codeStep ?_ | refine drawStep ?_
    refine guardE_of (by show (0 : Int) ≤ IntKind.wrap .i64 (((j + 1 : Nat) : Int) - 1) ∧ IntKind.wrap .i64 (((j + 1 : Nat) : Int) - 1) < ((k + 1 : Nat) : Int); rw [hwj]; omega) ?_
    repeat first | refine opsStep ?_ | refine codeStep ?_ | refine drawStep ?_
    refine optE_of (c := rowB Rj) (by rw [hwj]; simpa [Value.cells] using hgo) ?_
    repeat first | refine opsStep ?_ | refine codeStep ?_ | refine drawStep ?_
    refine optE_of (c := .int .i64 p1) (by show (if ((e.accept.length : Nat) : Int) = 0 then none else some (AV.int .i64 (IntKind.wrap .i64 (((p : Nat) : Int).tdiv (e.accept.length : Nat))))) = _; rw [if_neg hn0, w1]) ?_
    repeat first | refine opsStep ?_ | refine codeStep ?_ | refine drawStep ?_
    refine guardE_of (by simp; omega) ?_
    repeat first | refine opsStep ?_ | refine codeStep ?_ | refine drawStep ?_
    refine optE_of (c := aIs r1.1 r1.2) (by simp [Value.cells, g1]) ?_
    repeat first | refine opsStep ?_ | refine codeStep ?_ | refine drawStep ?_
    refine guardE_of (by simp; omega) ?_
    repeat first | refine opsStep ?_ | refine codeStep ?_ | refine drawStep ?_
    refine optE_of (c := .int .i64 (c1 : Nat)) (by simp [Value.cells, q1]) ?_
    repeat first | refine opsStep ?_ | refine codeStep ?_ | refine drawStep ?_
    refine optE_of (c := .int .i64 p2) (by show (if ((e.accept.length : Nat) : Int) = 0 then none else some (AV.int .i64 (((p : Nat) : Int).tmod (e.accept.length : Nat)))) = _; rw [if_neg hn0, w2]) ?_
    repeat first | refine opsStep ?_ | refine codeStep ?_ | refine drawStep ?_
    refine guardE_of (by simp; omega) ?_
    repeat first | refine opsStep ?_ | refine codeStep ?_ | refine drawStep ?_
    refine optE_of (c := aIs r2.1 r2.2) (by simp [Value.cells, g2]) ?_
    repeat first | refine opsStep ?_ | refine codeStep ?_ | refine drawStep ?_
    refine guardE_of (by simp; omega) ?_
    repeat first | refine opsStep ?_ | refine codeStep ?_ | refine drawStep ?_
    refine optE_of (c := .int .i64 (c2 : Nat)) (by simp [Value.cells, q2]) ?_
    repeat first | refine opsStep ?_ | refine codeStep ?_ | refine drawStep ?_
    refine guardE_of (by show (0 : Int) ≤ IntKind.wrap .i64 (IntKind.wrap .i64 ((c1 : Int) * (e.accept.length : Int)) + (c2 : Int)) ∧ IntKind.wrap .i64 (IntKind.wrap .i64 ((c1 : Int) * (e.accept.length : Int)) + (c2 : Int)) < ((Rj.length : Nat) : Int); rw [w3, w4, hRj]; omega) ?_
    repeat first | refine opsStep ?_ | refine codeStep ?_ | refine drawStep ?_
    refine optE_of (c := .bool (gW K st t j (st p a))) (by rw [w3, w4]; simpa [Value.cells] using hgg) ?_
    repeat first | refine opsStep ?_ | refine codeStep ?_ | refine drawStep ?_
    refine ⟨by kernel_rfl, ?_⟩
    cases hv : gW K st t j (st p a) with
    | false =>
      have hne : a ≠ leastA K st t j p := fun e => by rw [e, la2] at hv; simp at hv
      repeat first | refine opsStep ?_ | refine codeStep ?_ | refine drawStep ?_
      exact ⟨⟨a + 1, by omega⟩, (by show K - (a + 1) < K - a; omega), Ent.fr' ⟨(by kernel_rfl), (by kernel_rfl), (by kernel_rfl), (by kernel_rfl), (by kernel_rfl), (by kernel_rfl), inc_slot (i := a) (by omega), trivial⟩ (by kernel_rfl)⟩
    | true =>
      have hae : leastA K st t j p = a := hlae hv fun b hb => la3 b (by omega)
      rw [hae] at hx1
      generalize st p a = to at *
      repeat first | refine opsStep ?_ | refine codeStep ?_ | refine drawStep ?_
      refine guardE_of ⟨rfl, by simp [iW_length]⟩ ?_
      refine guardE_of rfl ?_
      refine guardE_of ⟨by show out.length + 1 ≤ 9223372036854775807; omega, by show (out.length + 1) * 8 ≤ 140737488355328; omega⟩ ?_
      repeat first | refine opsStep ?_ | refine codeStep ?_ | refine drawStep ?_
      refine SW.drawn rfl (by kernel_rfl) ?_
      repeat first | refine opsStep ?_ | refine codeStep ?_ | refine drawStep ?_
      refine optE_of (c := .int .i64 p1) (by show (if ((e.accept.length : Nat) : Int) = 0 then none else some (AV.int .i64 (IntKind.wrap .i64 (((p : Nat) : Int).tdiv (e.accept.length : Nat))))) = _; rw [if_neg hn0, w1]) ?_
      repeat first | refine opsStep ?_ | refine codeStep ?_ | refine drawStep ?_
      refine guardE_of (by simp; omega) ?_
      repeat first | refine opsStep ?_ | refine codeStep ?_ | refine drawStep ?_
      refine optE_of (c := aIs r1.1 r1.2) (by simp [Value.cells, g1]) ?_
      repeat first | refine opsStep ?_ | refine codeStep ?_ | refine drawStep ?_
      refine guardE_of (by simp; omega) ?_
      repeat first | refine opsStep ?_ | refine codeStep ?_ | refine drawStep ?_
      refine optE_of (c := .int .i64 (c1 : Nat)) (by simp [Value.cells, q1]) ?_
      repeat first | refine opsStep ?_ | refine codeStep ?_ | refine drawStep ?_
      refine optE_of (c := .int .i64 p2) (by show (if ((e.accept.length : Nat) : Int) = 0 then none else some (AV.int .i64 (((p : Nat) : Int).tmod (e.accept.length : Nat)))) = _; rw [if_neg hn0, w2]) ?_
      repeat first | refine opsStep ?_ | refine codeStep ?_ | refine drawStep ?_
      refine guardE_of (by simp; omega) ?_
      repeat first | refine opsStep ?_ | refine codeStep ?_ | refine drawStep ?_
      refine optE_of (c := aIs r2.1 r2.2) (by simp [Value.cells, g2]) ?_
      repeat first | refine opsStep ?_ | refine codeStep ?_ | refine drawStep ?_
      refine guardE_of (by simp; omega) ?_
      repeat first | refine opsStep ?_ | refine codeStep ?_ | refine drawStep ?_
      refine optE_of (c := .int .i64 (c2 : Nat)) (by simp [Value.cells, q2]) ?_
      repeat first | refine opsStep ?_ | refine codeStep ?_ | refine drawStep ?_
      refine ⟨by kernel_rfl, ?_⟩
      repeat first | refine opsStep ?_ | refine codeStep ?_ | refine drawStep ?_
      refine ⟨⟨(out ++ [a], to, j), ?_, hv, hto, by simp only; omega, by simp only [List.length_append, List.length_singleton]; omega⟩, (by show j < j + 1; omega), ?_⟩
      · show (out ++ [a]) ++ grW K st t j to = W
        rw [List.append_assoc]; exact hx1
      refine Ent.to (Ent.frT (H' := [Blk.cells 0 (d.cells ++ e.cells), .cells (out.length + 1) (((iW out).drop 0).take (out.length * 1) ++ [.int .i64 (a : Nat)])]) 2 ⟨(by kernel_rfl), (by kernel_rfl), (by kernel_rfl), ?_, ?_, ?_, trivial⟩ (by kernel_rfl) (Nat.zero_le _) (by simp [frBel, AV.bel, bels, hgbel]) ?_) ?_
      · refine Eq.trans (b := .hs 1 (out.length + 1) 0 (out.length + 1) 1) (by kernel_rfl) ?_
        simp
      · refine Eq.trans (b := .int .i64 (IntKind.wrap .i64 (IntKind.wrap .i64 ((c1 : Int) * (e.accept.length : Int)) + (c2 : Int)))) (by kernel_rfl) ?_
        rw [w3, w4]
      · refine Eq.trans (b := .int .i64 (IntKind.wrap .i64 (((j + 1 : Nat) : Int) - 1))) (by kernel_rfl) ?_
        rw [hwj]
      · simp only [blksBel, Blk.bel, bels_append]
        exact ⟨⟨cells_bel _ _, cells_bel _ _⟩, ⟨bels_td (iW_bel _ _), by simp [bels, AV.bel]⟩, trivial⟩
      · rw [td_all (l := iW out) (by rw [iW_length]; omega), ← iW_snoc]
        show _ = [Blk.cells 0 (d.cells ++ e.cells), Blk.cells (out ++ [a]).length (iW (out ++ [a]))]
        rw [List.length_append, List.length_singleton]
  have hj0 : j = 0 := by
    have : ¬ (0 : Int) < ((j : Nat) : Int) := hj
    omega
  subst hj0
  have hWe : out = W := by rw [grW, List.append_nil] at hx1; exact hx1
  subst hWe
  have hke : out.length = k := by simpa using hx5
  subst hke
  repeat first | refine opsStep ?_ | refine codeStep ?_ | refine drawStep ?_
  exact finFrz 4 (b := 1) (g := out.length) (es := 1) (by kernel_rfl) (by kernel_rfl) (by simp [iW_length]) rfl

end Tab

/- tabardlaw21: table, fixed. -/
namespace Tab
open Go Go.Proofs
set_option maxRecDepth 10000
set_option linter.unusedVariables false
set_option linter.unusedSimpArgs false
set_option linter.unusedSectionVars false

def dF : Den := ⟨.any, [[120]], .any, [false, false, false, false, true], .any, [(.any, [1, 2]), (.any, [2, 3]), (.any, [2, 2]), (.any, [4, 2]), (.any, [4, 2])]⟩
def dT : Den := ⟨.any, [[120]], .any, [false, true], .any, [(.any, [1, 1]), (.any, [1, 1])]⟩
def tbF : Aut := packA dF
def tbT : Aut := packA dT
theorem dF_ok : DenOk dF := ⟨by decide, by decide, by decide, by decide, by decide⟩
theorem dT_ok : DenOk dT := ⟨by decide, by decide, by decide, by decide, by decide⟩
theorem dF_right : rightS dF = true := by kernel_rfl
theorem dT_right : rightS dT = true := by kernel_rfl
theorem pk_F : Pure Tryz.prog 40 [aDen dF] (.tup [aAut tbF, .int .i64 0]) := r12_Pack dF dF_ok dF_right fun r _ => by
  have := (cubR_len dF.tracks.length r 0 0).1
  have e : 2 ^ dF.tracks.length = 2 := rfl
  omega
theorem pk_T : Pure Tryz.prog 40 [aDen dT] (.tup [aAut tbT, .int .i64 0]) := r12_Pack dT dT_ok dT_right fun r _ => by
  have := (cubR_len dT.tracks.length r 0 0).1
  have e : 2 ^ dT.tracks.length = 2 := rfl
  omega
theorem tbF_check : checkS tbF = true := by kernel_rfl
theorem tbT_check : checkS tbT = true := by kernel_rfl
theorem tbF_den : unpD tbF = dF := by rw [unpD_ok tbF_check]; kernel_rfl
theorem tbT_den : unpD tbT = dT := by rw [unpD_ok tbT_check]; kernel_rfl
theorem tb_names : unN dF dT = [[120]] := by kernel_rfl
theorem tb_opE : opE tbF tbT = 0 := opE_ok (by rw [tbF_check, tbT_check]; rfl) (by rw [tbF_den, tbT_den, tb_names]; decide)
theorem tb_opA : (opA tbF tbT).rows = [[1, 2], [2, 3], [2, 2], [4, 2], [4, 2]] ∧ (opA tbF tbT).accept = [false, false, false, false, true] ∧ (opA tbF tbT).tracks.length = 1 := by
  rw [(opA_ok tb_opE).1, tbF_den, tbT_den]
  exact ⟨by kernel_rfl, by kernel_rfl, by kernel_rfl⟩
theorem tb_opB : (opB tbF tbT).rows = [[1, 1], [1, 1]] ∧ (opB tbF tbT).accept = [false, true] := by
  rw [(opA_ok tb_opE).2, tbF_den, tbT_den]
  exact ⟨by kernel_rfl, by kernel_rfl⟩
theorem tb_one : ∀ (v : List Nat), (∀ x ∈ v, x < 2) → runN [[1, 1], [1, 1]] 1 v = 1
  | [], _ => rfl
  | a :: v, h => by
    have ha := h a (by simp)
    have : stepN [[1, 1], [1, 1]] 1 a = 1 := by
      have : a = 0 ∨ a = 1 := by omega
      rcases this with rfl | rfl <;> rfl
    show runN _ (stepN [[1, 1], [1, 1]] 1 a) v = 1
    rw [this]
    exact tb_one v fun x hx => h x (by simp [hx])
theorem tb_all (v : List Nat) (hne : v ≠ []) (h : ∀ x ∈ v, x < 2) : accN (opB tbF tbT).accept (runN (opB tbF tbT).rows 0 v) = true := by
  rw [tb_opB.1, tb_opB.2]
  cases v with
  | nil => exact absurd rfl hne
  | cons a v =>
    have ha := h a (by simp)
    have : stepN [[1, 1], [1, 1]] 0 a = 1 := by
      have : a = 0 ∨ a = 1 := by omega
      rcases this with rfl | rfl <;> rfl
    show accN _ (runN _ (stepN [[1, 1], [1, 1]] 0 a) v) = true
    rw [this, tb_one v fun x hx => h x (by simp [hx])]
    rfl
theorem tb_within : noneB qW tbF tbT = true := by
  rw [noneB_ok tb_opE, cmpO, firstO_eq (o := none) ?_]
  · rfl
  · intro v hne hv
    rw [tb_opA.2.2] at hv
    rw [askT_eq, tb_all v hne hv, qW]; simp
theorem tb_apart : apV tbF tbT = .tup [aSs .any [[120]], .sl .any 1 (iW [0]), .int .i64 0] := by
  have h : tellO qS tbF tbT = some [0] := by
    rw [tellO_ok tb_opE, cmpO]
    refine firstO_eq ⟨by simp, ?_, ?_, ?_⟩
    · rw [tb_opA.2.2]; simp
    · rw [askT_eq, tb_opA.1, tb_opA.2.1, tb_opB.1, tb_opB.2]; rfl
    · intro v hne _ _
      match v, hne with
      | [0], _ => exact .inr rfl
      | [a + 1], _ => exact .inl (.inr ⟨rfl, rfl⟩)
      | a :: b :: v, _ => exact .inl (.inl (by simp))
  rw [apV, if_pos tb_opE, h, tbF_den, tbT_den, tb_names]; rfl
theorem pack_ok {d : Den} (hd : DenOk d) (hl : d.next.length ≤ 1000) (ho : ∀ r ∈ d.rows, ∀ x ∈ r, okI x) (h6 : d.tracks.length ≤ 6) (h32 : ∀ r ∈ d.rows, (cubR d.tracks.length r 0 0).length ≤ 32) : AutOk (packA d) where
  tracks := hd.tracks
  names := hd.names
  accept := hd.accept
  starts := by show (packS d d.next.length).length * 8 ≤ _; rw [packS_length]; omega
  arena := by show (packC d d.next.length).length * 24 ≤ _; have := packC_len h32 d.next.length; omega
  cubes := by
    intro c hc
    obtain ⟨r, hr, hc⟩ := List.mem_flatMap.1 hc
    exact cubR_ok _ h6 r 0 0 (ho r (List.mem_of_mem_take hr)) (by omega) (by omega) c hc
theorem tbF_ok : AutOk tbF := pack_ok dF_ok (by decide) (by unfold okI; decide) (by decide) fun r _ => by
  have := (cubR_len dF.tracks.length r 0 0).1
  have e : 2 ^ dF.tracks.length = 2 := rfl
  omega
theorem tbT_ok : AutOk tbT := pack_ok dT_ok (by decide) (by unfold okI; decide) (by decide) fun r _ => by
  have := (cubR_len dT.tracks.length r 0 0).1
  have e : 2 ^ dT.tracks.length = 2 := rfl
  omega

end Tab

/- tabardlaw21: table, fixed, walked. -/
namespace Tab
open Go Go.Proofs
set_option maxRecDepth 10000
set_option linter.unusedVariables false
set_option linter.unusedSimpArgs false
set_option linter.unusedSectionVars false

theorem law21_tableF : Pure Tryz.prog 20 [.bool false] (aAut tbF) := by
  have hp := pk_F
  have e : aAut tbF = .agg [aSs tbF.tk tbF.tracks, aBs tbF.ak tbF.accept, aIs tbF.sk tbF.starts, aCs tbF.ck tbF.arena] := rfl
  have c1 := aSs_closed tbF.tk tbF.tracks
  have c2 := aBs_closed tbF.ak tbF.accept
  have c3 := aIs_closed tbF.sk tbF.starts
  have c4 := aCs_closed tbF.ck tbF.arena
  rw [e] at hp ⊢
  generalize aSs tbF.tk tbF.tracks = x1 at *
  generalize aBs tbF.ak tbF.accept = x2 at *
  generalize aIs tbF.sk tbF.starts = x3 at *
  generalize aCs tbF.ck tbF.arena = x4 at *
  refine Pure.of_sw 28 Tryz.func20 rfl Tryz.ntmps20 (by kernel_rfl) (Nat.le_of_ble_eq_true (by kernel_rfl)) (by simp [closeds, AV.closed]) (by simp [closeds, AV.closed, c1, c2, c3, c4]) ?_; refine SW.of_vc ?_
  repeat first | refine opsStep ?_ | refine codeStep ?_ | refine drawStep ?_
  refine optX_of (c := [.bool false, .bool false, .bool false, .bool false, .bool true]) (by kernel_rfl) ?_
  repeat first | refine opsStep ?_ | refine codeStep ?_ | refine drawStep ?_
  refine optX_of (c := [.int .i64 1, .int .i64 2]) (by kernel_rfl) ?_
  repeat first | refine opsStep ?_ | refine codeStep ?_ | refine drawStep ?_
  refine optX_of (c := [.int .i64 2, .int .i64 3]) (by kernel_rfl) ?_
  repeat first | refine opsStep ?_ | refine codeStep ?_ | refine drawStep ?_
  refine optX_of (c := [.int .i64 2, .int .i64 2]) (by kernel_rfl) ?_
  repeat first | refine opsStep ?_ | refine codeStep ?_ | refine drawStep ?_
  refine optX_of (c := [.int .i64 4, .int .i64 2]) (by kernel_rfl) ?_
  repeat first | refine opsStep ?_ | refine codeStep ?_ | refine drawStep ?_
  refine optX_of (c := [.int .i64 4, .int .i64 2]) (by kernel_rfl) ?_
  repeat first | refine opsStep ?_ | refine codeStep ?_ | refine drawStep ?_
  refine optX_of (c := [.hs 3 0 0 2 1, .hs 4 0 0 2 1, .hs 5 0 0 2 1, .hs 6 0 0 2 1, .hs 7 0 0 2 1]) (by kernel_rfl) ?_
  repeat first | refine opsStep ?_ | refine codeStep ?_ | refine drawStep ?_
  refine callF [1, 2, 3, 4, 5, 6, 7, 8] (hp.lend (H := [.cells 0 [.str [120]], .cells 0 [.bool false, .bool false, .bool false, .bool false, .bool true], .cells 0 [.int .i64 1, .int .i64 2], .cells 0 [.int .i64 2, .int .i64 3], .cells 0 [.int .i64 2, .int .i64 2], .cells 0 [.int .i64 4, .int .i64 2], .cells 0 [.int .i64 4, .int .i64 2], .cells 0 [.hs 2 0 0 2 1, .hs 3 0 0 2 1, .hs 4 0 0 2 1, .hs 5 0 0 2 1, .hs 6 0 0 2 1]]) («as» := [.agg [.hs 0 0 0 1 1, .hs 1 0 0 5 1, .hs 7 0 0 5 1]])
    (.cons (.agg (.cons (Rd.whole (g := 0) (by kernel_rfl) (by kernel_rfl)) (.cons (Rd.whole (g := 0) (by kernel_rfl) (by kernel_rfl)) (.cons (.hs (blk := .cells 0 [.hs 2 0 0 2 1, .hs 3 0 0 2 1, .hs 4 0 0 2 1, .hs 5 0 0 2 1, .hs 6 0 0 2 1]) (g := 0) (cs := [.hs 2 0 0 2 1, .hs 3 0 0 2 1, .hs 4 0 0 2 1, .hs 5 0 0 2 1, .hs 6 0 0 2 1]) (by kernel_rfl) (by kernel_rfl) (Nat.le_refl 5) (.cons (Rd.whole (g := 0) (by kernel_rfl) (by kernel_rfl)) (.cons (Rd.whole (g := 0) (by kernel_rfl) (by kernel_rfl)) (.cons (Rd.whole (g := 0) (by kernel_rfl) (by kernel_rfl)) (.cons (Rd.whole (g := 0) (by kernel_rfl) (by kernel_rfl)) (.cons (Rd.whole (g := 0) (by kernel_rfl) (by kernel_rfl)) .nil)))))) .nil)))) .nil)) (by decide) (by intro b hb; simp at hb; show b < 10; omega) rfl ?_ ?_ ?_ ?_ ?_
  · rfl
  · simp [bels, AV.bel]
  · simp [blksBel, Blk.bel, bels, AV.bel]
  · rfl
  · rintro o H' ⟨rfl, rfl⟩
    repeat first | refine opsStep ?_ | refine codeStep ?_ | refine drawStep ?_
    exact finV (v' := .agg [x1.rn (rnB [1, 2, 3, 4, 5, 6, 7, 8] 10), x2.rn (rnB [1, 2, 3, 4, 5, 6, 7, 8] 10), x3.rn (rnB [1, 2, 3, 4, 5, 6, 7, 8] 10), x4.rn (rnB [1, 2, 3, 4, 5, 6, 7, 8] 10)]) (by kernel_rfl) (by rw [AV.closed_rn _ c1, AV.closed_rn _ c2, AV.closed_rn _ c3, AV.closed_rn _ c4])

theorem law21_tableT : Pure Tryz.prog 20 [.bool true] (aAut tbT) := by
  have hp := pk_T
  have e : aAut tbT = .agg [aSs tbT.tk tbT.tracks, aBs tbT.ak tbT.accept, aIs tbT.sk tbT.starts, aCs tbT.ck tbT.arena] := rfl
  have c1 := aSs_closed tbT.tk tbT.tracks
  have c2 := aBs_closed tbT.ak tbT.accept
  have c3 := aIs_closed tbT.sk tbT.starts
  have c4 := aCs_closed tbT.ck tbT.arena
  rw [e] at hp ⊢
  generalize aSs tbT.tk tbT.tracks = x1 at *
  generalize aBs tbT.ak tbT.accept = x2 at *
  generalize aIs tbT.sk tbT.starts = x3 at *
  generalize aCs tbT.ck tbT.arena = x4 at *
  refine Pure.of_sw 28 Tryz.func20 rfl Tryz.ntmps20 (by kernel_rfl) (Nat.le_of_ble_eq_true (by kernel_rfl)) (by simp [closeds, AV.closed]) (by simp [closeds, AV.closed, c1, c2, c3, c4]) ?_; refine SW.of_vc ?_
  repeat first | refine opsStep ?_ | refine codeStep ?_ | refine drawStep ?_
  refine optX_of (c := [.bool false, .bool false, .bool false, .bool false, .bool true]) (by kernel_rfl) ?_
  repeat first | refine opsStep ?_ | refine codeStep ?_ | refine drawStep ?_
  refine optX_of (c := [.int .i64 1, .int .i64 2]) (by kernel_rfl) ?_
  repeat first | refine opsStep ?_ | refine codeStep ?_ | refine drawStep ?_
  refine optX_of (c := [.int .i64 2, .int .i64 3]) (by kernel_rfl) ?_
  repeat first | refine opsStep ?_ | refine codeStep ?_ | refine drawStep ?_
  refine optX_of (c := [.int .i64 2, .int .i64 2]) (by kernel_rfl) ?_
  repeat first | refine opsStep ?_ | refine codeStep ?_ | refine drawStep ?_
  refine optX_of (c := [.int .i64 4, .int .i64 2]) (by kernel_rfl) ?_
  repeat first | refine opsStep ?_ | refine codeStep ?_ | refine drawStep ?_
  refine optX_of (c := [.int .i64 4, .int .i64 2]) (by kernel_rfl) ?_
  repeat first | refine opsStep ?_ | refine codeStep ?_ | refine drawStep ?_
  refine optX_of (c := [.hs 3 0 0 2 1, .hs 4 0 0 2 1, .hs 5 0 0 2 1, .hs 6 0 0 2 1, .hs 7 0 0 2 1]) (by kernel_rfl) ?_
  repeat first | refine opsStep ?_ | refine codeStep ?_ | refine drawStep ?_
  refine optX_of (c := [.bool false, .bool true]) (by kernel_rfl) ?_
  repeat first | refine opsStep ?_ | refine codeStep ?_ | refine drawStep ?_
  refine optX_of (c := [.int .i64 1, .int .i64 1]) (by kernel_rfl) ?_
  repeat first | refine opsStep ?_ | refine codeStep ?_ | refine drawStep ?_
  refine optX_of (c := [.int .i64 1, .int .i64 1]) (by kernel_rfl) ?_
  repeat first | refine opsStep ?_ | refine codeStep ?_ | refine drawStep ?_
  refine optX_of (c := [.hs 12 0 0 2 1, .hs 13 0 0 2 1]) (by kernel_rfl) ?_
  repeat first | refine opsStep ?_ | refine codeStep ?_ | refine drawStep ?_
  refine callF [10, 11, 12, 13, 14] (hp.lend (H := [.cells 0 [.str [120]], .cells 0 [.bool false, .bool true], .cells 0 [.int .i64 1, .int .i64 1], .cells 0 [.int .i64 1, .int .i64 1], .cells 0 [.hs 2 0 0 2 1, .hs 3 0 0 2 1]]) («as» := [.agg [.hs 0 0 0 1 1, .hs 1 0 0 2 1, .hs 4 0 0 2 1]])
    (.cons (.agg (.cons (Rd.whole (g := 0) (by kernel_rfl) (by kernel_rfl)) (.cons (Rd.whole (g := 0) (by kernel_rfl) (by kernel_rfl)) (.cons (.hs (blk := .cells 0 [.hs 2 0 0 2 1, .hs 3 0 0 2 1]) (g := 0) (cs := [.hs 2 0 0 2 1, .hs 3 0 0 2 1]) (by kernel_rfl) (by kernel_rfl) (Nat.le_refl 2) (.cons (Rd.whole (g := 0) (by kernel_rfl) (by kernel_rfl)) (.cons (Rd.whole (g := 0) (by kernel_rfl) (by kernel_rfl)) .nil))) .nil)))) .nil)) (by decide) (by intro b hb; simp at hb; show b < 15; omega) rfl ?_ ?_ ?_ ?_ ?_
  · rfl
  · simp [bels, AV.bel]
  · simp [blksBel, Blk.bel, bels, AV.bel]
  · rfl
  · rintro o H' ⟨rfl, rfl⟩
    repeat first | refine opsStep ?_ | refine codeStep ?_ | refine drawStep ?_
    exact finV (v' := .agg [x1.rn (rnB [10, 11, 12, 13, 14] 15), x2.rn (rnB [10, 11, 12, 13, 14] 15), x3.rn (rnB [10, 11, 12, 13, 14] 15), x4.rn (rnB [10, 11, 12, 13, 14] 15)]) (by kernel_rfl) (by rw [AV.closed_rn _ c1, AV.closed_rn _ c2, AV.closed_rn _ c3, AV.closed_rn _ c4])

theorem law21_fixed : Pure Tryz.prog 8 [] (.bool true) := by
  have h1 := law21_tableF
  have h2 := law21_tableT
  have hw := cmp_Within tbF tbT tbF_ok tbT_ok
  have ha := cmp_Apart tbF tbT tbF_ok tbT_ok
  rw [tb_within, tb_opE] at hw
  rw [tb_apart] at ha
  generalize tbF = a at *
  generalize tbT = b at *
  refine Pure.of_sw 50 Tryz.func8 rfl Tryz.ntmps8 (by kernel_rfl) (Nat.le_of_ble_eq_true (by kernel_rfl)) (by simp [closeds, AV.closed, aSs_closed, aIs_closed, aBs_closed, aRs_closed, aDen_closed]) (by simp [AV.closed, closeds, aSs_closed, aIs_closed, aBs_closed, aRs_closed, aDen_closed]) ?_; refine SW.of_vc ?_
  repeat first | refine opsStep ?_ | refine codeStep ?_ | refine drawStep ?_
  refine callP h1 ?_
  repeat first | refine opsStep ?_ | refine codeStep ?_ | refine drawStep ?_
  refine callP h2 ?_
  repeat first | refine opsStep ?_ | refine codeStep ?_ | refine drawStep ?_
  refine callP hw ?_
  repeat first | refine opsStep ?_ | refine codeStep ?_ | refine drawStep ?_
  refine callP h1 ?_
  repeat first | refine opsStep ?_ | refine codeStep ?_ | refine drawStep ?_
  refine callP h2 ?_
  repeat first | refine opsStep ?_ | refine codeStep ?_ | refine drawStep ?_
  refine callP ha ?_
  repeat first | refine opsStep ?_ | refine codeStep ?_ | refine drawStep ?_
  exact finB (b' := true) (by kernel_rfl) rfl

end Tab

/- Layer 21: the law CompareWithin. -/
namespace Tab
open Go Go.Proofs
set_option maxRecDepth 10000
set_option linter.unusedVariables false
set_option linter.unusedSimpArgs false
set_option linter.unusedSectionVars false

theorem askQ0 : askQ 0 = qW := by funext a b; cases a <;> cases b <;> rfl
theorem askQ1 : askQ 1 = qS := by funext a b; cases a <;> cases b <;> rfl
theorem copyA_op (a b : Aut) : opE (copyA a) (copyA b) = opE a b ∧ opA (copyA a) (copyA b) = opA a b ∧ opB (copyA a) (copyA b) = opB a b := by
  have h : opE (copyA a) (copyA b) = opE a b := by rw [opE, opE, copyA_check, copyA_check, (copyA_unp a).1, (copyA_unp b).1]
  refine ⟨h, ?_, ?_⟩
  · rw [opA, opA, h, (copyA_unp a).1, (copyA_unp b).1]
  · rw [opB, opB, h, (copyA_unp a).1, (copyA_unp b).1]
theorem copyA_none (q) (a b : Aut) : noneB q (copyA a) (copyA b) = noneB q a b := by
  obtain ⟨h1, h2, h3⟩ := copyA_op a b
  by_cases h : opE a b = 0
  · rw [noneB_ok (h1.trans h), noneB_ok h, h2, h3]
  · rw [noneB_bad (by rw [h1]; exact h), noneB_bad h]

set_option maxHeartbeats 1000000 in
theorem law_CompareWithin (a b : Aut) (ha : AutOk a) (hb : AutOk b) : Pure Tryz.prog 4 [aAut a, aAut b] (.bool true) := by
  have hca := r12_Copy a ha
  have hcb := r12_Copy b hb
  have hw := cmp_Within (copyA a) (copyA b) (copyA_ok ha) (copyA_ok hb)
  have hs := cmp_Same (copyA a) (copyA b) (copyA_ok ha) (copyA_ok hb)
  rw [copyA_none, (copyA_op a b).1] at hw hs
  have ho := r21_Open a b ha hb
  have hsa := r12_SameC a ha
  have hsb := r12_SameC b hb
  have hbw := fun h => noneB_bad (q := qW) (a := a) (b := b) h
  have hbs := fun h => noneB_bad (q := qS) (a := a) (b := b) h
  have hgood : opE a b = 0 → Pure Tryz.prog 9 [.agg ((opA a b).cells ++ (opB a b).cells), .int .i64 0] (.int .i64 (lenC (opA a b) (opB a b) 0 : Nat)) ∧ Pure Tryz.prog 9 [.agg ((opA a b).cells ++ (opB a b).cells), .int .i64 1] (.int .i64 (lenC (opA a b) (opB a b) 1 : Nat)) ∧
      noneB qW a b = decide ((lenC (opA a b) (opB a b) 0 : Int) = 0) ∧ noneB qS a b = decide ((lenC (opA a b) (opB a b) 1 : Int) = 0) := fun hz => by
    obtain ⟨_, _, _, _, r1, r2, t1, t2⟩ := op_made hz
    have hk : (opA a b).tracks.length = (opB a b).tracks.length := by rw [t1, t2]
    have key : ∀ q, (cmpO (opA a b) (opB a b) (askQ q)).isNone = decide ((lenC (opA a b) (opB a b) q : Int) = 0) := fun q => by
      cases ho : cmpO (opA a b) (opB a b) (askQ q) with
      | none => rw [lenC_none r1 r2 hk q ho]; rfl
      | some w =>
        have hs := cmpO_spec (opA a b) (opB a b) (askQ q) r1 r2 hk
        rw [ho] at hs
        rw [lenC_some r1 r2 hk q ho]
        have : w.length ≠ 0 := fun e => hs.1 (List.length_eq_zero_iff.1 e)
        rw [decide_eq_false (by omega)]; rfl
    exact ⟨r21_Length _ _ 0 r1 r2 hk, r21_Length _ _ 1 r1 r2 hk, by rw [noneB_ok hz, ← askQ0, key], by rw [noneB_ok hz, ← askQ1, key]⟩
  have hz3 : opE a b = 0 ∨ opE a b = 3 ∨ opE a b = 150 := by rw [opE]; split; split; simp; simp; simp
  generalize hca' : copyA a = ca at *
  generalize hcb' : copyA b = cb at *
  generalize noneB qW a b = v1 at *
  generalize noneB qS a b = v2 at *
  generalize opE a b = z at *
  generalize opA a b = x at *
  generalize opB a b = y at *
  generalize lenC x y 0 = n0 at *
  generalize lenC x y 1 = n1 at *
  rcases hz3 with rfl | hz3
  · obtain ⟨l0, l1, e1, e2⟩ := hgood rfl
    clear hgood hbw hbs
    rcases Nat.eq_zero_or_pos n0 with rfl | g0
    · have e1 : v1 = true := e1
      rcases Nat.eq_zero_or_pos n1 with rfl | g1
      · have e2 : v2 = true := e2
        subst e1
        subst e2
        refine Pure.of_sw 79 Tryz.func4 rfl Tryz.ntmps4 (by kernel_rfl) (Nat.le_of_ble_eq_true (by kernel_rfl)) (by simp [closeds, AV.closed, aSs_closed, aIs_closed, aBs_closed, aRs_closed, aDen_closed, aCs_closed, aAut_closed]) (by simp [AV.closed, closeds, aSs_closed, aIs_closed, aBs_closed, aRs_closed, aDen_closed, aCs_closed, aAut_closed]) ?_; refine SW.of_vc ?_
        repeat first | refine opsStep ?_ | refine codeStep ?_ | refine drawStep ?_
        refine SW.drawn rfl (by kernel_rfl) ?_
        repeat first | refine opsStep ?_ | refine codeStep ?_ | refine drawStep ?_
        refine .inl ⟨_, _, [], hca, RdsN_refl _, .inr rfl, none_need, ?_⟩
        repeat first | refine opsStep ?_ | refine codeStep ?_ | refine drawStep ?_
        refine .inl ⟨_, _, [], hcb, RdsN_refl _, .inr rfl, none_need, ?_⟩
        repeat first | refine opsStep ?_ | refine codeStep ?_ | refine drawStep ?_
        refine ⟨by kernel_rfl, ?_⟩
        repeat first | refine opsStep ?_ | refine codeStep ?_ | refine drawStep ?_
        refine callP hw ?_
        repeat first | refine opsStep ?_ | refine codeStep ?_ | refine drawStep ?_
        refine callP hs ?_
        repeat first | refine opsStep ?_ | refine codeStep ?_ | refine drawStep ?_
        refine callP ho ?_
        repeat first | refine opsStep ?_ | refine codeStep ?_ | refine drawStep ?_
        refine callP law21_fixed ?_
        repeat first | refine opsStep ?_ | refine codeStep ?_ | refine drawStep ?_
        refine callP hsa ?_
        repeat first | refine opsStep ?_ | refine codeStep ?_ | refine drawStep ?_
        refine callP hsb ?_
        repeat first | refine opsStep ?_ | refine codeStep ?_ | refine drawStep ?_
        refine callP l0 ?_
        repeat first | refine opsStep ?_ | refine codeStep ?_ | refine drawStep ?_
        refine callP l1 ?_
        repeat first | refine opsStep ?_ | refine codeStep ?_ | refine drawStep ?_
        exact finB (b' := true) (by kernel_rfl) rfl
      · have e2 : v2 = false := e2.trans (decide_eq_false (by omega))
        subst e1
        subst e2
        refine Pure.of_sw 79 Tryz.func4 rfl Tryz.ntmps4 (by kernel_rfl) (Nat.le_of_ble_eq_true (by kernel_rfl)) (by simp [closeds, AV.closed, aSs_closed, aIs_closed, aBs_closed, aRs_closed, aDen_closed, aCs_closed, aAut_closed]) (by simp [AV.closed, closeds, aSs_closed, aIs_closed, aBs_closed, aRs_closed, aDen_closed, aCs_closed, aAut_closed]) ?_; refine SW.of_vc ?_
        repeat first | refine opsStep ?_ | refine codeStep ?_ | refine drawStep ?_
        refine SW.drawn rfl (by kernel_rfl) ?_
        repeat first | refine opsStep ?_ | refine codeStep ?_ | refine drawStep ?_
        refine .inl ⟨_, _, [], hca, RdsN_refl _, .inr rfl, none_need, ?_⟩
        repeat first | refine opsStep ?_ | refine codeStep ?_ | refine drawStep ?_
        refine .inl ⟨_, _, [], hcb, RdsN_refl _, .inr rfl, none_need, ?_⟩
        repeat first | refine opsStep ?_ | refine codeStep ?_ | refine drawStep ?_
        refine ⟨by kernel_rfl, ?_⟩
        repeat first | refine opsStep ?_ | refine codeStep ?_ | refine drawStep ?_
        refine callP hw ?_
        repeat first | refine opsStep ?_ | refine codeStep ?_ | refine drawStep ?_
        refine callP hs ?_
        repeat first | refine opsStep ?_ | refine codeStep ?_ | refine drawStep ?_
        refine callP ho ?_
        repeat first | refine opsStep ?_ | refine codeStep ?_ | refine drawStep ?_
        refine callP law21_fixed ?_
        repeat first | refine opsStep ?_ | refine codeStep ?_ | refine drawStep ?_
        refine callP hsa ?_
        repeat first | refine opsStep ?_ | refine codeStep ?_ | refine drawStep ?_
        refine callP hsb ?_
        repeat first | refine opsStep ?_ | refine codeStep ?_ | refine drawStep ?_
        refine callP l0 ?_
        repeat first | refine opsStep ?_ | refine codeStep ?_ | refine drawStep ?_
        refine callP l1 ?_
        repeat first | refine opsStep ?_ | refine codeStep ?_ | refine drawStep ?_
        exact finB (b' := (false == decide (((n1 : Nat) : Int) = 0))) (by kernel_rfl) (by rw [decide_eq_false (by omega)]; rfl)
    · have e1 : v1 = false := e1.trans (decide_eq_false (by omega))
      rcases Nat.eq_zero_or_pos n1 with rfl | g1
      · have e2 : v2 = true := e2
        subst e1
        subst e2
        refine Pure.of_sw 79 Tryz.func4 rfl Tryz.ntmps4 (by kernel_rfl) (Nat.le_of_ble_eq_true (by kernel_rfl)) (by simp [closeds, AV.closed, aSs_closed, aIs_closed, aBs_closed, aRs_closed, aDen_closed, aCs_closed, aAut_closed]) (by simp [AV.closed, closeds, aSs_closed, aIs_closed, aBs_closed, aRs_closed, aDen_closed, aCs_closed, aAut_closed]) ?_; refine SW.of_vc ?_
        repeat first | refine opsStep ?_ | refine codeStep ?_ | refine drawStep ?_
        refine SW.drawn rfl (by kernel_rfl) ?_
        repeat first | refine opsStep ?_ | refine codeStep ?_ | refine drawStep ?_
        refine .inl ⟨_, _, [], hca, RdsN_refl _, .inr rfl, none_need, ?_⟩
        repeat first | refine opsStep ?_ | refine codeStep ?_ | refine drawStep ?_
        refine .inl ⟨_, _, [], hcb, RdsN_refl _, .inr rfl, none_need, ?_⟩
        repeat first | refine opsStep ?_ | refine codeStep ?_ | refine drawStep ?_
        refine ⟨by kernel_rfl, ?_⟩
        repeat first | refine opsStep ?_ | refine codeStep ?_ | refine drawStep ?_
        refine callP hw ?_
        repeat first | refine opsStep ?_ | refine codeStep ?_ | refine drawStep ?_
        refine callP hs ?_
        repeat first | refine opsStep ?_ | refine codeStep ?_ | refine drawStep ?_
        refine callP ho ?_
        repeat first | refine opsStep ?_ | refine codeStep ?_ | refine drawStep ?_
        refine callP law21_fixed ?_
        repeat first | refine opsStep ?_ | refine codeStep ?_ | refine drawStep ?_
        refine callP hsa ?_
        repeat first | refine opsStep ?_ | refine codeStep ?_ | refine drawStep ?_
        refine callP hsb ?_
        repeat first | refine opsStep ?_ | refine codeStep ?_ | refine drawStep ?_
        refine callP l0 ?_
        repeat first | refine opsStep ?_ | refine codeStep ?_ | refine drawStep ?_
        refine decB_true (b := (false == decide (((n0 : Nat) : Int) = 0))) (by rw [decide_eq_false (by omega)]; rfl) ?_
        repeat first | refine opsStep ?_ | refine codeStep ?_ | refine drawStep ?_
        refine callP l1 ?_
        repeat first | refine opsStep ?_ | refine codeStep ?_ | refine drawStep ?_
        exact finB (b' := true) (by kernel_rfl) rfl
      · have e2 : v2 = false := e2.trans (decide_eq_false (by omega))
        subst e1
        subst e2
        refine Pure.of_sw 79 Tryz.func4 rfl Tryz.ntmps4 (by kernel_rfl) (Nat.le_of_ble_eq_true (by kernel_rfl)) (by simp [closeds, AV.closed, aSs_closed, aIs_closed, aBs_closed, aRs_closed, aDen_closed, aCs_closed, aAut_closed]) (by simp [AV.closed, closeds, aSs_closed, aIs_closed, aBs_closed, aRs_closed, aDen_closed, aCs_closed, aAut_closed]) ?_; refine SW.of_vc ?_
        repeat first | refine opsStep ?_ | refine codeStep ?_ | refine drawStep ?_
        refine SW.drawn rfl (by kernel_rfl) ?_
        repeat first | refine opsStep ?_ | refine codeStep ?_ | refine drawStep ?_
        refine .inl ⟨_, _, [], hca, RdsN_refl _, .inr rfl, none_need, ?_⟩
        repeat first | refine opsStep ?_ | refine codeStep ?_ | refine drawStep ?_
        refine .inl ⟨_, _, [], hcb, RdsN_refl _, .inr rfl, none_need, ?_⟩
        repeat first | refine opsStep ?_ | refine codeStep ?_ | refine drawStep ?_
        refine ⟨by kernel_rfl, ?_⟩
        repeat first | refine opsStep ?_ | refine codeStep ?_ | refine drawStep ?_
        refine callP hw ?_
        repeat first | refine opsStep ?_ | refine codeStep ?_ | refine drawStep ?_
        refine callP hs ?_
        repeat first | refine opsStep ?_ | refine codeStep ?_ | refine drawStep ?_
        refine callP ho ?_
        repeat first | refine opsStep ?_ | refine codeStep ?_ | refine drawStep ?_
        refine callP law21_fixed ?_
        repeat first | refine opsStep ?_ | refine codeStep ?_ | refine drawStep ?_
        refine callP hsa ?_
        repeat first | refine opsStep ?_ | refine codeStep ?_ | refine drawStep ?_
        refine callP hsb ?_
        repeat first | refine opsStep ?_ | refine codeStep ?_ | refine drawStep ?_
        refine callP l0 ?_
        repeat first | refine opsStep ?_ | refine codeStep ?_ | refine drawStep ?_
        refine decB_true (b := (false == decide (((n0 : Nat) : Int) = 0))) (by rw [decide_eq_false (by omega)]; rfl) ?_
        repeat first | refine opsStep ?_ | refine codeStep ?_ | refine drawStep ?_
        refine callP l1 ?_
        repeat first | refine opsStep ?_ | refine codeStep ?_ | refine drawStep ?_
        exact finB (b' := (false == decide (((n1 : Nat) : Int) = 0))) (by kernel_rfl) (by rw [decide_eq_false (by omega)]; rfl)
  · have hz : z ≠ 0 := by omega
    have e1 := hbw hz
    have e2 := hbs hz
    clear hgood hbw hbs
    subst e1
    subst e2
    rcases hz3 with rfl | rfl
    · skip
      refine Pure.of_sw 79 Tryz.func4 rfl Tryz.ntmps4 (by kernel_rfl) (Nat.le_of_ble_eq_true (by kernel_rfl)) (by simp [closeds, AV.closed, aSs_closed, aIs_closed, aBs_closed, aRs_closed, aDen_closed, aCs_closed, aAut_closed]) (by simp [AV.closed, closeds, aSs_closed, aIs_closed, aBs_closed, aRs_closed, aDen_closed, aCs_closed, aAut_closed]) ?_; refine SW.of_vc ?_
      repeat first | refine opsStep ?_ | refine codeStep ?_ | refine drawStep ?_
      refine SW.drawn rfl (by kernel_rfl) ?_
      repeat first | refine opsStep ?_ | refine codeStep ?_ | refine drawStep ?_
      refine .inl ⟨_, _, [], hca, RdsN_refl _, .inr rfl, none_need, ?_⟩
      repeat first | refine opsStep ?_ | refine codeStep ?_ | refine drawStep ?_
      refine .inl ⟨_, _, [], hcb, RdsN_refl _, .inr rfl, none_need, ?_⟩
      repeat first | refine opsStep ?_ | refine codeStep ?_ | refine drawStep ?_
      refine ⟨by kernel_rfl, ?_⟩
      repeat first | refine opsStep ?_ | refine codeStep ?_ | refine drawStep ?_
      refine callP hw ?_
      repeat first | refine opsStep ?_ | refine codeStep ?_ | refine drawStep ?_
      refine callP hs ?_
      repeat first | refine opsStep ?_ | refine codeStep ?_ | refine drawStep ?_
      refine callP ho ?_
      repeat first | refine opsStep ?_ | refine codeStep ?_ | refine drawStep ?_
      refine callP law21_fixed ?_
      repeat first | refine opsStep ?_ | refine codeStep ?_ | refine drawStep ?_
      refine callP hsa ?_
      repeat first | refine opsStep ?_ | refine codeStep ?_ | refine drawStep ?_
      refine callP hsb ?_
      repeat first | refine opsStep ?_ | refine codeStep ?_ | refine drawStep ?_
      exact finB (b' := true) (by kernel_rfl) rfl
    · skip
      refine Pure.of_sw 79 Tryz.func4 rfl Tryz.ntmps4 (by kernel_rfl) (Nat.le_of_ble_eq_true (by kernel_rfl)) (by simp [closeds, AV.closed, aSs_closed, aIs_closed, aBs_closed, aRs_closed, aDen_closed, aCs_closed, aAut_closed]) (by simp [AV.closed, closeds, aSs_closed, aIs_closed, aBs_closed, aRs_closed, aDen_closed, aCs_closed, aAut_closed]) ?_; refine SW.of_vc ?_
      repeat first | refine opsStep ?_ | refine codeStep ?_ | refine drawStep ?_
      refine SW.drawn rfl (by kernel_rfl) ?_
      repeat first | refine opsStep ?_ | refine codeStep ?_ | refine drawStep ?_
      refine .inl ⟨_, _, [], hca, RdsN_refl _, .inr rfl, none_need, ?_⟩
      repeat first | refine opsStep ?_ | refine codeStep ?_ | refine drawStep ?_
      refine .inl ⟨_, _, [], hcb, RdsN_refl _, .inr rfl, none_need, ?_⟩
      repeat first | refine opsStep ?_ | refine codeStep ?_ | refine drawStep ?_
      refine ⟨by kernel_rfl, ?_⟩
      repeat first | refine opsStep ?_ | refine codeStep ?_ | refine drawStep ?_
      refine callP hw ?_
      repeat first | refine opsStep ?_ | refine codeStep ?_ | refine drawStep ?_
      refine callP hs ?_
      repeat first | refine opsStep ?_ | refine codeStep ?_ | refine drawStep ?_
      refine callP ho ?_
      repeat first | refine opsStep ?_ | refine codeStep ?_ | refine drawStep ?_
      refine callP law21_fixed ?_
      repeat first | refine opsStep ?_ | refine codeStep ?_ | refine drawStep ?_
      refine callP hsa ?_
      repeat first | refine opsStep ?_ | refine codeStep ?_ | refine drawStep ?_
      refine callP hsb ?_
      repeat first | refine opsStep ?_ | refine codeStep ?_ | refine drawStep ?_
      exact finB (b' := true) (by kernel_rfl) rfl

end Tab

/- Layer 21: the law CompareApart. -/
namespace Tab
open Go Go.Proofs
set_option maxRecDepth 10000
set_option linter.unusedVariables false
set_option linter.unusedSimpArgs false
set_option linter.unusedSectionVars false

theorem apV_copy (a b : Aut) : apV (copyA a) (copyA b) = apV a b := by
  obtain ⟨h1, h2, h3⟩ := copyA_op a b
  rw [apV, apV, h1, tellO, tellO, h1, h2, h3, (copyA_unp a).1, (copyA_unp b).1]
theorem FirstW.congr {K : Nat} {T T' : List Nat → Bool} {o : Option (List Nat)} (h : FirstW K T o) (e : ∀ v, (∀ x ∈ v, x < K) → T v = T' v) : FirstW K T' o := by
  cases o with
  | none => exact fun v h1 h2 => by rw [← e v h2]; exact h v h1 h2
  | some w =>
    obtain ⟨h1, h2, h3, h4⟩ := h
    exact ⟨h1, h2, by rw [← e w h2]; exact h3, fun v g1 g2 g3 => h4 v g1 g2 (by rw [e v g2]; exact g3)⟩
/-- The first word that tells two machines apart, by sets from behind. -/
theorem first_cmp {d e : Den} (hd : rightS d = true) (he : rightS e = true) (hk : d.tracks.length = e.tracks.length) {w : List Nat} (h : cmpO d e qS = some w) :
    w ≠ [] ∧ lenC d e 1 = w.length ∧ gW (2 ^ d.tracks.length) (stC d e) (tellC d e 1) w.length 0 = true ∧ grW (2 ^ d.tracks.length) (stC d e) (tellC d e 1) w.length 0 = w := by
  rw [← askQ1] at h
  have hs := cmpO_spec d e (askQ 1) hd he hk
  rw [h] at hs
  have h2 := grW_first (2 ^ d.tracks.length) (stC d e) (tellC d e 1) (FirstW.congr hs fun v hv => ((tell_word hd he hk 1 hv).2).symm)
  exact ⟨hs.1, lenC_some hd he hk 1 h, h2⟩

set_option maxHeartbeats 2000000 in
theorem law_CompareApart (a b : Aut) (ha : AutOk a) (hb : AutOk b) : Pure Tryz.prog 3 [aAut a, aAut b] (.bool true) := by
  have hca := r12_Copy a ha
  have hcb := r12_Copy b hb
  have hap := cmp_Apart (copyA a) (copyA b) (copyA_ok ha) (copyA_ok hb)
  rw [apV_copy] at hap
  have ho := r21_Open a b ha hb
  have hbd : ∀ h : opE a b ≠ 0, apV a b = .tup [.sl .nil 0 [], .sl .nil 0 [], .int .i64 (opE a b)] := fun h => by rw [apV, if_neg h]
  have hnn : ∀ h : opE a b = 0, cmpO (opA a b) (opB a b) qS = none → apV a b = .tup [.sl .nil 0 [], .sl .nil 0 [], .int .i64 4] := fun h h2 => by rw [apV, if_pos h, tellO_ok h, h2]
  have hss : ∀ (h : opE a b = 0) w, cmpO (opA a b) (opB a b) qS = some w → apV a b = .tup [aSs .any (opA a b).tracks, .sl .any w.length (iW w), .int .i64 0] := fun h w h2 => by rw [apV, if_pos h, tellO_ok h, h2, (op_made h).2.2.2.2.2.2.1]
  have hsm : opE a b = 0 → a.accept.length ≤ 256 ∧ b.accept.length ≤ 256 := fun h => by
    obtain ⟨h1, h2, _⟩ := opE_zero h
    obtain ⟨r1, _, e1⟩ := unpD_right h1
    obtain ⟨r2, _, e2⟩ := unpD_right h2
    have k1 := (tracksS_parts (rightS_parts r1).1).2.2.2
    have k2 := (tracksS_parts (rightS_parts r2).1).2.2.2
    rw [e1] at k1
    rw [e2] at k2
    exact ⟨by omega, by omega⟩
  have hmade := fun h => op_made (a := a) (b := b) h
  have hz3 : opE a b = 0 ∨ opE a b = 3 ∨ opE a b = 150 := by rw [opE]; split; split; simp; simp; simp
  generalize hca' : copyA a = ca at *
  generalize hcb' : copyA b = cb at *
  generalize apV a b = v at *
  generalize opE a b = z at *
  rcases hz3 with rfl | hz3
  · obtain ⟨_, _, _, _, r1, r2, t1, t2⟩ := hmade rfl
    have hk : (opA a b).tracks.length = (opB a b).tracks.length := by rw [t1, t2]
    have hle := r21_Length (opA a b) (opB a b) 1 r1 r2 hk
    obtain ⟨s1, s2⟩ := hsm rfl
    clear hmade hsm hbd t1 t2
    cases hw : cmpO (opA a b) (opB a b) qS with
    | none =>
      have e1 := hnn rfl hw
      rw [lenC_none r1 r2 hk 1 (by rw [askQ1]; exact hw)] at hle
      clear hnn hss hw
      generalize opA a b = x at *
      generalize opB a b = y at *
      subst e1
      refine Pure.of_sw 110 Tryz.func3 rfl Tryz.ntmps3 (by kernel_rfl) (Nat.le_of_ble_eq_true (by kernel_rfl)) (by simp [closeds, AV.closed, aSs_closed, aIs_closed, aBs_closed, aRs_closed, aDen_closed, aCs_closed, aAut_closed]) (by simp [AV.closed, closeds, aSs_closed, aIs_closed, aBs_closed, aRs_closed, aDen_closed, aCs_closed, aAut_closed]) ?_; refine SW.of_vc ?_
      repeat first | refine opsStep ?_ | refine codeStep ?_ | refine drawStep ?_
      refine SW.drawn rfl (by kernel_rfl) ?_
      repeat first | refine opsStep ?_ | refine codeStep ?_ | refine drawStep ?_
      refine .inl ⟨_, _, [], hca, RdsN_refl _, .inr rfl, none_need, ?_⟩
      repeat first | refine opsStep ?_ | refine codeStep ?_ | refine drawStep ?_
      refine .inl ⟨_, _, [], hcb, RdsN_refl _, .inr rfl, none_need, ?_⟩
      repeat first | refine opsStep ?_ | refine codeStep ?_ | refine drawStep ?_
      refine .inl ⟨_, _, [], hap, RdsN_refl _, .inr rfl, none_need, ?_⟩
      repeat first | refine opsStep ?_ | refine codeStep ?_ | refine drawStep ?_
      refine ⟨by kernel_rfl, ?_⟩
      repeat first | refine opsStep ?_ | refine codeStep ?_ | refine drawStep ?_
      refine callP ho ?_
      repeat first | refine opsStep ?_ | refine codeStep ?_ | refine drawStep ?_
      refine callP law21_fixed ?_
      repeat first | refine opsStep ?_ | refine codeStep ?_ | refine drawStep ?_
      refine callP hle ?_
      repeat first | refine opsStep ?_ | refine codeStep ?_ | refine drawStep ?_
      exact finB (b' := true) (by kernel_rfl) rfl
    | some w =>
      have e1 := hss rfl w hw
      obtain ⟨w0, w1, w2, w3⟩ := first_cmp r1 r2 hk hw
      have hfi := fun h40 => r21_First (opA a b) (opB a b) w.length h40 r1 r2 hk w2
      have hwl : w.length < 2 ^ 40 := by
        rw [← w1]
        obtain ⟨q1, q2⟩ := rch_small r1 r2 hk
        rcases Nat.eq_zero_or_pos (lenC (opA a b) (opB a b) 1) with h | h
        · omega
        · obtain ⟨j, r, f1, f2, _, _⟩ := levF_some (p := tellC (opA a b) (opB a b) 1) (L := rchL (opA a b) (opB a b)) (i := 0) (by show lenC (opA a b) (opB a b) 1 ≠ 0; omega)
          have := (List.getElem?_eq_some_iff.1 f2).1
          show levF _ _ 0 < _
          omega
      have htl := (tracksS_parts (rightS_parts r1).1).1
      rw [w1] at hle
      rw [w3] at hfi
      have hw0 : 0 < w.length := by
        rcases Nat.eq_zero_or_pos w.length with h | h
        · exact absurd (List.length_eq_zero_iff.1 h) w0
        · exact h
      clear hnn hss hw w0 w1 w2 w3 r1 r2
      generalize opA a b = x at *
      generalize opB a b = y at *
      obtain ⟨n, hn⟩ : ∃ n, w.length = n := ⟨_, rfl⟩
      rw [hn] at hle hfi hw0 hwl
      rw [hn] at e1
      have hil : (iW w).length = n := by rw [iW_length, hn]
      subst e1
      refine Pure.of_sw 110 Tryz.func3 rfl Tryz.ntmps3 (by kernel_rfl) (Nat.le_of_ble_eq_true (by kernel_rfl)) (by simp [closeds, AV.closed, aSs_closed, aIs_closed, aBs_closed, aRs_closed, aDen_closed, aCs_closed, aAut_closed]) (by simp [AV.closed, closeds, aSs_closed, aIs_closed, aBs_closed, aRs_closed, aDen_closed, aCs_closed, aAut_closed]) ?_; refine SW.of_vc ?_
      repeat first | refine opsStep ?_ | refine codeStep ?_ | refine drawStep ?_
      refine SW.drawn rfl (by kernel_rfl) ?_
      repeat first | refine opsStep ?_ | refine codeStep ?_ | refine drawStep ?_
      refine .inl ⟨_, _, [], hca, RdsN_refl _, .inr rfl, none_need, ?_⟩
      repeat first | refine opsStep ?_ | refine codeStep ?_ | refine drawStep ?_
      refine .inl ⟨_, _, [], hcb, RdsN_refl _, .inr rfl, none_need, ?_⟩
      repeat first | refine opsStep ?_ | refine codeStep ?_ | refine drawStep ?_
      refine .inl ⟨_, _, [], hap, RdsN_refl _, .inr rfl, none_need, ?_⟩
      repeat first | refine opsStep ?_ | refine codeStep ?_ | refine drawStep ?_
      refine ⟨by kernel_rfl, ?_⟩
      repeat first | refine opsStep ?_ | refine codeStep ?_ | refine drawStep ?_
      refine callP ho ?_
      repeat first | refine opsStep ?_ | refine codeStep ?_ | refine drawStep ?_
      refine callP law21_fixed ?_
      repeat first | refine opsStep ?_ | refine codeStep ?_ | refine drawStep ?_
      refine callP hle ?_
      repeat first | refine opsStep ?_ | refine codeStep ?_ | refine drawStep ?_
      refine decB_false (b := decide (((n : Nat) : Int) = 0)) (decide_eq_false (by omega)) ?_
      repeat first | refine opsStep ?_ | refine codeStep ?_ | refine drawStep ?_
      refine decB_false (b := decide (((x.tracks.length : Nat) : Int) ≠ (x.tracks.length : Nat))) (by simp) ?_
      repeat first | refine opsStep ?_ | refine codeStep ?_ | refine drawStep ?_
      refine decB_false (b := decide (((n : Nat) : Int) ≠ (n : Nat))) (by simp) ?_
      repeat first | refine opsStep ?_ | refine codeStep ?_ | refine drawStep ?_
      refine loopE_of (ι := {i : Nat // i ≤ x.tracks.length}) (fun i => (fr [(2, .ref 0 0 0), (3, .ref 1 0 0), (5, aSs .any x.tracks), (6, .sl .any n (iW w)), (8, .ref 2 0 0), (10, .int .i64 (n : Nat)), (64, .int .i64 (x.tracks.length : Nat)), (65, .int .i64 (i.1 : Nat))], [.cells 0 a.cells, .cells 0 b.cells, .cells 0 (x.cells ++ y.cells)])) (fun i => x.tracks.length - i.1) ⟨0, Nat.zero_le _⟩ (Ent.fr' ⟨(by kernel_rfl), (by kernel_rfl), (by kernel_rfl), (by kernel_rfl), (by kernel_rfl), (by kernel_rfl), (by kernel_rfl), (by kernel_rfl), trivial⟩ (by kernel_rfl)) ?_
      rintro ⟨i, hi⟩
      repeat first | refine opsStep ?_ | refine codeStep ?_ | refine drawStep ?_
      refine decB_dec (fun h => ?_) (fun h => ?_)
      · have hil2 : i < x.tracks.length := by have := h; simp at this; omega
        repeat first | refine opsStep ?_ | refine codeStep ?_ | refine drawStep ?_
        refine SW.drawn rfl (by kernel_rfl) ?_
        repeat first | refine opsStep ?_ | refine codeStep ?_ | refine drawStep ?_
        refine guardE_of (by simp; omega) ?_
        repeat first | refine opsStep ?_ | refine codeStep ?_ | refine drawStep ?_
        refine optE_of (c := .str x.tracks[i]) (by simp [Value.cells, hil2]) ?_
        repeat first | refine opsStep ?_ | refine codeStep ?_ | refine drawStep ?_
        refine guardE_of (by simp; omega) ?_
        repeat first | refine opsStep ?_ | refine codeStep ?_ | refine drawStep ?_
        refine optE_of (c := .str x.tracks[i]) (by simp [Value.cells, hil2]) ?_
        repeat first | refine opsStep ?_ | refine codeStep ?_ | refine drawStep ?_
        refine ⟨by kernel_rfl, ?_⟩
        repeat first | refine opsStep ?_ | refine codeStep ?_ | refine drawStep ?_
        refine decB_false (b := decide (x.tracks[i] ≠ x.tracks[i])) (by simp) ?_
        repeat first | refine opsStep ?_ | refine codeStep ?_ | refine drawStep ?_
        refine ⟨⟨i + 1, hil2⟩, (by show x.tracks.length - (i + 1) < x.tracks.length - i; omega), Ent.fr' ⟨(by kernel_rfl), (by kernel_rfl), (by kernel_rfl), (by kernel_rfl), (by kernel_rfl), (by kernel_rfl), (by kernel_rfl), inc_slot (i := i) (by omega), trivial⟩ (by kernel_rfl)⟩
      have hie : i = x.tracks.length := by have := h; simp at this; omega
      subst hie
      repeat first | refine opsStep ?_ | refine codeStep ?_ | refine drawStep ?_
      by_cases h40 : n ≤ 40
      · refine decB_false (b := decide (((n : Nat) : Int) > 40)) (decide_eq_false (by omega)) ?_
        repeat first | refine opsStep ?_ | refine codeStep ?_ | refine drawStep ?_
        refine decB_dec (fun hbig => ?_) (fun hbig => ?_)
        · repeat first | refine opsStep ?_ | refine codeStep ?_ | refine drawStep ?_
          exact finB (b' := true) (by kernel_rfl) rfl
        have hfi := hfi h40
        repeat first | refine opsStep ?_ | refine codeStep ?_ | refine drawStep ?_
        refine callP hfi ?_
        repeat first | refine opsStep ?_ | refine codeStep ?_ | refine drawStep ?_
        refine loopE_of (ι := {i : Nat // i ≤ n}) (fun i => (fr [(6, .sl .any n (iW w)), (12, .sl .any n (iW w)), (96, .int .i64 (n : Nat)), (97, .int .i64 (i.1 : Nat))], [])) (fun i => n - i.1) ⟨0, Nat.zero_le _⟩ (Ent.frT 0 ⟨(by kernel_rfl), (by kernel_rfl), (by kernel_rfl), (by kernel_rfl), trivial⟩ (by kernel_rfl) (Nat.zero_le _) (by simp [frBel, AV.bel, bels, iW_bel]) trivial) ?_
        rintro ⟨i, hi⟩
        repeat first | refine opsStep ?_ | refine codeStep ?_ | refine drawStep ?_
        refine decB_dec (fun h2 => ?_) (fun h2 => ?_)
        · have hil2 : i < n := by have := h2; simp at this; omega
          have hgw : (iW w)[i]? = some (.int .i64 (w[i]'(by omega) : Nat)) := by simp [iW, hn, hil2]
          generalize w[i]'(by omega) = c at *
          repeat first | refine opsStep ?_ | refine codeStep ?_ | refine drawStep ?_
          refine SW.drawn rfl (by kernel_rfl) ?_
          repeat first | refine opsStep ?_ | refine codeStep ?_ | refine drawStep ?_
          refine guardE_of (by simp; omega) ?_
          repeat first | refine opsStep ?_ | refine codeStep ?_ | refine drawStep ?_
          refine optE_of (c := .int .i64 (c : Nat)) (by simpa [Value.cells] using hgw) ?_
          repeat first | refine opsStep ?_ | refine codeStep ?_ | refine drawStep ?_
          refine guardE_of (by simp; omega) ?_
          repeat first | refine opsStep ?_ | refine codeStep ?_ | refine drawStep ?_
          refine optE_of (c := .int .i64 (c : Nat)) (by simpa [Value.cells] using hgw) ?_
          repeat first | refine opsStep ?_ | refine codeStep ?_ | refine drawStep ?_
          refine ⟨by kernel_rfl, ?_⟩
          repeat first | refine opsStep ?_ | refine codeStep ?_ | refine drawStep ?_
          refine decB_false (b := decide (((c : Nat) : Int) ≠ (c : Nat))) (by simp) ?_
          repeat first | refine opsStep ?_ | refine codeStep ?_ | refine drawStep ?_
          exact ⟨⟨i + 1, hil2⟩, (by show n - (i + 1) < n - i; omega), Ent.fr' ⟨(by kernel_rfl), (by kernel_rfl), (by kernel_rfl), inc_slot (i := i) (by omega), trivial⟩ (by kernel_rfl)⟩
        · repeat first | refine opsStep ?_ | refine codeStep ?_ | refine drawStep ?_
          exact finB (b' := true) (by kernel_rfl) rfl
      · refine decB_true (b := decide (((n : Nat) : Int) > 40)) (decide_eq_true (by omega)) ?_
        repeat first | refine opsStep ?_ | refine codeStep ?_ | refine drawStep ?_
        exact finB (b' := true) (by kernel_rfl) rfl
  · have hz : z ≠ 0 := by omega
    have e1 := hbd hz
    clear hmade hsm hbd hnn hss
    generalize opA a b = x at *
    generalize opB a b = y at *
    subst e1
    rcases hz3 with rfl | rfl
    · skip
      refine Pure.of_sw 110 Tryz.func3 rfl Tryz.ntmps3 (by kernel_rfl) (Nat.le_of_ble_eq_true (by kernel_rfl)) (by simp [closeds, AV.closed, aSs_closed, aIs_closed, aBs_closed, aRs_closed, aDen_closed, aCs_closed, aAut_closed]) (by simp [AV.closed, closeds, aSs_closed, aIs_closed, aBs_closed, aRs_closed, aDen_closed, aCs_closed, aAut_closed]) ?_; refine SW.of_vc ?_
      repeat first | refine opsStep ?_ | refine codeStep ?_ | refine drawStep ?_
      refine SW.drawn rfl (by kernel_rfl) ?_
      repeat first | refine opsStep ?_ | refine codeStep ?_ | refine drawStep ?_
      refine .inl ⟨_, _, [], hca, RdsN_refl _, .inr rfl, none_need, ?_⟩
      repeat first | refine opsStep ?_ | refine codeStep ?_ | refine drawStep ?_
      refine .inl ⟨_, _, [], hcb, RdsN_refl _, .inr rfl, none_need, ?_⟩
      repeat first | refine opsStep ?_ | refine codeStep ?_ | refine drawStep ?_
      refine .inl ⟨_, _, [], hap, RdsN_refl _, .inr rfl, none_need, ?_⟩
      repeat first | refine opsStep ?_ | refine codeStep ?_ | refine drawStep ?_
      refine ⟨by kernel_rfl, ?_⟩
      repeat first | refine opsStep ?_ | refine codeStep ?_ | refine drawStep ?_
      refine callP ho ?_
      repeat first | refine opsStep ?_ | refine codeStep ?_ | refine drawStep ?_
      refine callP law21_fixed ?_
      repeat first | refine opsStep ?_ | refine codeStep ?_ | refine drawStep ?_
      exact finB (b' := true) (by kernel_rfl) rfl
    · skip
      refine Pure.of_sw 110 Tryz.func3 rfl Tryz.ntmps3 (by kernel_rfl) (Nat.le_of_ble_eq_true (by kernel_rfl)) (by simp [closeds, AV.closed, aSs_closed, aIs_closed, aBs_closed, aRs_closed, aDen_closed, aCs_closed, aAut_closed]) (by simp [AV.closed, closeds, aSs_closed, aIs_closed, aBs_closed, aRs_closed, aDen_closed, aCs_closed, aAut_closed]) ?_; refine SW.of_vc ?_
      repeat first | refine opsStep ?_ | refine codeStep ?_ | refine drawStep ?_
      refine SW.drawn rfl (by kernel_rfl) ?_
      repeat first | refine opsStep ?_ | refine codeStep ?_ | refine drawStep ?_
      refine .inl ⟨_, _, [], hca, RdsN_refl _, .inr rfl, none_need, ?_⟩
      repeat first | refine opsStep ?_ | refine codeStep ?_ | refine drawStep ?_
      refine .inl ⟨_, _, [], hcb, RdsN_refl _, .inr rfl, none_need, ?_⟩
      repeat first | refine opsStep ?_ | refine codeStep ?_ | refine drawStep ?_
      refine .inl ⟨_, _, [], hap, RdsN_refl _, .inr rfl, none_need, ?_⟩
      repeat first | refine opsStep ?_ | refine codeStep ?_ | refine drawStep ?_
      refine ⟨by kernel_rfl, ?_⟩
      repeat first | refine opsStep ?_ | refine codeStep ?_ | refine drawStep ?_
      refine callP ho ?_
      repeat first | refine opsStep ?_ | refine codeStep ?_ | refine drawStep ?_
      refine callP law21_fixed ?_
      repeat first | refine opsStep ?_ | refine codeStep ?_ | refine drawStep ?_
      exact finB (b' := true) (by kernel_rfl) rfl

end Tab
