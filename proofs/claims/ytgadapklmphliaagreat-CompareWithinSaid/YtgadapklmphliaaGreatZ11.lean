/- Lemmas for this claim: part 11. No condition. -/
import Derived.Test.YtgadapklmphliaaGreatZ10
/- tabardref11: At, Unpack, Right. -/
namespace Tab
open Go Go.Proofs
set_option maxRecDepth 10000
set_option linter.unusedVariables false
set_option linter.unusedSimpArgs false
set_option linter.unusedSectionVars false

theorem drop_add3 (cs : List AV) (i j : Nat) : (cs.drop i).drop j = cs.drop (i + j) := by rw [List.drop_drop]
theorem cc3_at {L : List Cb} {i : Nat} {c : Cb} (h : L[i]? = some c) : (cc3 L)[i * 3]? = some (.int .i64 c.1) ∧ (cc3 L)[i * 3 + 1]? = some (.int .i64 c.2.1) ∧ (cc3 L)[i * 3 + 2]? = some (.int .i64 c.2.2) := by
  obtain ⟨h1, h2⟩ := cc3_get h
  have e : ∀ j, j < 3 → (cc3 L)[i * 3 + j]? = (cb3 c)[j]? := fun j hj => by
    rw [← h1, List.getElem?_take, if_pos hj, List.getElem?_drop]
  exact ⟨e 0 (by omega), e 1 (by omega), e 2 (by omega)⟩

theorem r11_At (k : SK) (cs : List Cb) (i : Int) (hl : cs.length < 2^60) : Pure Tryz.prog 53 [aCs k cs, .int .i64 i] (.tup [.int .i64 ((atC cs i).getD 0), .bool (atC cs i).isSome]) := by
  refine Pure.of_sw 31 Tryz.func53 rfl Tryz.ntmps53 (by kernel_rfl) (Nat.le_of_ble_eq_true (by kernel_rfl)) (by simp [closeds, AV.closed, aSs_closed, aIs_closed, aBs_closed, aRs_closed, aDen_closed, aCs_closed, aAut_closed]) (by simp [AV.closed, closeds, aSs_closed, aIs_closed, aBs_closed, aRs_closed, aDen_closed, aCs_closed, aAut_closed]) ?_; refine SW.of_vc ?_
  repeat first | refine opsStep ?_ | refine codeStep ?_ | refine drawStep ?_
  refine loopE_of (ι := {j : Nat // j ≤ cs.length ∧ ∀ j' (h : j' < cs.length), j' < j → hitC i cs[j'] = false}) (fun j => (fr [(0, aCs k cs), (1, .int .i64 i), (6, .int .i64 j.1)], [])) (fun j => cs.length - j.1) ⟨0, by omega, fun _ _ h => by omega⟩ (Ent.fr' ⟨(by kernel_rfl), (by kernel_rfl), (by kernel_rfl), trivial⟩ (by kernel_rfl)) ?_
  rintro ⟨j, hj, hpre⟩
  repeat first | refine opsStep ?_ | refine codeStep ?_ | refine drawStep ?_
  refine decB_dec (fun h => ?_) (fun h => ?_)
  · have hja : j < cs.length := by have := h; simp at this; omega
    obtain ⟨g1, g2, g3⟩ := cc3_at (List.getElem?_eq_getElem hja)
    repeat first | refine opsStep ?_ | refine codeStep ?_ | refine drawStep ?_
    refine SW.drawn rfl (by kernel_rfl) ?_
    repeat first | refine opsStep ?_ | refine codeStep ?_ | refine drawStep ?_
    refine guardE_of (by simp; omega) ?_
    repeat first | refine opsStep ?_ | refine codeStep ?_ | refine drawStep ?_
    refine optE_of (c := .int .i64 (cs[j]).1) (by show (((cc3 cs).drop (j * 3)).drop 0)[0]? = _; simp [g1]) ?_
    repeat first | refine opsStep ?_ | refine codeStep ?_ | refine drawStep ?_
    refine guardE_of (by simp; omega) ?_
    repeat first | refine opsStep ?_ | refine codeStep ?_ | refine drawStep ?_
    refine optE_of (c := .int .i64 (cs[j]).2.1) (by show (((cc3 cs).drop (j * 3)).drop 1)[0]? = _; simp [g2]) ?_
    repeat first | refine opsStep ?_ | refine codeStep ?_ | refine drawStep ?_
    refine ⟨by kernel_rfl, ?_⟩
    repeat first | refine opsStep ?_ | refine codeStep ?_ | refine drawStep ?_
    refine decB_dec (fun hh => ?_) (fun hh => ?_)
    · have hh : hitC i cs[j] = true := decide_eq_true hh
      repeat first | refine opsStep ?_ | refine codeStep ?_ | refine drawStep ?_
      refine guardE_of (by simp; omega) ?_
      repeat first | refine opsStep ?_ | refine codeStep ?_ | refine drawStep ?_
      refine optE_of (c := .int .i64 (cs[j]).2.2) (by show (((cc3 cs).drop (j * 3)).drop 2)[0]? = _; simp [g3]) ?_
      repeat first | refine opsStep ?_ | refine codeStep ?_ | refine drawStep ?_
      exact finV (v' := .tup [.int .i64 (cs[j]).2.2, .bool true]) (by kernel_rfl) (by rw [atC_find hja (fun j' h' => hpre j' (by omega) h') hh]; rfl)
    · have hh : hitC i cs[j] = false := decide_eq_false hh
      repeat first | refine opsStep ?_ | refine codeStep ?_ | refine drawStep ?_
      refine ⟨⟨j + 1, by omega, fun j' h' hlt => ?_⟩, (by show cs.length - (j + 1) < cs.length - j; omega), Ent.fr' ⟨(by kernel_rfl), (by kernel_rfl), inc_slot (i := j) (by omega), trivial⟩ (by kernel_rfl)⟩
      by_cases e : j' = j
      · subst e; exact hh
      · exact hpre j' h' (by omega)
  · repeat first | refine opsStep ?_ | refine codeStep ?_ | refine drawStep ?_
    have : j = cs.length := by have := h; simp at this; omega
    exact finV (v' := .tup [.int .i64 0, .bool false]) (by kernel_rfl) (by rw [atC_none fun j' h' => hpre j' h' (by omega)]; rfl)

theorem r11_Unpack (kc : SK) (cs : List Cb) (k : Nat) (hk : k ≤ 6) (hl : cs.length < 2^40) (ho : ∀ c ∈ cs, okC c) : Pure Tryz.prog 34 [aCs kc cs, .int .i64 k] (rowU cs k) := by
  have hq : 2 ^ k ≤ 2 ^ 6 := Nat.pow_le_pow_right (by omega) (by omega)
  have hp2 : ∀ j, j ≤ k → 2 ^ j ≤ 2 ^ 6 := fun j hj => Nat.pow_le_pow_right (by omega) (by omega)
  have hat := fun i : Nat => r11_At kc cs i (by omega)
  have hrl := rowC_length cs k
  have hget := fun (i : Nat) (h : i < 2 ^ k) => rowC_get (cs := cs) h
  have hio := cubesOk_iff (cs := cs) (k := k)
  have hC := (r11_Cubes k hk .any (rowC cs k) 0 0 hrl (by omega) (by omega)).pure (cc3_length _).symm
  have hCl := cubR_len k (rowC cs k) 0 0
  have hCo := cubR_ok k hk _ 0 0 (rowC_ok ho k) (by omega) (by omega)
  have hR : aIs .any (rowC cs k) = .sl .any (2 ^ k) ((rowC cs k).map (.int .i64)) := by rw [aIs, hrl]
  have hv : rowU cs k = if cubesOk cs k = true then .tup [.sl .any (2 ^ k) ((rowC cs k).map (.int .i64)), .int .i64 0] else .tup [.sl .nil 0 [], .int .i64 3] := by rw [rowU, hR]
  rw [hR] at hC
  rw [hv]
  generalize cubR k (rowC cs k) 0 0 = C at *
  generalize rowC cs k = r at *
  generalize cubesOk cs k = ok at *
  have hK0 : (2 : Nat) ^ 0 = 1 := rfl
  refine Pure.of_read (by simp [closeds, aCs_closed, AV.closed]) (by split <;> simp [AV.closed, closeds, ints_cl]) (R := fun o H' => (ok = false ∧ o = .ret (.tup [.sl .nil 0 [], .int .i64 3])) ∨ (ok = true ∧ ∃ g, o = .ret (.tup [.hs 0 g 0 (2 ^ k) 1, .int .i64 0]) ∧ H' = [.fro g (r.map (.int .i64))])) ?_ ?_
  rotate_left
  · rintro o H' (⟨h, rfl⟩ | ⟨h, g, rfl, rfl⟩)
    · exact ⟨_, rfl, by rw [h]; exact .refl _⟩
    · refine ⟨_, rfl, ?_⟩
      rw [h]
      exact .tup (.cons (Rd.frozen rfl (by simp [hrl])) (.cons (.refl _) .nil))
  refine ACall.of_sw 75 Tryz.func34 rfl Tryz.ntmps34 (by kernel_rfl) (Nat.le_of_ble_eq_true (by kernel_rfl)) ?_; refine SW.of_vc ?_
  repeat first | refine opsStep ?_ | refine codeStep ?_ | refine drawStep ?_
  refine decB_dec (fun h => ?_) (fun h => ?_)
  · exact absurd h (by omega)
  repeat first | refine opsStep ?_ | refine codeStep ?_ | refine drawStep ?_
  refine loopE_of (ι := {j : Nat // j ≤ k}) (fun j => (fr [(0, aCs kc cs), (1, .int .i64 k), (6, .int .i64 (2 ^ j.1 : Nat)), (7, .int .i64 j.1)], [])) (fun j => k - j.1) ⟨0, by omega⟩ (Ent.fr' ⟨(by kernel_rfl), (by kernel_rfl), (by kernel_rfl), (by kernel_rfl), trivial⟩ (by kernel_rfl)) ?_
  rintro ⟨j, hj⟩
  repeat first | refine opsStep ?_ | refine codeStep ?_ | refine drawStep ?_
  refine decB_dec (fun hjk => ?_) (fun hjk => ?_)
  · have hja : j < k := by have := hjk; simp at this; omega
    have hb := hp2 (j + 1) (by omega)
    repeat first | refine opsStep ?_ | refine codeStep ?_ | refine drawStep ?_
    refine ⟨⟨j + 1, by omega⟩, (by show k - (j + 1) < k - j; omega), Ent.fr' ⟨(by kernel_rfl), (by kernel_rfl), ?_, inc_slot (i := j) (by omega), trivial⟩ (by kernel_rfl)⟩
    show AV.int .i64 (IntKind.wrap .i64 (((2 ^ j : Nat) : Int) * 2)) = AV.int .i64 ((2 ^ (j + 1) : Nat) : Int)
    have e2 : 2 ^ (j + 1) = 2 ^ j * 2 := Nat.pow_succ 2 j
    rw [e2] at hb ⊢
    generalize 2 ^ j = x at *
    rw [IntWalk.i64_in _ (by omega)]; simp
  have hja : j = k := by have := hjk; simp at this; omega
  subst hja
  generalize 2 ^ j = q at *
  repeat first | refine opsStep ?_ | refine codeStep ?_ | refine drawStep ?_
  refine decB_dec (fun h => ?_) (fun h => ?_)
  · repeat first | refine opsStep ?_ | refine codeStep ?_ | refine drawStep ?_
    refine finR (l := [(4, .sl .nil 0 []), (5, .int .i64 3)]) (H₁ := []) (v := .tup [.sl .nil 0 [], .int .i64 3]) ⟨(by kernel_rfl), (by kernel_rfl), trivial⟩ (by kernel_rfl) (Ent.refl _ _ _) (by kernel_rfl) (.inl ⟨?_, rfl⟩)
    rw [← Bool.not_eq_true, hio]
    rintro ⟨h1, _⟩
    have h : (cs.length : Int) > (q : Int) := h
    omega
  have hcl : cs.length ≤ q := by
    have h : ¬ (cs.length : Int) > (q : Int) := h
    omega
  repeat first | refine opsStep ?_ | refine codeStep ?_ | refine drawStep ?_
  refine loopE_of (ι := {a : Nat // a ≤ q ∧ (∀ i : Nat, i < a → (atC cs i).isSome = true) ∧ ∀ x ∈ r.take a, 0 ≤ x})
    (fun a => (fr [(0, aCs kc cs), (6, .int .i64 q), (8, .hs 0 a.1 0 a.1 1), (9, .int .i64 a.1)], [.cells a.1 ((r.take a.1).map (.int .i64))]))
    (fun a => q - a.1) ⟨0, by omega, fun _ h => by omega, by simp⟩ (((Ent.fr' (l := [(0, aCs kc cs), (6, .int .i64 q), (8, .sl .nil 0 []), (9, .int .i64 (0 : Nat))]) (H' := []) ⟨(by kernel_rfl), (by kernel_rfl), (by kernel_rfl), (by kernel_rfl), trivial⟩ (by kernel_rfl)).trans (Ent.nil 8 1 rfl)).trans (Ent.fr' ⟨(by kernel_rfl), (by kernel_rfl), (by kernel_rfl), (by kernel_rfl), trivial⟩ (by kernel_rfl))) ?_
  rintro ⟨a, ha, hsome, hpos⟩
  repeat first | refine opsStep ?_ | refine codeStep ?_ | refine drawStep ?_
  refine decB_dec (fun g => ?_) (fun g => ?_)
  · have haq : a < q := by have := g; simp at this; omega
    have hat := hat a
    cases hx : atC cs a with
    | none =>
      rw [hx] at hat
      repeat first | refine opsStep ?_ | refine codeStep ?_ | refine drawStep ?_
      refine callP hat ?_
      repeat first | refine opsStep ?_ | refine codeStep ?_ | refine drawStep ?_
      refine finR (l := [(4, .sl .nil 0 []), (5, .int .i64 3)]) (H₁ := [.cells a ((r.take a).map (.int .i64))]) (v := .tup [.sl .nil 0 [], .int .i64 3]) ⟨(by kernel_rfl), (by kernel_rfl), trivial⟩ (by kernel_rfl) (Ent.refl _ _ _) (by kernel_rfl) (.inl ⟨?_, rfl⟩)
      rw [← Bool.not_eq_true, hio]
      rintro ⟨_, h2, _⟩
      have := h2 a haq
      rw [hx] at this; simp at this
    | some x =>
      rw [hx] at hat
      have hra : r[a]? = some x := by rw [hget a haq, hx]; rfl
      obtain ⟨hra1, hra2⟩ := List.getElem?_eq_some_iff.1 hra
      have htk : r.take (a + 1) = r.take a ++ [x] := by rw [List.take_succ_eq_append_getElem hra1, hra2]
      have hln : (r.take a).length = a := by simp; omega
      repeat first | refine opsStep ?_ | refine codeStep ?_ | refine drawStep ?_
      refine callP hat ?_
      repeat first | refine opsStep ?_ | refine codeStep ?_ | refine drawStep ?_
      refine decB_dec (fun hneg => ?_) (fun hneg => ?_)
      · repeat first | refine opsStep ?_ | refine codeStep ?_ | refine drawStep ?_
        refine finR (l := [(4, .sl .nil 0 []), (5, .int .i64 3)]) (H₁ := [.cells a ((r.take a).map (.int .i64))]) (v := .tup [.sl .nil 0 [], .int .i64 3]) ⟨(by kernel_rfl), (by kernel_rfl), trivial⟩ (by kernel_rfl) (Ent.refl _ _ _) (by kernel_rfl) (.inl ⟨?_, rfl⟩)
        rw [← Bool.not_eq_true, hio]
        rintro ⟨_, _, h3, _⟩
        have := List.all_eq_true.1 h3 x (List.mem_of_getElem? hra)
        have hneg : x < 0 := hneg
        simp at this; omega
      have hneg : ¬ x < 0 := hneg
      repeat first | refine opsStep ?_ | refine codeStep ?_ | refine drawStep ?_
      refine guardE_of ⟨rfl, by show 0 + a * 1 ≤ ((r.take a).map (AV.int .i64)).length; rw [List.length_map, hln]; omega⟩ ?_
      repeat first | refine opsStep ?_ | refine codeStep ?_ | refine drawStep ?_
      refine guardE_of rfl ?_
      repeat first | refine opsStep ?_ | refine codeStep ?_ | refine drawStep ?_
      refine guardE_of ⟨by omega, by show (a + 1) * 8 ≤ 140737488355328; omega⟩ ?_
      repeat first | refine opsStep ?_ | refine codeStep ?_ | refine drawStep ?_
      refine ⟨⟨a + 1, by omega, fun i hi => ?_, fun y hy => ?_⟩, (by show q - (a + 1) < q - a; omega), Ent.frD (X := [.cells 0 [.int .i64 x]]) ⟨(by kernel_rfl), (by kernel_rfl), (by kernel_rfl), inc_slot (i := a) (by omega), trivial⟩ ?_ (Nat.le_of_ble_eq_true (by kernel_rfl)) (by first | (simp [frBel, blksBel, Blk.bel, AV.bel, bels, bels_append, bels_map, aSs_bel, aIs_bel, aBs_bel, aRs_bel, aDen_bel, cells_bel]; done) | (simp only [List.drop_zero, ← List.map_take, ← List.map_drop, List.map_map, frBel, blksBel, Blk.bel, AV.bel, bels, bels_append, bels_map, aSs_bel, aIs_bel, aBs_bel, aRs_bel, aDen_bel, cells_bel]; simp [AV.bel, aSs_bel, aIs_bel, aBs_bel, aRs_bel, aDen_bel, cells_bel])) ?_⟩
      · by_cases e : i = a
        · subst e; rw [hx]; rfl
        · exact hsome i (by omega)
      · rw [htk] at hy
        rcases List.mem_append.1 hy with hy | hy
        · exact hpos y hy
        · simp at hy; omega
      · refine Eq.trans (b := [Blk.cells (a + 1) ((((r.take a).map (AV.int .i64)).drop 0).take (a * 1) ++ [.int .i64 x]), .cells 0 [.int .i64 x]]) (by kernel_rfl) ?_
        show _ = [Blk.cells (a + 1) ((r.take (a + 1)).map (.int .i64)), .cells 0 [.int .i64 x]]
        rw [htk, List.drop_zero, List.take_of_length_le (by rw [List.length_map, hln]; omega), List.map_append]
        rfl
      · exact ⟨bels_map.2 fun x _ => by simp [AV.bel], trivial⟩
  have haq : a = q := by have := g; simp at this; omega
  subst haq
  have htl : r.take a = r := List.take_of_length_le (by omega)
  rw [htl] at hpos
  have hpall : (r.all fun x => decide (0 ≤ x)) = true := List.all_eq_true.2 fun x hx => by simpa using hpos x hx
  refine VCode.ent (Ent.fr' (l := [(0, aCs kc cs), (8, .hs 0 a 0 a 1)]) (H' := [.cells a (r.map (.int .i64))]) ⟨(by kernel_rfl), (by kernel_rfl), trivial⟩ (Eq.trans (b := [.cells a ((r.take a).map (.int .i64))]) (by kernel_rfl) (by rw [htl]))) ?_
  repeat first | refine opsStep ?_ | refine codeStep ?_ | refine drawStep ?_
  refine callZ 0 (g := a) (cs := r.map (.int .i64)) (by kernel_rfl) hC (.hs (b := 0) (g := a) rfl (by simp [hrl]) (.same (.same .nil))) ?_
  repeat first | refine opsStep ?_ | refine codeStep ?_ | refine drawStep ?_
  refine decB_dec (fun hlen => ?_) (fun hlen => ?_)
  · repeat first | refine opsStep ?_ | refine codeStep ?_ | refine drawStep ?_
    refine finR (l := [(4, .sl .nil 0 []), (5, .int .i64 3)]) (H₁ := [.fro a (r.map (.int .i64))]) (v := .tup [.sl .nil 0 [], .int .i64 3]) ⟨(by kernel_rfl), (by kernel_rfl), trivial⟩ (by kernel_rfl) (Ent.refl _ _ _) (by kernel_rfl) (.inl ⟨?_, rfl⟩)
    rw [← Bool.not_eq_true, hio]
    rintro ⟨_, _, _, h4⟩
    have hlen : (C.length : Int) ≠ (cs.length : Int) := hlen
    rw [h4] at hlen; exact hlen rfl
  have hlen : C.length = cs.length := by
    have h : ((C.length : Nat) : Int) = ((cs.length : Nat) : Int) := Decidable.of_not_not hlen
    exact Int.ofNat_inj.1 h
  repeat first | refine opsStep ?_ | refine codeStep ?_ | refine drawStep ?_
  refine loopE_of (ι := {i : Nat // i ≤ cs.length ∧ C.take i = cs.take i}) (fun i => (fr [(0, aCs kc cs), (8, .hs 0 a 0 a 1), (12, .sl .any C.length (cc3 C)), (13, .int .i64 i.1)], [.fro a (r.map (.int .i64))])) (fun i => cs.length - i.1) ⟨0, by omega, by simp⟩ (Ent.fr' ⟨(by kernel_rfl), (by kernel_rfl), (by kernel_rfl), (by kernel_rfl), trivial⟩ (by kernel_rfl)) ?_
  rintro ⟨i, hi, hpre⟩
  repeat first | refine opsStep ?_ | refine codeStep ?_ | refine drawStep ?_
  refine decB_dec (fun hil => ?_) (fun hil => ?_)
  · have hia : i < cs.length := by have := hil; simp at this; omega
    have hib : i < C.length := by omega
    obtain ⟨g1, g2⟩ := cc3_get (List.getElem?_eq_getElem hib)
    obtain ⟨g3, g4⟩ := cc3_get (List.getElem?_eq_getElem hia)
    have he : EqlE Tryz.prog 65 (((cc3 C).drop (i * 3)).take 3) (((cc3 cs).drop (i * 3)).take 3) (decide (C[i] = cs[i])) := by rw [g1, g3]; exact eqlC (hCo _ (List.getElem_mem hib)) (ho _ (List.getElem_mem hia))
    repeat first | refine opsStep ?_ | refine codeStep ?_ | refine drawStep ?_
    refine SW.drawn rfl (by kernel_rfl) ?_
    repeat first | refine opsStep ?_ | refine codeStep ?_ | refine drawStep ?_
    refine guardE_of (by simp; omega) ?_
    repeat first | refine opsStep ?_ | refine codeStep ?_ | refine drawStep ?_
    refine guardE_of g2 ?_
    repeat first | refine opsStep ?_ | refine codeStep ?_ | refine drawStep ?_
    refine guardE_of (by simp; omega) ?_
    repeat first | refine opsStep ?_ | refine codeStep ?_ | refine drawStep ?_
    refine guardE_of g4 ?_
    repeat first | refine opsStep ?_ | refine codeStep ?_ | refine drawStep ?_
    refine ⟨_, he, ?_⟩
    repeat first | refine opsStep ?_ | refine codeStep ?_ | refine drawStep ?_
    refine ⟨by kernel_rfl, ?_⟩
    repeat first | refine opsStep ?_ | refine codeStep ?_ | refine drawStep ?_
    refine decB_split (fun h => ?_) (fun h => ?_)
    · repeat first | refine opsStep ?_ | refine codeStep ?_ | refine drawStep ?_
      refine finR (l := [(4, .sl .nil 0 []), (5, .int .i64 3)]) (H₁ := [.fro a (r.map (.int .i64))]) (v := .tup [.sl .nil 0 [], .int .i64 3]) ⟨(by kernel_rfl), (by kernel_rfl), trivial⟩ (by kernel_rfl) (Ent.refl _ _ _) (by kernel_rfl) (.inl ⟨?_, rfl⟩)
      rw [← Bool.not_eq_true, hio]
      rintro ⟨_, _, _, h4⟩
      subst h4
      simp at h
    · repeat first | refine opsStep ?_ | refine codeStep ?_ | refine drawStep ?_
      refine ⟨⟨i + 1, by omega, ?_⟩, (by show cs.length - (i + 1) < cs.length - i; omega), Ent.fr' ⟨(by kernel_rfl), (by kernel_rfl), (by kernel_rfl), inc_slot (i := i) (by omega), trivial⟩ (by kernel_rfl)⟩
      rw [List.take_succ_eq_append_getElem hib, List.take_succ_eq_append_getElem hia, hpre]
      simp at h; rw [h]
  · have hie : i = cs.length := by have := hil; simp at this; omega
    have heq : C = cs := by
      subst hie
      rw [List.take_length, ← hlen, List.take_length] at hpre
      exact hpre
    repeat first | refine opsStep ?_ | refine codeStep ?_ | refine drawStep ?_
    exact finR (l := [(4, .hs 0 a 0 a 1), (5, .int .i64 0)]) (H₁ := [.fro a (r.map (.int .i64))]) (v := .tup [.hs 0 a 0 a 1, .int .i64 0]) ⟨(by kernel_rfl), (by kernel_rfl), trivial⟩ (by kernel_rfl) (Ent.refl _ _ _) (by kernel_rfl) (.inr ⟨hio.2 ⟨hcl, hsome, hpall, heq⟩, a, rfl, rfl⟩)

end Tab

/- tabardref11.Right; tabardref12.Unpack, Same. -/
namespace Tab
open Go Go.Proofs
set_option maxRecDepth 10000
set_option linter.unusedVariables false
set_option linter.unusedSimpArgs false
set_option linter.unusedSectionVars false

theorem r11_Right (kc : SK) (cs : List Cb) (k n : Nat) (hk : k ≤ 6) (hl : cs.length < 2^40) (ho : ∀ c ∈ cs, okC c) : Pure Tryz.prog 33 [aCs kc cs, .int .i64 k, .int .i64 n] (.bool (cubesOk cs k && (rowC cs k).all fun x => decide (x < n))) := by
  have hu := r11_Unpack kc cs k hk hl ho
  have hq : 2 ^ k ≤ 2 ^ 6 := Nat.pow_le_pow_right (by omega) (by omega)
  have hrl := rowC_length cs k
  cases hc : cubesOk cs k with
  | false =>
    rw [rowU_bad hc] at hu
    refine Pure.of_sw 30 Tryz.func33 rfl Tryz.ntmps33 (by kernel_rfl) (Nat.le_of_ble_eq_true (by kernel_rfl)) (by simp [closeds, AV.closed, aSs_closed, aIs_closed, aBs_closed, aRs_closed, aDen_closed, aCs_closed, aAut_closed]) (by simp [AV.closed, closeds, aSs_closed, aIs_closed, aBs_closed, aRs_closed, aDen_closed, aCs_closed, aAut_closed]) ?_; refine SW.of_vc ?_
    repeat first | refine opsStep ?_ | refine codeStep ?_ | refine drawStep ?_
    refine callP hu ?_
    repeat first | refine opsStep ?_ | refine codeStep ?_ | refine drawStep ?_
    exact finB (b' := false) (by kernel_rfl) (by simp)
  | true =>
    rw [rowU_ok hc] at hu
    generalize rowC cs k = r at *
    refine Pure.of_sw 30 Tryz.func33 rfl Tryz.ntmps33 (by kernel_rfl) (Nat.le_of_ble_eq_true (by kernel_rfl)) (by simp [closeds, AV.closed, aSs_closed, aIs_closed, aBs_closed, aRs_closed, aDen_closed, aCs_closed, aAut_closed]) (by simp [AV.closed, closeds, aSs_closed, aIs_closed, aBs_closed, aRs_closed, aDen_closed, aCs_closed, aAut_closed]) ?_; refine SW.of_vc ?_
    repeat first | refine opsStep ?_ | refine codeStep ?_ | refine drawStep ?_
    refine callP hu ?_
    repeat first | refine opsStep ?_ | refine codeStep ?_ | refine drawStep ?_
    refine loopE_of (ι := {i : Nat // i ≤ r.length ∧ ∀ x ∈ r.take i, x < (n : Int)}) (fun i => (fr [(2, .int .i64 n), (7, aIs .any r), (9, .int .i64 i.1)], [])) (fun i => r.length - i.1) ⟨0, by omega, by simp⟩ (Ent.fr' ⟨(by kernel_rfl), (by kernel_rfl), (by kernel_rfl), trivial⟩ (by kernel_rfl)) ?_
    rintro ⟨i, hi, hpre⟩
    repeat first | refine opsStep ?_ | refine codeStep ?_ | refine drawStep ?_
    refine decB_dec (fun h => ?_) (fun h => ?_)
    · have hia : i < r.length := by have := h; simp at this; omega
      repeat first | refine opsStep ?_ | refine codeStep ?_ | refine drawStep ?_
      refine guardE_of (by simp; omega) ?_
      repeat first | refine opsStep ?_ | refine codeStep ?_ | refine drawStep ?_
      refine optE_of (c := .int .i64 r[i]) (by simp [Value.cells, hia]) ?_
      repeat first | refine opsStep ?_ | refine codeStep ?_ | refine drawStep ?_
      refine decB_dec (fun h2 => ?_) (fun h2 => ?_)
      · have h2 : r[i] ≥ (n : Int) := h2
        repeat first | refine opsStep ?_ | refine codeStep ?_ | refine drawStep ?_
        refine finB (b' := false) (by kernel_rfl) ?_
        rw [Bool.true_and]
        refine (Bool.eq_false_iff.2 fun hh => ?_).symm
        have := List.all_eq_true.1 hh _ (List.getElem_mem hia)
        simp at this; omega
      · have h2 : ¬ r[i] ≥ (n : Int) := h2
        repeat first | refine opsStep ?_ | refine codeStep ?_ | refine drawStep ?_
        refine ⟨⟨i + 1, by omega, fun x hx => ?_⟩, (by show r.length - (i + 1) < r.length - i; omega), Ent.fr' ⟨(by kernel_rfl), (by kernel_rfl), inc_slot (i := i) (by omega), trivial⟩ (by kernel_rfl)⟩
        rw [List.take_succ_eq_append_getElem hia] at hx
        rcases List.mem_append.1 hx with hx | hx
        · exact hpre x hx
        · simp at hx; omega
    · have hie : i = r.length := by have := h; simp at this; omega
      subst hie
      rw [List.take_length] at hpre
      repeat first | refine opsStep ?_ | refine codeStep ?_ | refine drawStep ?_
      exact finB (b' := true) (by kernel_rfl) (by rw [Bool.true_and]; exact (List.all_eq_true.2 fun x hx => by simpa using hpre x hx).symm)

theorem r12_Unpack (a : Aut) (ha : AutOk a) : Pure Tryz.prog 17 [aAut a] (.tup [aDen (unpD a), .bool (checkS a)]) := by
  have h1 := ha.tracks
  have h2 := ha.accept
  have h3 := ha.starts
  have h4 := ha.arena
  have hT := r12_Frame a.tk a.tracks a.accept.length (by omega) (fun s hs => by have := ha.names s hs; omega)
  have hfb : frameS a = false → checkS a = false := fun h => by rw [checkS, h]; rfl
  have hrb : ∀ q, q < a.accept.length → rowOkS a q = false → checkS a = false := fun q hq h => by
    rw [checkS, ← Bool.not_eq_true, Bool.and_eq_true, List.all_eq_true]
    rintro ⟨_, k⟩
    have := k q (List.mem_range.2 hq)
    rw [h] at this; simp at this
  have hgood : frameS a = true → (∀ i, i < a.accept.length → rowOkS a i = true) → checkS a = true := fun h1 h2 => by
    rw [checkS, h1, Bool.true_and, List.all_eq_true]
    intro i hi
    exact h2 i (List.mem_range.1 hi)
  have hval : ∀ c, checkS a = c → unpD a = if c = true then ⟨.any, a.tracks, .any, a.accept, .any, unR a a.accept.length⟩ else den0 := fun c h => by
    subst h
    by_cases hc : checkS a = true
    · rw [if_pos hc, unpD_ok hc]; rfl
    · rw [if_neg hc, unpD_bad (by simpa using hc)]
  generalize hck : checkS a = ck at *
  have hval := hval ck rfl
  rw [hval]
  have hw : IntKind.wrap .i64 ((a.accept.length : Int) + 1) = ((a.accept.length + 1 : Nat) : Int) := by rw [IntWalk.i64_in _ (by omega)]; simp
  refine Pure.of_read (by simp [closeds, aAut_closed]) (by split <;> simp [AV.closed, closeds, aDen_closed]) (R := fun o H' => (ck = false ∧ o = .ret (.tup [aDen den0, .bool false])) ∨ (ck = true ∧ o = .ret (.tup [.agg [aSs .any a.tracks, aBs .any a.accept, .hs 5 a.accept.length 0 a.accept.length 1], .bool true]) ∧ ∃ b0 b1 b2 b3 b4, H' = [b0, b1, b2, b3, b4, .cells a.accept.length ((unR a a.accept.length).map fun r => aIs r.1 r.2)])) ?_ ?_
  rotate_left
  · rintro o H' (⟨h, rfl⟩ | ⟨h, rfl, b0, b1, b2, b3, b4, rfl⟩)
    · exact ⟨_, rfl, by rw [h]; exact .refl _⟩
    · refine ⟨_, rfl, ?_⟩
      rw [h]
      refine .tup (.cons (.agg (.cons (.refl _) (.cons (.refl _) (.cons ?_ .nil)))) (.cons (.refl _) .nil))
      show Rd _ _ (aRs .any (unR a a.accept.length))
      have hl := unR_length a a.accept.length
      rw [aRs, hl]
      exact Rd.whole rfl (by simp [hl])
  refine ACall.of_sw 120 Tryz.func17 rfl Tryz.ntmps17 (by kernel_rfl) (Nat.le_of_ble_eq_true (by kernel_rfl)) ?_; refine SW.of_vc ?_
  repeat first | refine opsStep ?_ | refine codeStep ?_ | refine drawStep ?_
  refine SW.drawn rfl (by kernel_rfl) ?_
  repeat first | refine opsStep ?_ | refine codeStep ?_ | refine drawStep ?_
  refine .inl ⟨_, _, [], hT, RdsN_refl _, .inr rfl, none_need, ?_⟩
  cases ht : tracksS a.tracks a.accept.length with
  | false =>
    repeat first | refine opsStep ?_ | refine codeStep ?_ | refine drawStep ?_
    refine ⟨by kernel_rfl, ?_⟩
    repeat first | refine opsStep ?_ | refine codeStep ?_ | refine drawStep ?_
    exact finR (l := [(2, .ref 1 0 0), (3, .bool false)]) (H₁ := [.cells 0 a.cells, .cells 0 [.sl .nil 0 [], .sl .nil 0 [], .sl .nil 0 []]]) (v := .tup [aDen den0, .bool false]) ⟨(by kernel_rfl), (by kernel_rfl), trivial⟩ (by kernel_rfl) (Ent.refl _ _ _) (by kernel_rfl) (.inl ⟨hfb (by rw [frameS, ht]; rfl), rfl⟩)
  | true =>
    have k6 := (tracksS_parts ht).1
    have kp := (tracksS_parts ht).2.2.1
    have k256 := (tracksS_parts ht).2.2.2
    repeat first | refine opsStep ?_ | refine codeStep ?_ | refine drawStep ?_
    refine decB_dec (fun hl => ?_) (fun hl => ?_)
    · repeat first | refine opsStep ?_ | refine codeStep ?_ | refine drawStep ?_
      refine ⟨by kernel_rfl, ?_⟩
      repeat first | refine opsStep ?_ | refine codeStep ?_ | refine drawStep ?_
      exact finR (l := [(2, .ref 1 0 0), (3, .bool false)]) (H₁ := [.cells 0 a.cells, .cells 0 [.sl .nil 0 [], .sl .nil 0 [], .sl .nil 0 []]]) (v := .tup [aDen den0, .bool false]) ⟨(by kernel_rfl), (by kernel_rfl), trivial⟩ (by kernel_rfl) (Ent.refl _ _ _) (by kernel_rfl) (.inl ⟨hfb (by rw [frameS, decide_eq_false (show ¬ a.starts.length = a.accept.length + 1 by rw [hw] at hl; omega)]; simp), rfl⟩)
    have hl : a.starts.length = a.accept.length + 1 := by rw [hw] at hl; omega
    obtain ⟨z0, hz0⟩ : ∃ z, a.starts[0]? = some z := ⟨_, List.getElem?_eq_getElem (show 0 < a.starts.length by omega)⟩
    obtain ⟨zn, hzn⟩ : ∃ z, a.starts[a.accept.length]? = some z := ⟨_, List.getElem?_eq_getElem (show a.accept.length < a.starts.length by omega)⟩
    have g0 : a.starts.getD 0 0 = z0 := by rw [List.getD_eq_getElem?_getD, hz0]; rfl
    have gn : a.starts.getD a.accept.length 0 = zn := by rw [List.getD_eq_getElem?_getD, hzn]; rfl
    repeat first | refine opsStep ?_ | refine codeStep ?_ | refine drawStep ?_
    refine guardE_of (by simp; omega) ?_
    repeat first | refine opsStep ?_ | refine codeStep ?_ | refine drawStep ?_
    refine optE_of (c := .int .i64 z0) (by simp [Value.cells, hz0]) ?_
    repeat first | refine opsStep ?_ | refine codeStep ?_ | refine drawStep ?_
    refine decB_dec (fun h0 => ?_) (fun h0 => ?_)
    · repeat first | refine opsStep ?_ | refine codeStep ?_ | refine drawStep ?_
      refine ⟨by kernel_rfl, ?_⟩
      repeat first | refine opsStep ?_ | refine codeStep ?_ | refine drawStep ?_
      exact finR (l := [(2, .ref 1 0 0), (3, .bool false)]) (H₁ := [.cells 0 a.cells, .cells 0 [.sl .nil 0 [], .sl .nil 0 [], .sl .nil 0 []]]) (v := .tup [aDen den0, .bool false]) ⟨(by kernel_rfl), (by kernel_rfl), trivial⟩ (by kernel_rfl) (Ent.refl _ _ _) (by kernel_rfl) (.inl ⟨hfb (by rw [frameS, g0, decide_eq_false h0]; simp), rfl⟩)
    have h0 : z0 = 0 := Decidable.of_not_not h0
    repeat first | refine opsStep ?_ | refine codeStep ?_ | refine drawStep ?_
    refine guardE_of (by simp; omega) ?_
    repeat first | refine opsStep ?_ | refine codeStep ?_ | refine drawStep ?_
    refine optE_of (c := .int .i64 zn) (by simp [Value.cells, hzn]) ?_
    repeat first | refine opsStep ?_ | refine codeStep ?_ | refine drawStep ?_
    refine ⟨by kernel_rfl, ?_⟩
    repeat first | refine opsStep ?_ | refine codeStep ?_ | refine drawStep ?_
    refine decB_dec (fun hn => ?_) (fun hn => ?_)
    · skip
      repeat first | refine opsStep ?_ | refine codeStep ?_ | refine drawStep ?_
      exact finR (l := [(2, .ref 1 0 0), (3, .bool false)]) (H₁ := [.cells 0 a.cells, .cells 0 [.sl .nil 0 [], .sl .nil 0 [], .sl .nil 0 []]]) (v := .tup [aDen den0, .bool false]) ⟨(by kernel_rfl), (by kernel_rfl), trivial⟩ (by kernel_rfl) (Ent.refl _ _ _) (by kernel_rfl) (.inl ⟨hfb (by rw [frameS, gn, decide_eq_false hn]; simp), rfl⟩)
    have hn : zn = a.arena.length := Decidable.of_not_not hn
    repeat first | refine opsStep ?_ | refine codeStep ?_ | refine drawStep ?_
    refine loopE_of (ι := {q : Nat // q ≤ a.accept.length ∧ ∀ i, i < q → ∀ h : i + 1 < a.starts.length, a.starts[i] ≤ a.starts[i + 1]})
      (fun q => (fr [(1, .ref 0 0 0), (2, .ref 1 0 0), (4, .int .i64 a.accept.length), (5, .int .i64 q.1)], [.cells 0 a.cells, .cells 0 [.sl .nil 0 [], .sl .nil 0 [], .sl .nil 0 []]])) (fun q => a.accept.length - q.1) ⟨0, by omega, fun i h => by omega⟩ (Ent.fr' ⟨(by kernel_rfl), (by kernel_rfl), (by kernel_rfl), (by kernel_rfl), trivial⟩ (by kernel_rfl)) ?_
    rintro ⟨q, hq, hpre⟩
    repeat first | refine opsStep ?_ | refine codeStep ?_ | refine drawStep ?_
    refine decB_dec (fun hqn => ?_) (fun hqn => ?_)
    · have hqa : q < a.accept.length := by have := hqn; simp at this; omega
      have hw2 : IntKind.wrap .i64 ((q : Int) + 1) = ((q + 1 : Nat) : Int) := by rw [IntWalk.i64_in _ (by omega)]; simp
      have hs1 : q < a.starts.length := by omega
      have hs2 : q + 1 < a.starts.length := by omega
      repeat first | refine opsStep ?_ | refine codeStep ?_ | refine drawStep ?_
      refine SW.drawn rfl (by kernel_rfl) ?_
      repeat first | refine opsStep ?_ | refine codeStep ?_ | refine drawStep ?_
      refine guardE_of (by simp; omega) ?_
      repeat first | refine opsStep ?_ | refine codeStep ?_ | refine drawStep ?_
      refine optE_of (c := .int .i64 a.starts[q]) (by simp [Value.cells, hs1]) ?_
      repeat first | refine opsStep ?_ | refine codeStep ?_ | refine drawStep ?_
      refine guardE_of (by rw [hw2]; simp; omega) ?_
      repeat first | refine opsStep ?_ | refine codeStep ?_ | refine drawStep ?_
      refine optE_of (c := .int .i64 a.starts[q + 1]) (by rw [hw2, Int.toNat_natCast]; simp [Value.cells, hs2]) ?_
      repeat first | refine opsStep ?_ | refine codeStep ?_ | refine drawStep ?_
      refine ⟨by kernel_rfl, ?_⟩
      repeat first | refine opsStep ?_ | refine codeStep ?_ | refine drawStep ?_
      refine decB_dec (fun hgt => ?_) (fun hgt => ?_)
      · have hgt : a.starts[q] > a.starts[q + 1] := hgt
        repeat first | refine opsStep ?_ | refine codeStep ?_ | refine drawStep ?_
        exact finR (l := [(2, .ref 1 0 0), (3, .bool false)]) (H₁ := [.cells 0 a.cells, .cells 0 [.sl .nil 0 [], .sl .nil 0 [], .sl .nil 0 []]]) (v := .tup [aDen den0, .bool false]) ⟨(by kernel_rfl), (by kernel_rfl), trivial⟩ (by kernel_rfl) (Ent.refl _ _ _) (by kernel_rfl) (.inl ⟨hfb (by
                  cases hso : sortedI a.starts with
                  | false => rw [frameS, hso]; simp
                  | true => have := sorted_get hso q hs2; omega), rfl⟩)
      have hgt : ¬ a.starts[q] > a.starts[q + 1] := hgt
      repeat first | refine opsStep ?_ | refine codeStep ?_ | refine drawStep ?_
      refine ⟨⟨q + 1, by omega, fun i hi h => ?_⟩, (by show a.accept.length - (q + 1) < a.accept.length - q; omega), Ent.fr' ⟨(by kernel_rfl), (by kernel_rfl), (by kernel_rfl), inc_slot (i := q) (by omega), trivial⟩ (by kernel_rfl)⟩
      by_cases e : i = q
      · subst e; omega
      · exact hpre i (by omega) h
    have hqa : q = a.accept.length := by have := hqn; simp at this; omega
    subst hqa
    have hso : sortedI a.starts = true := sorted_of fun i h => hpre i (by omega) h
    have hf : FrameOk a := ⟨ht, hl, by rw [g0, h0], by rw [gn, hn], hso⟩
    repeat first | refine opsStep ?_ | refine codeStep ?_ | refine drawStep ?_
    refine SW.drawn rfl (by kernel_rfl) ?_
    repeat first | refine opsStep ?_ | refine codeStep ?_ | refine drawStep ?_
    refine guardE_of (by simp [Value.cells]) ?_
    refine guardE_of ⟨by omega, by show (0 + a.tracks.length) * 16 ≤ 140737488355328; omega⟩ ?_
    repeat first | refine opsStep ?_ | refine codeStep ?_ | refine drawStep ?_
    refine guardE_of (by simp [Value.cells]) ?_
    refine guardE_of ⟨by omega, by show (0 + a.accept.length) * 1 ≤ 140737488355328; omega⟩ ?_
    repeat first | refine opsStep ?_ | refine codeStep ?_ | refine drawStep ?_
    refine ⟨by kernel_rfl, ?_⟩
    repeat first | refine opsStep ?_ | refine codeStep ?_ | refine drawStep ?_
    have hinit : ∀ (nt : Fr) (s : Slots) (H : List Blk), nt.k = 0 → frOk s [(1, .ref 0 0 0), (2, .ref 1 0 0), (4, .int .i64 a.accept.length), (6, .ref 4 0 0), (7, .int .i64 (0 : Nat))] →
        H = [.cells 0 a.cells, .cells 0 [.sl .nil 0 [], .sl .nil 0 [], .sl .nil 0 []], .cells 1 (a.tracks.map .str), .cells 1 (a.accept.map .bool), .cells 0 [.hs 2 1 0 (0 + a.tracks.length) 1, .hs 3 1 0 (0 + a.accept.length) 1, .sl .nil 0 []]] →
        Ent nt s H (fr [(1, .ref 0 0 0), (2, .ref 1 0 0), (4, .int .i64 a.accept.length), (6, .ref 4 0 0), (7, .int .i64 (0 : Nat))]) [.cells 0 a.cells, .cells 0 [.sl .nil 0 [], .sl .nil 0 [], .sl .nil 0 []], .fro 1 (a.tracks.map .str), .fro 1 (a.accept.map .bool), .cells 0 [aSs .any a.tracks, aBs .any a.accept, .hs 5 (0) 0 (0) 1], Blk.cells (0) ((unR a 0).map fun r => aIs r.1 r.2)] := by
      intro nt s H hk hf hH
      subst hH
      rw [Nat.zero_add, Nat.zero_add]
      exact ((((Ent.fr hf).trans (Ent.freezeCell 4 0 (b := 2) rfl rfl rfl (by omega) (by simp))).trans (Ent.freezeCell 4 1 (b := 3) rfl rfl rfl (by omega) (by simp))).trans (Ent.nilCell 4 2 1 rfl rfl)).to (by kernel_rfl)
    refine loopE_of (ι := {q : Nat // q ≤ a.accept.length ∧ ∀ i, i < q → rowOkS a i = true}) (fun q => (fr [(1, .ref 0 0 0), (2, .ref 1 0 0), (4, .int .i64 a.accept.length), (6, .ref 4 0 0), (7, .int .i64 q.1)], [.cells 0 a.cells, .cells 0 [.sl .nil 0 [], .sl .nil 0 [], .sl .nil 0 []], .fro 1 (a.tracks.map .str), .fro 1 (a.accept.map .bool), .cells 0 [aSs .any a.tracks, aBs .any a.accept, .hs 5 (q.1) 0 (q.1) 1], Blk.cells (q.1) ((unR a q.1).map fun r => aIs r.1 r.2)])) (fun q => a.accept.length - q.1) ⟨0, by omega, fun i h => by omega⟩ (hinit _ _ _ rfl ⟨(by kernel_rfl), (by kernel_rfl), (by kernel_rfl), (by kernel_rfl), (by kernel_rfl), trivial⟩ (by kernel_rfl)) ?_
    clear hinit hpre hq hqn
    rintro ⟨q, hq, hpre⟩
    repeat first | refine opsStep ?_ | refine codeStep ?_ | refine drawStep ?_
    refine decB_dec (fun hqn => ?_) (fun hqn => ?_)
    · have hqa : q < a.accept.length := by have := hqn; simp at this; omega
      obtain ⟨p1, _⟩ := hf.get (q := q) (by omega)
      obtain ⟨p3, p4⟩ := hf.get (q := q + 1) (by omega)
      have hle := hf.le hqa
      have l1 := (List.getElem?_eq_some_iff.1 p1).1
      have l2 := (List.getElem?_eq_some_iff.1 p3).1
      have hw2 : IntKind.wrap .i64 ((q : Int) + 1) = ((q + 1 : Nat) : Int) := by rw [IntWalk.i64_in _ (by omega)]; simp
      have hrow : aCs a.ck.cut (a.row q) = .sl a.ck.cut ((a.st (q + 1) : Int).toNat - (a.st q : Int).toNat) (((cc3 a.arena).drop ((a.st q : Int).toNat * 3)).take (((a.st (q + 1) : Int).toNat - (a.st q : Int).toNat) * 3)) := by
        rw [Int.toNat_natCast, Int.toNat_natCast, cc3_drop, cc3_take, aCs, Aut.row]
        congr 1
        simp; omega
      have hcl : (a.row q).length = (a.st (q + 1) : Int).toNat - (a.st q : Int).toNat := by simp [Aut.row]; omega
      have hRt := fun h => r11_Right a.ck.cut (a.row q) a.tracks.length a.accept.length k6 h fun c hc => ha.cubes c (row_mem c hc)
      have hUn := fun h => r11_Unpack a.ck.cut (a.row q) a.tracks.length k6 h fun c hc => ha.cubes c (row_mem c hc)
      have hrowS : rowOkS a q = (decide ((a.row q).length ≤ 32) && (cubesOk (a.row q) a.tracks.length && (rowC (a.row q) a.tracks.length).all fun x => decide (x < a.accept.length))) := by rw [rowOkS, Bool.and_assoc]
      have hs := unR_succ a q
      have hlu := unR_length a q
      have hrb := hrb q hqa
      rw [hrow] at hRt hUn
      rw [hcl] at hRt hUn hrowS
      generalize a.row q = cs at *
      generalize unR a q = rs at *
      generalize hx : a.st q = x at *
      generalize hy : a.st (q + 1) = y at *
      repeat first | refine opsStep ?_ | refine codeStep ?_ | refine drawStep ?_
      refine SW.drawn rfl (by kernel_rfl) ?_
      repeat first | refine opsStep ?_ | refine codeStep ?_ | refine drawStep ?_
      refine guardE_of (by simp; omega) ?_
      repeat first | refine opsStep ?_ | refine codeStep ?_ | refine drawStep ?_
      refine optE_of (c := .int .i64 (x : Nat)) (by simp [Value.cells, p1]) ?_
      repeat first | refine opsStep ?_ | refine codeStep ?_ | refine drawStep ?_
      refine guardE_of (by rw [hw2]; simp; omega) ?_
      repeat first | refine opsStep ?_ | refine codeStep ?_ | refine drawStep ?_
      refine optE_of (c := .int .i64 (y : Nat)) (by rw [hw2, Int.toNat_natCast]; simp [Value.cells, p3]) ?_
      repeat first | refine opsStep ?_ | refine codeStep ?_ | refine drawStep ?_
      refine guardE_of (by simp; omega) ?_
      repeat first | refine opsStep ?_ | refine codeStep ?_ | refine drawStep ?_
      refine ⟨by kernel_rfl, ?_⟩
      repeat first | refine opsStep ?_ | refine codeStep ?_ | refine drawStep ?_
      refine decB_dec (fun h32 => ?_) (fun h32 => ?_)
      · have h32 : (((y : Int).toNat - (x : Int).toNat : Nat) : Int) > 32 := h32
        repeat first | refine opsStep ?_ | refine codeStep ?_ | refine drawStep ?_
        exact finR (l := [(2, .ref 1 0 0), (3, .bool false)]) (H₁ := [.cells 0 a.cells, .cells 0 [.sl .nil 0 [], .sl .nil 0 [], .sl .nil 0 []], .fro 1 (a.tracks.map .str), .fro 1 (a.accept.map .bool), .cells 0 [aSs .any a.tracks, aBs .any a.accept, .hs 5 (q) 0 (q) 1], Blk.cells (q) ((rs).map fun r => aIs r.1 r.2)]) (v := .tup [aDen den0, .bool false]) ⟨(by kernel_rfl), (by kernel_rfl), trivial⟩ (by kernel_rfl) (Ent.refl _ _ _) (by kernel_rfl) (.inl ⟨hrb (by rw [hrowS, decide_eq_false (by omega)]; rfl), rfl⟩)
      have h32 : (y : Int).toNat - (x : Int).toNat ≤ 32 := by
        have h32 : ¬ (((y : Int).toNat - (x : Int).toNat : Nat) : Int) > 32 := h32
        omega
      have hRt2 := hRt (by omega)
      have hUn2 := hUn (by omega)
      rw [decide_eq_true h32, Bool.true_and] at hrowS
      rw [← hrowS] at hRt2
      cases hb : rowOkS a q with
      | false =>
        rw [hb] at hRt2
        repeat first | refine opsStep ?_ | refine codeStep ?_ | refine drawStep ?_
        refine callP hRt2 ?_
        repeat first | refine opsStep ?_ | refine codeStep ?_ | refine drawStep ?_
        exact finR (l := [(2, .ref 1 0 0), (3, .bool false)]) (H₁ := [.cells 0 a.cells, .cells 0 [.sl .nil 0 [], .sl .nil 0 [], .sl .nil 0 []], .fro 1 (a.tracks.map .str), .fro 1 (a.accept.map .bool), .cells 0 [aSs .any a.tracks, aBs .any a.accept, .hs 5 (q) 0 (q) 1], Blk.cells (q) ((rs).map fun r => aIs r.1 r.2)]) (v := .tup [aDen den0, .bool false]) ⟨(by kernel_rfl), (by kernel_rfl), trivial⟩ (by kernel_rfl) (Ent.refl _ _ _) (by kernel_rfl) (.inl ⟨hrb hb, rfl⟩)
      | true =>
        rw [hb] at hRt2 hrowS
        have hcu := (Bool.and_eq_true_iff.1 hrowS.symm).1
        rw [rowU_ok hcu] at hUn2
        generalize rowC cs a.tracks.length = r at *
        repeat first | refine opsStep ?_ | refine codeStep ?_ | refine drawStep ?_
        refine callP hRt2 ?_
        repeat first | refine opsStep ?_ | refine codeStep ?_ | refine drawStep ?_
        refine callP hUn2 ?_
        repeat first | refine opsStep ?_ | refine codeStep ?_ | refine drawStep ?_
        refine guardE_of ⟨rfl, by simp [hlu]⟩ ?_
        repeat first | refine opsStep ?_ | refine codeStep ?_ | refine drawStep ?_
        refine guardE_of rfl ?_
        repeat first | refine opsStep ?_ | refine codeStep ?_ | refine drawStep ?_
        refine guardE_of ⟨by omega, by show (q + 1) * 24 ≤ 140737488355328; omega⟩ ?_
        repeat first | refine opsStep ?_ | refine codeStep ?_ | refine drawStep ?_
        refine ⟨⟨q + 1, by omega, fun i hi => ?_⟩, (by show a.accept.length - (q + 1) < a.accept.length - q; omega), Ent.frD (X := [.cells 0 [aIs .any r]]) ⟨(by kernel_rfl), (by kernel_rfl), (by kernel_rfl), (by kernel_rfl), inc_slot (i := q) (by omega), trivial⟩ ?_ (Nat.le_of_ble_eq_true (by kernel_rfl)) (by first | (simp [frBel, blksBel, Blk.bel, AV.bel, bels, bels_append, bels_map, aSs_bel, aIs_bel, aBs_bel, aRs_bel, aDen_bel, cells_bel]; done) | (simp only [List.drop_zero, ← List.map_take, ← List.map_drop, List.map_map, frBel, blksBel, Blk.bel, AV.bel, bels, bels_append, bels_map, aSs_bel, aIs_bel, aBs_bel, aRs_bel, aDen_bel, cells_bel]; simp [AV.bel, aSs_bel, aIs_bel, aBs_bel, aRs_bel, aDen_bel, cells_bel])) ?_⟩
        · by_cases e : i = q
          · subst e; exact hb
          · exact hpre i (by omega)
        · refine Eq.trans (b := [.cells 0 a.cells, .cells 0 [.sl .nil 0 [], .sl .nil 0 [], .sl .nil 0 []], .fro 1 (a.tracks.map .str), .fro 1 (a.accept.map .bool), .cells 0 [aSs .any a.tracks, aBs .any a.accept, .hs 5 (q + 1) 0 (q + 1) 1], Blk.cells (q + 1) (((((rs).map fun r => aIs r.1 r.2)).drop 0).take (q * 1) ++ [aIs .any r]), .cells 0 [aIs .any r]]) (by kernel_rfl) ?_
          show _ = [.cells 0 a.cells, .cells 0 [.sl .nil 0 [], .sl .nil 0 [], .sl .nil 0 []], .fro 1 (a.tracks.map .str), .fro 1 (a.accept.map .bool), .cells 0 [aSs .any a.tracks, aBs .any a.accept, .hs 5 ((q + 1)) 0 ((q + 1)) 1], Blk.cells ((q + 1)) ((unR a (q + 1)).map fun r => aIs r.1 r.2)] ++ [.cells 0 [aIs .any r]]
          rw [hs, List.drop_zero, List.take_of_length_le (by simp [hlu]), List.map_append]
          rfl
        · simp [blksBel, Blk.bel, bels, AV.bel, Aut.cells, bels_map, aSs_bel, aBs_bel, aIs_bel]
    · have hqa : q = a.accept.length := by have := hqn; simp at this; omega
      subst hqa
      repeat first | refine opsStep ?_ | refine codeStep ?_ | refine drawStep ?_
      exact finR (l := [(2, .ref 1 0 0), (3, .bool true)]) (H₁ := [.cells 0 a.cells, .cells 0 [aSs .any a.tracks, aBs .any a.accept, .hs 5 a.accept.length 0 a.accept.length 1], .fro 1 (a.tracks.map .str), .fro 1 (a.accept.map .bool), .cells 0 [aSs .any a.tracks, aBs .any a.accept, .hs 5 a.accept.length 0 a.accept.length 1], Blk.cells a.accept.length ((unR a a.accept.length).map fun r => aIs r.1 r.2)]) (v := .tup [.agg [aSs .any a.tracks, aBs .any a.accept, .hs 5 a.accept.length 0 a.accept.length 1], .bool true]) ⟨(by kernel_rfl), (by kernel_rfl), trivial⟩ (by kernel_rfl) (Ent.refl _ _ _) (by kernel_rfl) (.inr ⟨hgood (frameS_iff.2 hf) hpre, rfl, _, _, _, _, _, rfl⟩)

end Tab

/- Renamed and renamed back. -/
namespace Tab
open Go Go.Proofs
set_option maxRecDepth 10000
set_option linter.unusedVariables false
set_option linter.unusedSimpArgs false
set_option linter.unusedSectionVars false

theorem renE_of_ok {d : Den} {fm tt : List (List UInt8)} (h : renE d fm tt = 0) : rightS d = true ∧ fm.length = tt.length ∧ nonN tt = false ∧ allIn fm d.tracks = true ∧ twS fm = false ∧ sortE (calS d.tracks fm tt) = 0 := by
  cases h1 : rightS d with
  | false => rw [ren_shape (.inl h1)] at h; omega
  | true =>
    by_cases h2 : fm.length = tt.length
    · cases h3 : nonN tt with
      | true => rw [ren_name h1 h2 h3] at h; omega
      | false =>
        cases h4 : allIn fm d.tracks with
        | false => rw [ren_none h1 h2 h3 h4] at h; omega
        | true =>
          cases h5 : twS fm with
          | true => rw [ren_twice h1 h2 h3 h4 h5] at h; omega
          | false => exact ⟨rfl, h2, rfl, rfl, rfl, by rw [← ren_sort h1 h2 h3 h4 h5]; exact h⟩
    · rw [ren_shape (.inr h2)] at h; omega

theorem idx_inj {l : List (List UInt8)} {a b : List UInt8} (ha : a ∈ l) (hb : b ∈ l) (h : l.idxOf a = l.idxOf b) : a = b := by
  have h1 := List.getElem_idxOf (List.idxOf_lt_length_of_mem ha)
  have h2 := List.getElem_idxOf (List.idxOf_lt_length_of_mem hb)
  rw [← h1, ← h2]
  simp only [h]

theorem cal_hit {tr fm tt : List (List UInt8)} (hl : fm.length = tt.length) (hd : fm.Nodup) (hm : ∀ s ∈ fm, s ∈ tr) : ∀ i, i ≤ fm.length → ∀ k (hk : k < i) (hkl : k < fm.length), (calN tr fm tt i)[tr.idxOf fm[k]]? = tt[k]?
  | i + 1, hi, k, hk, hkl => by
    have hil : i < fm.length := by omega
    have e : fm.getD i [] = fm[i] := by simp [List.getD_eq_getElem?_getD, hil]
    have e2 : tt.getD i [] = tt[i] := by simp [List.getD_eq_getElem?_getD, show i < tt.length by omega]
    rw [calN, e, e2, List.getElem?_set, calN_length]
    have hlt := List.idxOf_lt_length_of_mem (hm _ (List.getElem_mem hil))
    by_cases hki : k = i
    · subst hki
      rw [if_pos rfl, if_pos hlt, List.getElem?_eq_getElem (by omega)]
    · rw [if_neg fun e => ?_]
      · exact cal_hit hl hd hm i (by omega) k (by omega) hkl
      · have := idx_inj (hm _ (List.getElem_mem hil)) (hm _ (List.getElem_mem hkl)) e
        rcases Nat.lt_trichotomy i k with h | h | h
        · omega
        · omega
        · exact List.pairwise_iff_getElem.1 hd k i hkl hil h this.symm
theorem cal_miss {tr fm tt : List (List UInt8)} {p : Nat} : ∀ i, i ≤ fm.length → (∀ k (hkl : k < fm.length), tr.idxOf fm[k] ≠ p) → (calN tr fm tt i)[p]? = tr[p]?
  | 0, _, _ => rfl
  | i + 1, hi, h => by
    have hil : i < fm.length := by omega
    have e : fm.getD i [] = fm[i] := by simp [List.getD_eq_getElem?_getD, hil]
    rw [calN, e, List.getElem?_set, if_neg (h i hil)]
    exact cal_miss i (by omega) h

theorem ren_back {d : Den} {fm tt : List (List UInt8)} (h : renE d fm tt = 0) : renE (renR d fm tt) tt fm = 0 ∧ sameD (renR (renR d fm tt) tt fm) d = true := by
  obtain ⟨hr, hl, hnt, ha, htw, hse⟩ := renE_of_ok h
  obtain ⟨k2, k3, _, _⟩ := tracksS_parts (rightS_parts hr).1
  obtain ⟨z1, z2, z3⟩ := sort_zero hse
  have ha := allIn_iff.1 ha
  have hfd := tw_false htw
  have hstr := rises_strict k3
  have htd := strict_nodup hstr
  have hcd : (calS d.tracks fm tt).Nodup := (tog_len_iff _).1 z2
  have hcl : (calS d.tracks fm tt).length = d.tracks.length := calN_length ..
  have hhit : ∀ k (hk : k < fm.length), (calS d.tracks fm tt)[d.tracks.idxOf fm[k]]? = tt[k]? := fun k hk => cal_hit hl hfd ha fm.length (Nat.le_refl _) k hk hk
  have hmiss : ∀ p, (∀ k (hk : k < fm.length), d.tracks.idxOf fm[k] ≠ p) → (calS d.tracks fm tt)[p]? = d.tracks[p]? := fun p hp => cal_miss fm.length (Nat.le_refl _) hp
  have hrt : (renR d fm tt).tracks = sortR (calS d.tracks fm tt) := by rw [renR_ok h]; rfl
  have hRR : renR d fm tt = ovD d (sortR (calS d.tracks fm tt)) (placesOf (calS d.tracks fm tt) (sortR (calS d.tracks fm tt))) := by rw [renR_ok h, renD_ov]
  rw [z1] at hrt hRR
  generalize hcle : calS d.tracks fm tt = cl at *
  have hnm : ∀ s, s ∈ togS cl ↔ s ∈ cl := fun s => tog_mem cl s
  have hns := tog_strict cl
  have hnd := strict_nodup hns
  have hcn := nonN_iff.1 z3
  have hrr : rightS (renR d fm tt) = true := by
    rw [hRR]
    exact ovD_right hr (by omega) (strict_rises hns fun s hs => hcn s ((hnm s).1 hs)) (by simp [placesOf, hcl])
  -- what is written
  have htin : ∀ k (hk : k < tt.length), tt[k] ∈ togS cl := fun k hk => by
    have := hhit k (by omega)
    rw [List.getElem?_eq_getElem hk] at this
    exact (hnm _).2 (List.mem_of_getElem? this)
  have httd : tt.Nodup := List.pairwise_iff_getElem.2 fun i j hi hj hij e => by
    have h1 := hhit i (by omega)
    have h2 := hhit j (by omega)
    rw [List.getElem?_eq_getElem hi] at h1
    rw [List.getElem?_eq_getElem hj, ← e] at h2
    obtain ⟨p1, q1⟩ := List.getElem?_eq_some_iff.1 h1
    obtain ⟨p2, q2⟩ := List.getElem?_eq_some_iff.1 h2
    have hix : d.tracks.idxOf fm[i] = d.tracks.idxOf fm[j] := by
      have a1 := idx_get hcd p1
      have a2 := idx_get hcd p2
      rw [q1] at a1
      rw [q2] at a2
      rw [← a1, ← a2]
    have := idx_inj (ha _ (List.getElem_mem (by omega))) (ha _ (List.getElem_mem (by omega))) hix
    exact List.pairwise_iff_getElem.1 hfd i j (by omega) (by omega) hij this
  have htm : ∀ s ∈ tt, s ∈ togS cl := fun s hs => by
    obtain ⟨k, hk, rfl⟩ := List.getElem_of_mem hs
    exact htin k hk
  have hhit2 : ∀ k (hk : k < tt.length), (calS (togS cl) tt fm)[(togS cl).idxOf tt[k]]? = fm[k]? := fun k hk => cal_hit hl.symm httd htm tt.length (Nat.le_refl _) k hk hk
  have hmiss2 : ∀ p, (∀ k (hk : k < tt.length), (togS cl).idxOf tt[k] ≠ p) → (calS (togS cl) tt fm)[p]? = (togS cl)[p]? := fun p hp => cal_miss tt.length (Nat.le_refl _) hp
  have hcl2 : (calS (togS cl) tt fm).length = d.tracks.length := by rw [calS, calN_length, z2, hcl]
  -- back
  have hback : ∀ i (hi : i < cl.length), (calS (togS cl) tt fm)[(togS cl).idxOf cl[i]]? = some (d.tracks[i]'(by omega)) := by
    intro i hi
    have hi' : i < d.tracks.length := by omega
    by_cases hin : d.tracks[i] ∈ fm
    · obtain ⟨k, hk, he⟩ := List.getElem_of_mem hin
      have h1 := hhit k hk
      rw [he, idx_get htd hi', List.getElem?_eq_getElem hi, List.getElem?_eq_getElem (by omega)] at h1
      rw [Option.some.inj h1, hhit2 k (by omega), List.getElem?_eq_getElem hk, he]
    · have hne : ∀ k (hk : k < fm.length), d.tracks.idxOf fm[k] ≠ i := fun k hk e => by
        have := List.getElem_idxOf (List.idxOf_lt_length_of_mem (ha _ (List.getElem_mem hk)))
        simp only [e] at this
        exact hin (this ▸ List.getElem_mem hk)
      have h1 := hmiss i hne
      rw [List.getElem?_eq_getElem hi, List.getElem?_eq_getElem hi'] at h1
      have h1 := Option.some.inj h1
      have hmem : cl[i] ∈ togS cl := (hnm _).2 (List.getElem_mem hi)
      rw [hmiss2 _ fun k hk e => ?_]
      · rw [List.getElem?_eq_getElem (List.idxOf_lt_length_of_mem hmem), List.getElem_idxOf, h1]
      · have e2 := idx_inj (htin k hk) hmem e
        have h3 := hhit k (by omega)
        rw [List.getElem?_eq_getElem hk] at h3
        obtain ⟨p1, q1⟩ := List.getElem?_eq_some_iff.1 h3
        have a1 := idx_get hcd p1
        rw [q1, e2, idx_get hcd hi] at a1
        exact hne k (by omega) a1.symm
  have hmem2 : ∀ s, s ∈ calS (togS cl) tt fm ↔ s ∈ d.tracks := fun s => by
    constructor
    · intro hs
      obtain ⟨j, hj, rfl⟩ := List.getElem_of_mem hs
      have hjn : j < (togS cl).length := by omega
      obtain ⟨i, hi, he⟩ := List.getElem_of_mem ((hnm _).1 (List.getElem_mem hjn))
      have hb := hback i hi
      rw [he, idx_get hnd hjn, List.getElem?_eq_getElem hj] at hb
      rw [Option.some.inj hb]
      exact List.getElem_mem _
    · intro hs
      obtain ⟨i, hi, rfl⟩ := List.getElem_of_mem hs
      exact List.mem_of_getElem? (hback i (by omega))
  have htog : togS (calS (togS cl) tt fm) = d.tracks := strict_eq (tog_strict _) hstr fun x => by rw [tog_mem, hmem2]
  have hnon2 : nonN (calS (togS cl) tt fm) = false := nonN_iff.2 fun s hs => rises_names k3 s ((hmem2 s).1 hs)
  obtain ⟨y1, y2⟩ := sort_fine hnon2 (by rw [htog, hcl2])
  have hE : renE (renR d fm tt) tt fm = 0 := by
    rw [ren_sort hrr hl.symm (nonN_iff.2 fun s hs => rises_names k3 s (ha s hs)) (by rw [hrt]; exact allIn_iff.2 htm) (tw_nodup httd), hrt]
    exact y1
  refine ⟨hE, ?_⟩
  rw [renR_ok hE, renD_ov, hrt, y2, htog, hRR]
  refine ovD_same rfl rfl ?_
  rw [ovD_rows, List.map_map]
  refine Eq.trans (List.map_congr_left fun r _ => ?_) (rows_id hr)
  rw [Function.comp_apply, ovRow_comp _ _ _ _ _ (by simp [placesOf, hcl2, z2, hcl]) (fun b hb => ?_)]
  · congr 1
    refine List.ext_getElem (by simp [placesOf, hcl]) fun i q1 q2 => ?_
    have hi : i < cl.length := by simpa [placesOf] using q1
    have hb := hback i hi
    obtain ⟨p1, e1⟩ := List.getElem?_eq_some_iff.1 hb
    simp only [placesOf, List.getElem_map, List.getD_eq_getElem?_getD, List.getElem?_map, List.getElem?_eq_getElem p1, Option.map_some, Option.getD_some, List.getElem_range]
    rw [e1, idx_get htd (by omega)]
  · obtain ⟨s, hs, rfl⟩ := List.mem_map.1 hb
    exact List.idxOf_lt_length_of_mem ((hnm s).2 hs)

end Tab

/- Layer 15: the law TrackBack. -/
namespace Tab
open Go Go.Proofs
set_option maxRecDepth 10000
set_option linter.unusedVariables false
set_option linter.unusedSimpArgs false
set_option linter.unusedSectionVars false

theorem sl0 (l : List (List UInt8)) : aSs .any l = .sl .any (0 + l.length) (l.map .str) := by rw [Nat.zero_add]; rfl

end Tab

/- The document's Widen; the fixed answers. -/
namespace Tab
open Go Go.Proofs
set_option maxRecDepth 10000
set_option linter.unusedVariables false
set_option linter.unusedSimpArgs false
set_option linter.unusedSectionVars false

theorem r15_Widen (kn : SK) (d : Den) (names : List (List UInt8)) (hd : DenOk d) (hn : names.length * 16 ≤ 140737488351232) (hns : ∀ s ∈ names, s.length ≤ 140737488351232) :
    Pure Tryz.prog 19 [aDen d, aSs kn names] (.tup [aDen (widenR d names), .int .i64 (widenE d names)]) := by
  have h1 := hd.tracks
  have h2 := hd.accept
  have h3 := hd.next
  refine Pure.of_sw 41 Tryz.func19 rfl Tryz.ntmps19 (by kernel_rfl) (Nat.le_of_ble_eq_true (by kernel_rfl)) (by simp [closeds, AV.closed, aSs_closed, aIs_closed, aBs_closed, aRs_closed, aDen_closed]) (by simp [AV.closed, closeds, aSs_closed, aIs_closed, aBs_closed, aRs_closed, aDen_closed]) ?_; refine SW.of_vc ?_
  repeat first | refine opsStep ?_ | refine codeStep ?_ | refine drawStep ?_
  refine callP (r12_Right d hd) ?_
  repeat first | refine opsStep ?_ | refine codeStep ?_ | refine drawStep ?_
  refine decB_split (fun h => ?_) (fun h => ?_)
  · repeat first | refine opsStep ?_ | refine codeStep ?_ | refine drawStep ?_
    have hr : rightS d = false := by simpa using h
    exact finV (v' := .tup [aDen den0, .int .i64 3]) (by kernel_rfl) (by rw [widenR_bad (by rw [widenE_shape (.inl hr)]; decide), widenE_shape (.inl hr)])
  · have hr : rightS d = true := by simpa using h
    repeat first | refine opsStep ?_ | refine codeStep ?_ | refine drawStep ?_
    refine callP (r04_Rises kn names (by omega) (fun s hs => by have := hns s hs; omega)) ?_
    repeat first | refine opsStep ?_ | refine codeStep ?_ | refine drawStep ?_
    refine decB_split (fun h => ?_) (fun h => ?_)
    · repeat first | refine opsStep ?_ | refine codeStep ?_ | refine drawStep ?_
      have hs : risesS names = false := by simpa using h
      exact finV (v' := .tup [aDen den0, .int .i64 3]) (by kernel_rfl) (by rw [widenR_bad (by rw [widenE_shape (.inr hs)]; decide), widenE_shape (.inr hs)])
    · have hs : risesS names = true := by simpa using h
      repeat first | refine opsStep ?_ | refine codeStep ?_ | refine drawStep ?_
      refine decB_dec (fun hl => ?_) (fun hl => ?_)
      · repeat first | refine opsStep ?_ | refine codeStep ?_ | refine drawStep ?_
        exact finV (v' := .tup [aDen den0, .int .i64 150]) (by kernel_rfl) (by rw [widenR_bad (by rw [widenE_wide hr hs (by omega)]; decide), widenE_wide hr hs (by omega)])
      · have hl' : names.length ≤ 6 := by omega
        obtain ⟨ht, hnn, hrows⟩ := rightS_parts hr
        have hk := tracksS_le ht
        repeat first | refine opsStep ?_ | refine codeStep ?_ | refine drawStep ?_
        refine loopE_of (ι := {i : Nat // i ≤ d.tracks.length ∧ inAll (d.tracks.take i) names = true})
          (fun i => (fr [(1, aSs kn names), (2, .ref 0 0 0), (4, .ref 1 0 0), (6, .int .i64 i.1)], [.cells 0 d.cells, .cells 0 den0.cells]))
          (fun i => d.tracks.length - i.1) ⟨0, by omega, by simp [inAll]⟩ (Ent.fr' ⟨(by kernel_rfl), (by kernel_rfl), (by kernel_rfl), (by kernel_rfl), trivial⟩ (by kernel_rfl)) ?_
        rintro ⟨i, hi, hpre⟩
        repeat first | refine opsStep ?_ | refine codeStep ?_ | refine drawStep ?_
        refine decB_dec (fun h => ?_) (fun h => ?_)
        · have hia : i < d.tracks.length := by have := h; simp at this; omega
          repeat first | refine opsStep ?_ | refine codeStep ?_ | refine drawStep ?_
          refine guardE_of (by simp; omega) ?_
          repeat first | refine opsStep ?_ | refine codeStep ?_ | refine drawStep ?_
          refine optE_of (c := .str d.tracks[i]) (by simp [Value.cells, hia]) ?_
          repeat first | refine opsStep ?_ | refine codeStep ?_ | refine drawStep ?_
          refine callP (r04_Index kn names d.tracks[i] (by omega)) ?_
          repeat first | refine opsStep ?_ | refine codeStep ?_ | refine drawStep ?_
          refine decB_dec (fun hx => ?_) (fun hx => ?_)
          · have hne : inAll d.tracks names = false := by
              rw [← Bool.not_eq_true, inAll, List.all_eq_true]
              intro k
              have := k _ (List.getElem_mem hia)
              have hm : d.tracks[i] ∈ names := by simpa using this
              rw [idxS, if_pos (List.idxOf_lt_length_of_mem hm)] at hx
              omega
            repeat first | refine opsStep ?_ | refine codeStep ?_ | refine drawStep ?_
            exact finV (v' := .tup [aDen den0, .int .i64 4]) (by kernel_rfl) (by rw [widenR_bad (by rw [widenE_none hr hs hl' hne]; decide), widenE_none hr hs hl' hne])
          · have hm : d.tracks[i] ∈ names := by
              rw [idxS] at hx
              split at hx
              · rename_i e; exact List.idxOf_lt_length_iff.1 e
              · omega
            repeat first | refine opsStep ?_ | refine codeStep ?_ | refine drawStep ?_
            refine ⟨⟨i + 1, by omega, ?_⟩, (by show d.tracks.length - (i + 1) < d.tracks.length - i; omega), Ent.fr' ⟨(by kernel_rfl), (by kernel_rfl), (by kernel_rfl), inc_slot (i := i) (by omega), trivial⟩ (by kernel_rfl)⟩
            rw [inAll, List.take_succ_eq_append_getElem hia, List.all_append, ← inAll, hpre]
            simp [hm]
        · have : i = d.tracks.length := by have := h; simp at this; omega
          subst this
          rw [List.take_length] at hpre
          repeat first | refine opsStep ?_ | refine codeStep ?_ | refine drawStep ?_
          refine callP (r15_over kn d.tk d names d.tracks hd hl' hk (fun s hm => by have := List.all_eq_true.1 hpre s hm; simpa using this) (fun r hr => (rowOk_parts (hrows r hr)).1)) ?_
          repeat first | refine opsStep ?_ | refine codeStep ?_ | refine drawStep ?_
          exact finV (v' := .tup [aDen (widenD d names), .int .i64 0]) (by kernel_rfl) (by rw [widenR_ok (widenE_ok hr hs hl' hpre), widenE_ok hr hs hl' hpre])

end Tab
