/- Lemmas for this claim: part 10. No condition. -/
import Derived.Test.YtgadapklmphliaaGreatZ8
import Derived.Test.YtgadapklmphliaaGreatZ9
/- Rows: right, their leaves, Pack, Unpack, Right. -/
namespace Tab
open Go Go.Proofs
set_option maxRecDepth 10000
set_option linter.unusedVariables false
set_option linter.unusedSimpArgs false
set_option linter.unusedSectionVars false

theorem row_right (k : SK) (r : List Int) (K : Nat) (hK : K ≤ 6) (hl : r.length = 2 ^ K) : Pure Tryz.prog 81 [aIs k r] (.bool (r.all fun x => decide (0 ≤ x))) := by
  have hp : 0 < 2 ^ K := Nat.two_pow_pos _
  have hb : 2 ^ K ≤ 2 ^ 6 := Nat.pow_le_pow_right (by omega) hK
  match r, hl with
  | [], hl => simp at hl; omega
  | a :: l, hl =>
  have hm := slices_Min k a l (by simp at hl; omega)
  have hz : ((a :: l).all fun x => decide (0 ≤ x)) = decide (minL a l ≥ 0) := by
    have := minL_lt l a
    rw [Bool.eq_iff_iff, List.all_eq_true, decide_eq_true_eq]
    constructor
    · intro h
      have : ¬ minL a l < 0 := fun k => by
        obtain ⟨x, hx, h2⟩ := this.1 k
        have := h x hx
        simp at this; omega
      omega
    · intro h x hx
      rw [decide_eq_true_eq]
      have : ¬ x < 0 := fun k => by have := this.2 ⟨x, hx, k⟩; omega
      omega
  rw [hz]
  generalize minL a l = m at *
  have he : ∀ N, (a :: l).length = N → aIs k (a :: l) = .sl k N ((a :: l).map (.int .i64)) := fun N h => by rw [aIs, h]
  have hc : K = 0 ∨ K = 1 ∨ K = 2 ∨ K = 3 ∨ K = 4 ∨ K = 5 ∨ K = 6 := by omega
  rcases hc with rfl | rfl | rfl | rfl | rfl | rfl | rfl
  · have hN : (a :: l).length = 1 := hl
    rw [he 1 hN] at hm
    refine Pure.of_sw 24 Tryz.func81 rfl Tryz.ntmps81 (by kernel_rfl) (Nat.le_of_ble_eq_true (by kernel_rfl)) (by simp [closeds, AV.closed, aSs_closed, aIs_closed, aBs_closed, aRs_closed, aDen_closed]) (by simp [AV.closed, closeds, aSs_closed, aIs_closed, aBs_closed, aRs_closed, aDen_closed]) ?_; refine SW.of_vc ?_
    refine VCode.ent (Ent.fr' (l := [(0, .sl k 1 ((a :: l).map (.int .i64)))]) (H' := []) ⟨he 1 hN, trivial⟩ (by kernel_rfl)) ?_
    repeat first | refine opsStep ?_ | refine codeStep ?_ | refine drawStep ?_
    refine callP hm ?_
    repeat first | refine opsStep ?_ | refine codeStep ?_ | refine drawStep ?_
    exact finB (b' := decide (m ≥ 0)) (by kernel_rfl) rfl
  · have hN : (a :: l).length = 2 := hl
    rw [he 2 hN] at hm
    refine Pure.of_sw 24 Tryz.func81 rfl Tryz.ntmps81 (by kernel_rfl) (Nat.le_of_ble_eq_true (by kernel_rfl)) (by simp [closeds, AV.closed, aSs_closed, aIs_closed, aBs_closed, aRs_closed, aDen_closed]) (by simp [AV.closed, closeds, aSs_closed, aIs_closed, aBs_closed, aRs_closed, aDen_closed]) ?_; refine SW.of_vc ?_
    refine VCode.ent (Ent.fr' (l := [(0, .sl k 2 ((a :: l).map (.int .i64)))]) (H' := []) ⟨he 2 hN, trivial⟩ (by kernel_rfl)) ?_
    repeat first | refine opsStep ?_ | refine codeStep ?_ | refine drawStep ?_
    refine callP hm ?_
    repeat first | refine opsStep ?_ | refine codeStep ?_ | refine drawStep ?_
    exact finB (b' := decide (m ≥ 0)) (by kernel_rfl) rfl
  · have hN : (a :: l).length = 4 := hl
    rw [he 4 hN] at hm
    refine Pure.of_sw 24 Tryz.func81 rfl Tryz.ntmps81 (by kernel_rfl) (Nat.le_of_ble_eq_true (by kernel_rfl)) (by simp [closeds, AV.closed, aSs_closed, aIs_closed, aBs_closed, aRs_closed, aDen_closed]) (by simp [AV.closed, closeds, aSs_closed, aIs_closed, aBs_closed, aRs_closed, aDen_closed]) ?_; refine SW.of_vc ?_
    refine VCode.ent (Ent.fr' (l := [(0, .sl k 4 ((a :: l).map (.int .i64)))]) (H' := []) ⟨he 4 hN, trivial⟩ (by kernel_rfl)) ?_
    repeat first | refine opsStep ?_ | refine codeStep ?_ | refine drawStep ?_
    refine callP hm ?_
    repeat first | refine opsStep ?_ | refine codeStep ?_ | refine drawStep ?_
    exact finB (b' := decide (m ≥ 0)) (by kernel_rfl) rfl
  · have hN : (a :: l).length = 8 := hl
    rw [he 8 hN] at hm
    refine Pure.of_sw 24 Tryz.func81 rfl Tryz.ntmps81 (by kernel_rfl) (Nat.le_of_ble_eq_true (by kernel_rfl)) (by simp [closeds, AV.closed, aSs_closed, aIs_closed, aBs_closed, aRs_closed, aDen_closed]) (by simp [AV.closed, closeds, aSs_closed, aIs_closed, aBs_closed, aRs_closed, aDen_closed]) ?_; refine SW.of_vc ?_
    refine VCode.ent (Ent.fr' (l := [(0, .sl k 8 ((a :: l).map (.int .i64)))]) (H' := []) ⟨he 8 hN, trivial⟩ (by kernel_rfl)) ?_
    repeat first | refine opsStep ?_ | refine codeStep ?_ | refine drawStep ?_
    refine callP hm ?_
    repeat first | refine opsStep ?_ | refine codeStep ?_ | refine drawStep ?_
    exact finB (b' := decide (m ≥ 0)) (by kernel_rfl) rfl
  · have hN : (a :: l).length = 16 := hl
    rw [he 16 hN] at hm
    refine Pure.of_sw 24 Tryz.func81 rfl Tryz.ntmps81 (by kernel_rfl) (Nat.le_of_ble_eq_true (by kernel_rfl)) (by simp [closeds, AV.closed, aSs_closed, aIs_closed, aBs_closed, aRs_closed, aDen_closed]) (by simp [AV.closed, closeds, aSs_closed, aIs_closed, aBs_closed, aRs_closed, aDen_closed]) ?_; refine SW.of_vc ?_
    refine VCode.ent (Ent.fr' (l := [(0, .sl k 16 ((a :: l).map (.int .i64)))]) (H' := []) ⟨he 16 hN, trivial⟩ (by kernel_rfl)) ?_
    repeat first | refine opsStep ?_ | refine codeStep ?_ | refine drawStep ?_
    refine callP hm ?_
    repeat first | refine opsStep ?_ | refine codeStep ?_ | refine drawStep ?_
    exact finB (b' := decide (m ≥ 0)) (by kernel_rfl) rfl
  · have hN : (a :: l).length = 32 := hl
    rw [he 32 hN] at hm
    refine Pure.of_sw 24 Tryz.func81 rfl Tryz.ntmps81 (by kernel_rfl) (Nat.le_of_ble_eq_true (by kernel_rfl)) (by simp [closeds, AV.closed, aSs_closed, aIs_closed, aBs_closed, aRs_closed, aDen_closed]) (by simp [AV.closed, closeds, aSs_closed, aIs_closed, aBs_closed, aRs_closed, aDen_closed]) ?_; refine SW.of_vc ?_
    refine VCode.ent (Ent.fr' (l := [(0, .sl k 32 ((a :: l).map (.int .i64)))]) (H' := []) ⟨he 32 hN, trivial⟩ (by kernel_rfl)) ?_
    repeat first | refine opsStep ?_ | refine codeStep ?_ | refine drawStep ?_
    refine callP hm ?_
    repeat first | refine opsStep ?_ | refine codeStep ?_ | refine drawStep ?_
    exact finB (b' := decide (m ≥ 0)) (by kernel_rfl) rfl
  · have hN : (a :: l).length = 64 := hl
    rw [he 64 hN] at hm
    refine Pure.of_sw 24 Tryz.func81 rfl Tryz.ntmps81 (by kernel_rfl) (Nat.le_of_ble_eq_true (by kernel_rfl)) (by simp [closeds, AV.closed, aSs_closed, aIs_closed, aBs_closed, aRs_closed, aDen_closed]) (by simp [AV.closed, closeds, aSs_closed, aIs_closed, aBs_closed, aRs_closed, aDen_closed]) ?_; refine SW.of_vc ?_
    refine VCode.ent (Ent.fr' (l := [(0, .sl k 64 ((a :: l).map (.int .i64)))]) (H' := []) ⟨he 64 hN, trivial⟩ (by kernel_rfl)) ?_
    repeat first | refine opsStep ?_ | refine codeStep ?_ | refine drawStep ?_
    refine callP hm ?_
    repeat first | refine opsStep ?_ | refine codeStep ?_ | refine drawStep ?_
    exact finB (b' := decide (m ≥ 0)) (by kernel_rfl) rfl

theorem row_leaf (c : Cb) (L : List Cb) (hL : L.length < 2^40) : ACall Tryz.prog 83 [.agg (cb3 c), .ref 0 0 0] [Blk.cells 0 [.hs 1 (L).length 0 (L).length 3], .cells (L).length (cc3 (L))] fun o H' => o = .ret (.tup []) ∧ H' = [Blk.cells 0 [.hs 1 (L ++ [c]).length 0 (L ++ [c]).length 3], .cells (L ++ [c]).length (cc3 (L ++ [c]))] := by
  have hl : (L ++ [c]).length = L.length + 1 := by simp
  have hcc : (cc3 L).length = L.length * 3 := cc3_length L
  refine ACall.of_sw 7 Tryz.func83 rfl Tryz.ntmps83 (by kernel_rfl) (Nat.le_of_ble_eq_true (by kernel_rfl)) ?_; refine SW.of_vc ?_
  repeat first | refine opsStep ?_ | refine codeStep ?_ | refine drawStep ?_
  refine guardE_of ⟨rfl, by show 0 + L.length * 3 ≤ (cc3 L).length; omega⟩ ?_
  repeat first | refine opsStep ?_ | refine codeStep ?_ | refine drawStep ?_
  refine guardE_of rfl ?_
  repeat first | refine opsStep ?_ | refine codeStep ?_ | refine drawStep ?_
  refine guardE_of ⟨by omega, by show (L.length + 1) * 24 ≤ 140737488355328; omega⟩ ?_
  repeat first | refine opsStep ?_ | refine codeStep ?_ | refine drawStep ?_
  refine finR (l := []) (H₁ := [Blk.cells 0 [.hs 1 (L ++ [c]).length 0 (L ++ [c]).length 3], .cells (L ++ [c]).length (cc3 (L ++ [c]))] ++ [.cells 0 (cb3 c), .cells 0 (cb3 c)]) (v := .tup []) trivial (Eq.trans (b := [.cells 0 [.hs 1 (L.length + 1) 0 (L.length + 1) 3], .cells (L.length + 1) (((cc3 L).drop 0).take (L.length * 3) ++ cb3 c), .cells 0 (cb3 c), .cells 0 (cb3 c)]) (by kernel_rfl) ?_) (Ent.drop (Nat.le_of_ble_eq_true (by kernel_rfl)) trivial ?_) (by kernel_rfl) ⟨rfl, rfl⟩
  · rw [hl, List.drop_zero, List.take_of_length_le (by omega), cc3_append]; simp [cc3]
  · simp [blksBel, Blk.bel, bels, AV.bel, closeds_bel _ (cc3_closed _)]

theorem or_pow {m k : Nat} (h : 2 ^ (k + 1) ∣ m) (hm : m ≤ 1000) (hk : k ≤ 6) : AV.int .i64 (orI m ((2 ^ k : Nat) : Int)) = AV.int .i64 ((m + 2 ^ k : Nat) : Int) := by
  have hb : 2 ^ k ≤ 2 ^ 6 := Nat.pow_le_pow_right (by omega) hk
  rw [orI_nat (by omega) (by omega), or_add h]

theorem row_leaves : ∀ (K : Nat), K ≤ 6 → ∀ (kk : SK) (r : List Int) (m b : Nat) (L : List Cb), r.length = 2 ^ K → 2 ^ K ∣ m → 2 ^ K ∣ b → m + 64 * K ≤ 1000 → b + 64 * K ≤ 1000 → L.length + 2 ^ K ≤ 2 ^ 40 →
    ACall Tryz.prog 82 [aIs kk r, .int .i64 m, .int .i64 b, .fn (.func 83) [] [.ref 0 0 0]] [Blk.cells 0 [.hs 1 (L).length 0 (L).length 3], .cells (L).length (cc3 (L))] fun o H' => o = .ret (.tup []) ∧ H' = [Blk.cells 0 [.hs 1 (L ++ cubR K r m b).length 0 (L ++ cubR K r m b).length 3], .cells (L ++ cubR K r m b).length (cc3 (L ++ cubR K r m b))]
  | 0, _, kk, r, m, b, L, hr, _, _, _, _, hL => by
    obtain ⟨x, rfl⟩ : ∃ x, r = [x] := by
      match r, hr with
      | [x], _ => exact ⟨x, rfl⟩
    have hlf := row_leaf ((m : Int), (b : Int), x) L (by omega)
    refine ACall.of_sw 58 Tryz.func82 rfl Tryz.ntmps82 (by kernel_rfl) (Nat.le_of_ble_eq_true (by kernel_rfl)) ?_; refine SW.of_vc ?_
    iterate 2 refine codeStep ?_
    iterate 5 refine opsStep ?_
    refine VCode.ent (Ent.fr' (l := [(0, aIs kk [x]), (1, .int .i64 m), (2, .int .i64 b), (3, .fn (.func 83) [] [.ref 0 0 0]), (8, .int .i64 0)]) (H' := [Blk.cells 0 [.hs 1 (L).length 0 (L).length 3], .cells (L).length (cc3 (L))]) ⟨(by kernel_rfl), (by kernel_rfl), (by kernel_rfl), (by kernel_rfl), (by kernel_rfl), trivial⟩ (by kernel_rfl)) ?_
    repeat first | refine opsStep ?_ | refine codeStep ?_ | refine drawStep ?_
    refine callH hlf ?_
    repeat first | refine opsStep ?_ | refine codeStep ?_ | refine drawStep ?_
    exact finR (l := []) (H₁ := [Blk.cells 0 [.hs 1 (L ++ [((m : Int), (b : Int), x)]).length 0 (L ++ [((m : Int), (b : Int), x)]).length 3], .cells (L ++ [((m : Int), (b : Int), x)]).length (cc3 (L ++ [((m : Int), (b : Int), x)]))]) (v := .tup []) trivial (by kernel_rfl) (Ent.refl _ _ _) (by kernel_rfl) ⟨rfl, rfl⟩
  | K + 1, hK, kk, r, m, b, L, hr, hdm, hdb, hm, hb, hL => by
    have hp : 2 ^ (K + 1) = 2 ^ K + 2 ^ K := by rw [Nat.pow_succ]; omega
    have hq : 2 ^ K ≤ 2 ^ 6 := Nat.pow_le_pow_right (by omega) (by omega)
    have hpos : 0 < 2 ^ K := Nat.two_pow_pos _
    have om := or_pow hdm (by omega) (show K ≤ 6 by omega)
    have ob := or_pow hdb (by omega) (show K ≤ 6 by omega)
    have hd : 2 ^ K ∣ 2 ^ (K + 1) := ⟨2, by omega⟩
    have i0 := row_leaves K (by omega) kk.cut (r.take (2 ^ K)) m b L (by simp; omega) (Nat.dvd_trans hd hdm) (Nat.dvd_trans hd hdb) (by omega) (by omega) (by omega)
    have hln := cubR_len K (r.take (2 ^ K)) (m + 2 ^ K) b
    have i1 := row_leaves K (by omega) kk.cut (r.take (2 ^ K)) (m + 2 ^ K) b L (by simp; omega) (Nat.dvd_add (Nat.dvd_trans hd hdm) (Nat.dvd_refl _)) (Nat.dvd_trans hd hdb) (by omega) (by omega) (by omega)
    have i2 := row_leaves K (by omega) kk.cut (r.drop (2 ^ K)) (m + 2 ^ K) (b + 2 ^ K) (L ++ cubR K (r.take (2 ^ K)) (m + 2 ^ K) b) (by simp; omega) (Nat.dvd_add (Nat.dvd_trans hd hdm) (Nat.dvd_refl _)) (Nat.dvd_add (Nat.dvd_trans hd hdb) (Nat.dvd_refl _)) (by omega) (by omega) (by rw [List.length_append]; omega)
    rw [← om] at i1 i2
    rw [← ob] at i2
    have hEq := slices_Equal_I kk.cut kk.cut (r.take (2 ^ K)) (r.drop (2 ^ K)) (by simp; omega) (by simp; omega)
    have hcub : cubR (K + 1) r m b = if r.take (2 ^ K) = r.drop (2 ^ K) then cubR K (r.take (2 ^ K)) m b else cubR K (r.take (2 ^ K)) (m + 2 ^ K) b ++ cubR K (r.drop (2 ^ K)) (m + 2 ^ K) (b + 2 ^ K) := rfl
    generalize cubR (K + 1) r m b = C at *
    generalize cubR K (r.take (2 ^ K)) (m + 2 ^ K) b = C1 at *
    generalize cubR K (r.drop (2 ^ K)) (m + 2 ^ K) (b + 2 ^ K) = C2 at *
    generalize cubR K (r.take (2 ^ K)) m b = C0 at *
    generalize 2 ^ K = h at *
    have e1 : aIs kk.cut (r.take h) = .sl kk.cut ((h : Int).toNat - (0 : Int).toNat) (((r.map (AV.int .i64)).drop ((0 : Int).toNat * 1)).take (((h : Int).toNat - (0 : Int).toNat) * 1)) := by
      rw [aIs]; simp; omega
    have e2 : aIs kk.cut (r.drop h) = .sl kk.cut ((r.length : Int).toNat - (h : Int).toNat) (((r.map (AV.int .i64)).drop ((h : Int).toNat * 1)).take (((r.length : Int).toNat - (h : Int).toNat) * 1)) := by
      rw [aIs]; simp; rw [List.take_of_length_le (by simp)]
    rw [e1, e2] at hEq
    rw [e1] at i0 i1
    rw [e2] at i2
    have hw : IntKind.wrap .i64 ((r.length : Int).tdiv 2) = (h : Int) := by
      rw [show (r.length : Int) = 2 * (h : Int) by omega, Int.mul_tdiv_cancel_left _ (by decide), IntWalk.i64_in _ (by omega)]
    refine ACall.of_sw 58 Tryz.func82 rfl Tryz.ntmps82 (by kernel_rfl) (Nat.le_of_ble_eq_true (by kernel_rfl)) ?_; refine SW.of_vc ?_
    iterate 2 refine codeStep ?_
    iterate 5 refine opsStep ?_
    refine VCode.ent (Ent.fr' (l := [(0, aIs kk r), (1, .int .i64 m), (2, .int .i64 b), (3, .fn (.func 83) [] [.ref 0 0 0]), (8, .int .i64 h)]) (H' := [Blk.cells 0 [.hs 1 (L).length 0 (L).length 3], .cells (L).length (cc3 (L))]) ⟨(by kernel_rfl), (by kernel_rfl), (by kernel_rfl), (by kernel_rfl), congrArg (AV.int .i64) hw, trivial⟩ (by kernel_rfl)) ?_
    repeat first | refine opsStep ?_ | refine codeStep ?_ | refine drawStep ?_
    refine decB_dec (fun h0 => ?_) (fun h0 => ?_)
    · exact absurd h0 (by omega)
    repeat first | refine opsStep ?_ | refine codeStep ?_ | refine drawStep ?_
    refine SW.drawn rfl (by kernel_rfl) ?_
    repeat first | refine opsStep ?_ | refine codeStep ?_ | refine drawStep ?_
    refine guardE_of (by simp; omega) ?_
    repeat first | refine opsStep ?_ | refine codeStep ?_ | refine drawStep ?_
    refine guardE_of (by simp; omega) ?_
    repeat first | refine opsStep ?_ | refine codeStep ?_ | refine drawStep ?_
    refine .inl ⟨_, _, [], hEq, RdsN_refl _, .inr rfl, none_need, ?_⟩
    repeat first | refine opsStep ?_ | refine codeStep ?_ | refine drawStep ?_
    refine ⟨by kernel_rfl, ?_⟩
    repeat first | refine opsStep ?_ | refine codeStep ?_ | refine drawStep ?_
    refine decB_dec (fun heq => ?_) (fun heq => ?_)
    · repeat first | refine opsStep ?_ | refine codeStep ?_ | refine drawStep ?_
      refine guardE_of (by simp; omega) ?_
      repeat first | refine opsStep ?_ | refine codeStep ?_ | refine drawStep ?_
      refine callH i0 ?_
      repeat first | refine opsStep ?_ | refine codeStep ?_ | refine drawStep ?_
      refine finR (l := []) (H₁ := [Blk.cells 0 [.hs 1 (L ++ C0).length 0 (L ++ C0).length 3], .cells (L ++ C0).length (cc3 (L ++ C0))]) (v := .tup []) trivial (by kernel_rfl) (Ent.refl _ _ _) (by kernel_rfl) ⟨rfl, ?_⟩
      rw [hcub, if_pos heq]
    · repeat first | refine opsStep ?_ | refine codeStep ?_ | refine drawStep ?_
      refine guardE_of (by simp; omega) ?_
      repeat first | refine opsStep ?_ | refine codeStep ?_ | refine drawStep ?_
      refine callH i1 ?_
      repeat first | refine opsStep ?_ | refine codeStep ?_ | refine drawStep ?_
      refine guardE_of (by simp; omega) ?_
      repeat first | refine opsStep ?_ | refine codeStep ?_ | refine drawStep ?_
      refine callH i2 ?_
      repeat first | refine opsStep ?_ | refine codeStep ?_ | refine drawStep ?_
      refine finR (l := []) (H₁ := [Blk.cells 0 [.hs 1 ((L ++ C1) ++ C2).length 0 ((L ++ C1) ++ C2).length 3], .cells ((L ++ C1) ++ C2).length (cc3 ((L ++ C1) ++ C2))]) (v := .tup []) trivial (by kernel_rfl) (Ent.refl _ _ _) (by kernel_rfl) ⟨rfl, ?_⟩
      rw [hcub, if_neg heq, List.append_assoc]

end Tab

/- Rows: Pack, Unpack, Right. -/
namespace Tab
open Go Go.Proofs
set_option maxRecDepth 10000
set_option linter.unusedVariables false
set_option linter.unusedSimpArgs false
set_option linter.unusedSectionVars false

theorem ints_cl (l : List Int) : closeds (l.map (.int .i64)) := aIs_closed .any l
theorem cubR_ok : ∀ (K : Nat), K ≤ 6 → ∀ (r : List Int) (m b : Nat), (∀ x ∈ r, okI x) → m + 64 * K ≤ 1000 → b + 64 * K ≤ 1000 → ∀ c ∈ cubR K r m b, okC c
  | 0, _, r, m, b, hr, hm, hb, c, hc => by
    simp only [cubR, List.mem_singleton] at hc
    subst hc
    refine ⟨⟨by show -(2 ^ 63) ≤ (m : Int); omega, by show (m : Int) < 2 ^ 63; omega⟩, ⟨by show -(2 ^ 63) ≤ (b : Int); omega, by show (b : Int) < 2 ^ 63; omega⟩, ?_⟩
    show okI (r.getD 0 0)
    cases r with
    | nil => exact ⟨by decide, by decide⟩
    | cons x r => exact hr x (by simp)
  | K + 1, hK, r, m, b, hr, hm, hb, c, hc => by
    have hq : 2 ^ K ≤ 2 ^ 6 := Nat.pow_le_pow_right (by omega) (by omega)
    have ht : ∀ x ∈ r.take (2 ^ K), okI x := fun x h => hr x (List.mem_of_mem_take h)
    have hd : ∀ x ∈ r.drop (2 ^ K), okI x := fun x h => hr x (List.mem_of_mem_drop h)
    rw [cubR] at hc
    split at hc
    · exact cubR_ok K (by omega) _ m b ht (by omega) (by omega) c hc
    · rcases List.mem_append.1 hc with hc | hc
      · exact cubR_ok K (by omega) _ _ b ht (by omega) (by omega) c hc
      · exact cubR_ok K (by omega) _ _ _ hd (by omega) (by omega) c hc
theorem atC_ok {cs : List Cb} (h : ∀ c ∈ cs, okC c) (i : Int) : okI ((atC cs i).getD 0) := by
  rw [atC]
  cases e : cs.find? (hitC i) with
  | none => exact ⟨by decide, by decide⟩
  | some c => exact (h c (List.mem_of_find?_eq_some e)).2.2
theorem rowC_ok {cs : List Cb} (h : ∀ c ∈ cs, okC c) (k : Nat) : ∀ x ∈ rowC cs k, okI x := by
  intro x hx
  obtain ⟨i, _, rfl⟩ := List.mem_map.1 hx
  exact atC_ok h i

theorem row_Pack_bad (k : SK) (r : List Int) (K : Nat) (hK : K ≤ 6) (hl : r.length = 2 ^ K) (h : (r.all fun x => decide (0 ≤ x)) = false) : Pure Tryz.prog 64 [aIs k r] (.tup [.sl .nil 0 [], .int .i64 3]) := by
  have hr := row_right k r K hK hl
  rw [h] at hr
  refine Pure.of_sw 12 Tryz.func64 rfl Tryz.ntmps64 (by kernel_rfl) (Nat.le_of_ble_eq_true (by kernel_rfl)) (by simp [closeds, AV.closed, aSs_closed, aIs_closed, aBs_closed, aRs_closed, aDen_closed]) (by simp [AV.closed, closeds, aSs_closed, aIs_closed, aBs_closed, aRs_closed, aDen_closed]) ?_; refine SW.of_vc ?_
  repeat first | refine opsStep ?_ | refine codeStep ?_ | refine drawStep ?_
  refine callP hr ?_
  repeat first | refine opsStep ?_ | refine codeStep ?_ | refine drawStep ?_
  exact finV (v' := .tup [.sl .nil 0 [], .int .i64 3]) (by kernel_rfl) rfl
theorem row_Pack_ok (k : SK) (r : List Int) (K : Nat) (hK : K ≤ 6) (hl : r.length = 2 ^ K) (h : (r.all fun x => decide (0 ≤ x)) = true) : Pure Tryz.prog 64 [aIs k r] (.tup [aCs .any (cubR K r 0 0), .int .i64 0]) := by
  have hr := row_right k r K hK hl
  rw [h] at hr
  have hq : 2 ^ K ≤ 2 ^ 6 := Nat.pow_le_pow_right (by omega) (by omega)
  have hlv := row_leaves K hK k r 0 0 [] hl (Nat.dvd_zero _) (Nat.dvd_zero _) (by omega) (by omega) (by simp; omega)
  rw [List.nil_append] at hlv
  generalize cubR K r 0 0 = C at *
  refine Pure.of_read (by simp [closeds, aIs_closed]) (by simp [AV.closed, closeds, aCs_closed]) (R := fun o H' => o = .ret (.tup [.hs 1 C.length 0 C.length 3, .int .i64 0]) ∧ H' = [Blk.cells 0 [.hs 1 (C).length 0 (C).length 3], .cells (C).length (cc3 (C))]) ?_ ?_
  · refine ACall.of_sw 12 Tryz.func64 rfl Tryz.ntmps64 (by kernel_rfl) (Nat.le_of_ble_eq_true (by kernel_rfl)) ?_; refine SW.of_vc ?_
    refine codeStep ?_
    refine codeStep ?_
    iterate 3 refine opsStep ?_
    refine VCode.upto (fr [(0, aIs k r)]) [] ?_ ?_
    · repeat first | refine opsStep ?_ | refine codeStep ?_ | refine drawStep ?_
      refine callP hr ?_
      repeat first | refine opsStep ?_ | refine codeStep ?_ | refine drawStep ?_
      show Ent _ _ _ _ _
      exact Ent.fr' ⟨(by kernel_rfl), trivial⟩ (by kernel_rfl)
    refine VCode.upto (fr [(0, aIs k r), (4, .ref 0 0 0)]) [.cells 0 [.hs 1 0 0 0 3], .cells 0 []] ?_ ?_
    · repeat first | refine opsStep ?_ | refine codeStep ?_ | refine drawStep ?_
      show Ent _ _ _ _ _
      exact ((Ent.fr' (l := [(0, aIs k r), (4, .ref 0 0 0)]) (H' := [.cells 0 [.sl .nil 0 []]]) ⟨(by kernel_rfl), (by kernel_rfl), trivial⟩ (by kernel_rfl)).trans (Ent.nilCell 0 0 3 rfl rfl)).to rfl
    repeat first | refine opsStep ?_ | refine codeStep ?_ | refine drawStep ?_
    refine callH hlv ?_
    repeat first | refine opsStep ?_ | refine codeStep ?_ | refine drawStep ?_
    exact finR (l := [(2, .hs 1 C.length 0 C.length 3), (3, .int .i64 0)]) (H₁ := [Blk.cells 0 [.hs 1 (C).length 0 (C).length 3], .cells (C).length (cc3 (C))]) (v := .tup [.hs 1 C.length 0 C.length 3, .int .i64 0]) ⟨(by kernel_rfl), (by kernel_rfl), trivial⟩ (by kernel_rfl) (Ent.refl _ _ _) (by kernel_rfl) ⟨rfl, rfl⟩
  · rintro o H' ⟨rfl, rfl⟩
    exact ⟨_, rfl, .tup (.cons (Rd.whole rfl (cc3_length C).symm) (.cons (.refl _) .nil))⟩

def rowU (cs : List Cb) (k : Nat) : AV := if cubesOk cs k = true then .tup [aIs .any (rowC cs k), .int .i64 0] else .tup [.sl .nil 0 [], .int .i64 3]
theorem cubesOk_iff {cs k} : cubesOk cs k = true ↔ cs.length ≤ 2 ^ k ∧ (∀ i : Nat, i < 2 ^ k → (atC cs i).isSome = true) ∧ ((rowC cs k).all fun x => decide (0 ≤ x)) = true ∧ cubR k (rowC cs k) 0 0 = cs := by
  simp only [cubesOk, Bool.and_eq_true, decide_eq_true_eq, List.all_eq_true, List.mem_range]
  exact ⟨fun ⟨⟨⟨h1, h2⟩, h3⟩, h4⟩ => ⟨h1, h2, h3, h4⟩, fun ⟨h1, h2, h3, h4⟩ => ⟨⟨⟨h1, h2⟩, h3⟩, h4⟩⟩

theorem row_Unpack (kc : SK) (cs : List Cb) (k : Nat) (hk : k ≤ 6) (hl : cs.length < 2^40) (ho : ∀ c ∈ cs, okC c) : Pure Tryz.prog 44 [aCs kc cs, .int .i64 k] (rowU cs k) := by
  have hq : 2 ^ k ≤ 2 ^ 6 := Nat.pow_le_pow_right (by omega) (by omega)
  have hb := shl_one (k := k) (by omega)
  have hat := fun i : Nat => row_At kc cs i (by omega)
  have hrl := rowC_length cs k
  have hio := cubesOk_iff (cs := cs) (k := k)
  have hpb := row_Pack_bad .any (rowC cs k) k hk hrl
  have hpo := row_Pack_ok .any (rowC cs k) k hk hrl
  have hE := slices_Equal_C .any kc (cubR k (rowC cs k) 0 0) cs (by have := (cubR_len k (rowC cs k) 0 0).1; omega) (by omega) (cubR_ok k hk _ 0 0 (rowC_ok ho k) (by omega) (by omega)) ho
  have hfull : partL (fun i => (atC cs i).getD 0) (2 ^ k) (2 ^ k) = rowC cs k := partL_full _ _
  have hR : aIs .any (rowC cs k) = .sl .any (2 ^ k) ((rowC cs k).map (.int .i64)) := by rw [aIs, hrl]
  have hv : rowU cs k = if cubesOk cs k = true then .tup [.sl .any (2 ^ k) ((rowC cs k).map (.int .i64)), .int .i64 0] else .tup [.sl .nil 0 [], .int .i64 3] := by rw [rowU, hR]
  rw [hR] at hpb hpo
  rw [hv]
  generalize cubR k (rowC cs k) 0 0 = C at *
  generalize rowC cs k = r at *
  generalize cubesOk cs k = ok at *
  generalize 2 ^ k = q at *
  refine Pure.of_read (by simp [closeds, aCs_closed, AV.closed]) (by split <;> simp [AV.closed, closeds, ints_cl]) (R := fun o H' => (ok = false ∧ o = .ret (.tup [.sl .nil 0 [], .int .i64 3])) ∨ (ok = true ∧ o = .ret (.tup [.hs 0 0 0 q 1, .int .i64 0]) ∧ H' = [.fro 0 (r.map (.int .i64))])) ?_ ?_
  · refine ACall.of_sw 59 Tryz.func44 rfl Tryz.ntmps44 (by kernel_rfl) (Nat.le_of_ble_eq_true (by kernel_rfl)) ?_; refine SW.of_vc ?_
    repeat first | refine opsStep ?_ | refine codeStep ?_ | refine drawStep ?_
    refine decB_dec (fun h => ?_) (fun h => ?_)
    · exact absurd h (by omega)
    repeat first | refine opsStep ?_ | refine codeStep ?_ | refine drawStep ?_
    refine decB_dec (fun h => ?_) (fun h => ?_)
    · repeat first | refine opsStep ?_ | refine codeStep ?_ | refine drawStep ?_
      refine finR (l := [(4, .sl .nil 0 []), (5, .int .i64 3)]) (H₁ := []) (v := .tup [.sl .nil 0 [], .int .i64 3]) ⟨(by kernel_rfl), (by kernel_rfl), trivial⟩ (by kernel_rfl) (Ent.refl _ _ _) (by kernel_rfl) (.inl ⟨?_, rfl⟩)
      rw [← Bool.not_eq_true, hio]
      rintro ⟨h1, _⟩
      rw [hb] at h; omega
    have hcl : cs.length ≤ q := by rw [hb] at h; omega
    repeat first | refine opsStep ?_ | refine codeStep ?_ | refine drawStep ?_
    refine guardE_of (by rw [hb]; exact ⟨by omega, by omega, by show (8 : Int) * (q : Int) ≤ 281474976710656; omega, by omega⟩) ?_
    repeat first | refine opsStep ?_ | refine codeStep ?_ | refine drawStep ?_
    refine loopE_of (ι := {a : Nat // a ≤ q ∧ ∀ i : Nat, i < a → (atC cs i).isSome = true})
      (fun a => (fr [(0, aCs kc cs), (7, .hs 0 0 0 q 1), (28, .int .i64 q), (29, .int .i64 a.1)], [.cells 0 ((partL (fun i => (atC cs i).getD 0) q a.1).map (.int .i64))]))
      (fun a => q - a.1) ⟨0, by omega, fun _ h => by omega⟩ (Ent.fr' ⟨(by kernel_rfl), ?_, ?_, (by kernel_rfl), trivial⟩ ?_) ?_
    · refine Eq.trans (b := .hs 0 0 0 (IntKind.wrap .i64 (1 * 2 ^ (min (k : Int).toNat (IntKind.bits .i64)))).toNat 1) (by kernel_rfl) ?_
      rw [hb]; rfl
    · refine Eq.trans (b := .int .i64 ((IntKind.wrap .i64 (1 * 2 ^ (min (k : Int).toNat (IntKind.bits .i64)))).toNat : Nat)) (by kernel_rfl) ?_
      rw [hb]; rfl
    · refine Eq.trans (b := [.cells 0 (reps [.int .i64 0] (IntKind.wrap .i64 (1 * 2 ^ (min (k : Int).toNat (IntKind.bits .i64)))).toNat)]) (by kernel_rfl) ?_
      rw [hb, reps_one, partL_zero]; simp
    rintro ⟨a, ha, hsome⟩
    repeat first | refine opsStep ?_ | refine codeStep ?_ | refine drawStep ?_
    refine decB_dec (fun g => ?_) (fun g => ?_)
    · have haq : a < q := by have := g; simp at this; omega
      have hat := hat a
      cases hx : atC cs a with
      | none =>
        rw [hx] at hat
        repeat first | refine opsStep ?_ | refine codeStep ?_ | refine drawStep ?_
        refine callP hat ?_
        repeat first | refine opsStep ?_ | refine codeStep ?_ | refine drawStep ?_
        refine finR (l := [(4, .sl .nil 0 []), (5, .int .i64 3)]) (H₁ := [.cells 0 ((partL (fun i => (atC cs i).getD 0) q a).map (.int .i64))]) (v := .tup [.sl .nil 0 [], .int .i64 3]) ⟨(by kernel_rfl), (by kernel_rfl), trivial⟩ (by kernel_rfl) (Ent.refl _ _ _) (by kernel_rfl) (.inl ⟨?_, rfl⟩)
        rw [← Bool.not_eq_true, hio]
        rintro ⟨_, h2, _⟩
        have := h2 a haq
        rw [hx] at this; simp at this
      | some x =>
        rw [hx] at hat
        repeat first | refine opsStep ?_ | refine codeStep ?_ | refine drawStep ?_
        refine callP hat ?_
        repeat first | refine opsStep ?_ | refine codeStep ?_ | refine drawStep ?_
        refine guardE_of (by simp; omega) ?_
        repeat first | refine opsStep ?_ | refine codeStep ?_ | refine drawStep ?_
        refine guardE_of ⟨rfl, by decide, by show 0 + a * 1 + 1 ≤ ((partL (fun i => (atC cs i).getD 0) q a).map (AV.int .i64)).length; simp [partL_length]; omega⟩ ?_
        repeat first | refine opsStep ?_ | refine codeStep ?_ | refine drawStep ?_
        refine ⟨⟨a + 1, by omega, fun i hi => ?_⟩, (by show q - (a + 1) < q - a; omega), Ent.fr' ⟨(by kernel_rfl), (by kernel_rfl), (by kernel_rfl), inc_slot (i := a) (by omega), trivial⟩ ?_⟩
        · by_cases e : i = a
          · subst e; rw [hx]; rfl
          · exact hsome i (by omega)
        · refine Eq.trans (b := [Blk.cells 0 (over ((partL (fun i => (atC cs i).getD 0) q a).map (.int .i64)) (0 + a * 1) [.int .i64 x])]) (by kernel_rfl) ?_
          show _ = [Blk.cells 0 ((partL (fun i => (atC cs i).getD 0) q (a + 1)).map (.int .i64))]
          rw [Nat.zero_add, Nat.mul_one, over_one (by simp [partL_length]; omega), ← partL_step, List.map_set, hx]
          rfl
    · have haq : a = q := by have := g; simp at this; omega
      subst haq
      rw [hfull]
      cases hp : r.all fun x => decide (0 ≤ x) with
      | false =>
        repeat first | refine opsStep ?_ | refine codeStep ?_ | refine drawStep ?_
        refine callZ 0 (g := 0) (cs := r.map (.int .i64)) (by kernel_rfl) (hpb hp) (.hs (b := 0) (g := 0) rfl (by simp [hrl]) .nil) ?_
        repeat first | refine opsStep ?_ | refine codeStep ?_ | refine drawStep ?_
        refine finR (l := [(4, .sl .nil 0 []), (5, .int .i64 3)]) (H₁ := [.fro 0 (r.map (.int .i64))]) (v := .tup [.sl .nil 0 [], .int .i64 3]) ⟨(by kernel_rfl), (by kernel_rfl), trivial⟩ (by kernel_rfl) (Ent.refl _ _ _) (by kernel_rfl) (.inl ⟨?_, rfl⟩)
        rw [← Bool.not_eq_true, hio]
        rintro ⟨_, _, h3, _⟩
        rw [hp] at h3; simp at h3
      | true =>
        repeat first | refine opsStep ?_ | refine codeStep ?_ | refine drawStep ?_
        refine callZ 0 (g := 0) (cs := r.map (.int .i64)) (by kernel_rfl) (hpo hp) (.hs (b := 0) (g := 0) rfl (by simp [hrl]) .nil) ?_
        repeat first | refine opsStep ?_ | refine codeStep ?_ | refine drawStep ?_
        by_cases he : C = cs
        · rw [decide_eq_true he] at hE
          refine callP hE ?_
          repeat first | refine opsStep ?_ | refine codeStep ?_ | refine drawStep ?_
          refine finR (l := [(4, .hs 0 0 0 a 1), (5, .int .i64 0)]) (H₁ := [.fro 0 (r.map (.int .i64))]) (v := .tup [.hs 0 0 0 a 1, .int .i64 0]) ⟨(by kernel_rfl), (by kernel_rfl), trivial⟩ (by kernel_rfl) (Ent.refl _ _ _) (by kernel_rfl) (.inr ⟨hio.2 ⟨hcl, hsome, hp, he⟩, rfl, rfl⟩)
        · rw [decide_eq_false he] at hE
          refine callP hE ?_
          repeat first | refine opsStep ?_ | refine codeStep ?_ | refine drawStep ?_
          refine finR (l := [(4, .sl .nil 0 []), (5, .int .i64 3)]) (H₁ := [.fro 0 (r.map (.int .i64))]) (v := .tup [.sl .nil 0 [], .int .i64 3]) ⟨(by kernel_rfl), (by kernel_rfl), trivial⟩ (by kernel_rfl) (Ent.refl _ _ _) (by kernel_rfl) (.inl ⟨?_, rfl⟩)
          rw [← Bool.not_eq_true, hio]
          rintro ⟨_, _, _, h4⟩
          exact he h4
  · rintro o H' (⟨h, rfl⟩ | ⟨h, rfl, rfl⟩)
    · exact ⟨_, rfl, by rw [h]; exact .refl _⟩
    · refine ⟨_, rfl, ?_⟩
      rw [h]
      exact .tup (.cons (Rd.frozen rfl (by simp [hrl])) (.cons (.refl _) .nil))

end Tab

/- Tables: rowOf, Check, Unpack. -/
namespace Tab
open Go Go.Proofs
set_option maxRecDepth 10000
set_option linter.unusedVariables false
set_option linter.unusedSimpArgs false
set_option linter.unusedSectionVars false

theorem rowU_ok {cs k} (h : cubesOk cs k = true) : rowU cs k = .tup [aIs .any (rowC cs k), .int .i64 0] := by rw [rowU, if_pos h]
theorem rowU_bad {cs k} (h : cubesOk cs k = false) : rowU cs k = .tup [.sl .nil 0 [], .int .i64 3] := by rw [rowU, h]; rfl
theorem row_Right (kc : SK) (cs : List Cb) (k n : Nat) (hk : k ≤ 6) (hl : cs.length < 2^40) (ho : ∀ c ∈ cs, okC c) : Pure Tryz.prog 62 [aCs kc cs, .int .i64 k, .int .i64 n] (.bool (cubesOk cs k && (rowC cs k).all fun x => decide (x < n))) := by
  have hu := row_Unpack kc cs k hk hl ho
  have hq : 2 ^ k ≤ 2 ^ 6 := Nat.pow_le_pow_right (by omega) (by omega)
  have hp : 0 < 2 ^ k := Nat.two_pow_pos _
  have hrl := rowC_length cs k
  cases hc : cubesOk cs k with
  | false =>
    rw [rowU_bad hc] at hu
    refine Pure.of_sw 23 Tryz.func62 rfl Tryz.ntmps62 (by kernel_rfl) (Nat.le_of_ble_eq_true (by kernel_rfl)) (by simp [closeds, AV.closed, aSs_closed, aIs_closed, aBs_closed, aRs_closed, aDen_closed, aCs_closed, aAut_closed]) (by simp [AV.closed, closeds, aSs_closed, aIs_closed, aBs_closed, aRs_closed, aDen_closed, aCs_closed, aAut_closed]) ?_; refine SW.of_vc ?_
    repeat first | refine opsStep ?_ | refine codeStep ?_ | refine drawStep ?_
    refine callP hu ?_
    repeat first | refine opsStep ?_ | refine codeStep ?_ | refine drawStep ?_
    exact finB (b' := false) (by kernel_rfl) (by simp)
  | true =>
    rw [rowU_ok hc] at hu
    obtain ⟨x, l, hr⟩ : ∃ x l, rowC cs k = x :: l := by
      cases e : rowC cs k with
      | nil => rw [e] at hrl; simp at hrl; omega
      | cons x l => exact ⟨x, l, rfl⟩
    rw [hr] at hu hrl ⊢
    have hm := slices_Max .any x l (by simp at hrl; omega)
    have hz : ((x :: l).all fun y => decide (y < (n : Int))) = decide (maxL x l < (n : Int)) := by
      have := maxL_ge n l x
      rw [Bool.eq_iff_iff, List.all_eq_true, decide_eq_true_eq]
      constructor
      · intro h
        have : ¬ (n : Int) ≤ maxL x l := fun k => by
          obtain ⟨y, hy, h2⟩ := this.1 k
          have := h y hy
          simp at this; omega
        omega
      · intro h y hy
        rw [decide_eq_true_eq]
        have : ¬ (n : Int) ≤ y := fun k => by have := this.2 ⟨y, hy, k⟩; omega
        omega
    rw [hz]
    generalize maxL x l = m at *
    refine Pure.of_sw 23 Tryz.func62 rfl Tryz.ntmps62 (by kernel_rfl) (Nat.le_of_ble_eq_true (by kernel_rfl)) (by simp [closeds, AV.closed, aSs_closed, aIs_closed, aBs_closed, aRs_closed, aDen_closed, aCs_closed, aAut_closed]) (by simp [AV.closed, closeds, aSs_closed, aIs_closed, aBs_closed, aRs_closed, aDen_closed, aCs_closed, aAut_closed]) ?_; refine SW.of_vc ?_
    repeat first | refine opsStep ?_ | refine codeStep ?_ | refine drawStep ?_
    refine callP hu ?_
    repeat first | refine opsStep ?_ | refine codeStep ?_ | refine drawStep ?_
    refine callP hm ?_
    repeat first | refine opsStep ?_ | refine codeStep ?_ | refine drawStep ?_
    exact finB (b' := decide (m < (n : Int))) (by kernel_rfl) (by simp)

structure AutOk (a : Aut) : Prop where
  tracks : a.tracks.length * 16 ≤ 140737488351232
  names : ∀ s ∈ a.tracks, s.length ≤ 140737488351232
  accept : a.accept.length ≤ 140737488351232
  starts : a.starts.length * 8 ≤ 140737488351232
  arena : a.arena.length * 24 ≤ 140737488351232
  cubes : ∀ c ∈ a.arena, okC c

theorem table_rowOf (a : Aut) (q : Nat) (hq : q < 2^60) (h1 : a.starts[q]? = some (a.st q : Int)) (h2 : a.starts[q + 1]? = some (a.st (q + 1) : Int)) (h3 : a.st q ≤ a.st (q + 1)) (h4 : a.st (q + 1) ≤ a.arena.length) :
    Pure Tryz.prog 45 [aAut a, .int .i64 q] (aCs a.ck.cut (a.row q)) := by
  have l1 := (List.getElem?_eq_some_iff.1 h1).1
  have l2 := (List.getElem?_eq_some_iff.1 h2).1
  have hw : IntKind.wrap .i64 ((q : Int) + 1) = ((q + 1 : Nat) : Int) := by rw [IntWalk.i64_in _ (by omega)]; simp
  have hrow : aCs a.ck.cut (a.row q) = .sl a.ck.cut ((a.st (q + 1) : Int).toNat - (a.st q : Int).toNat) (((cc3 a.arena).drop ((a.st q : Int).toNat * 3)).take (((a.st (q + 1) : Int).toNat - (a.st q : Int).toNat) * 3)) := by
    rw [Int.toNat_natCast, Int.toNat_natCast, cc3_drop, cc3_take, aCs, Aut.row]
    congr 1
    simp; omega
  generalize a.st q = x at *
  generalize a.st (q + 1) = y at *
  refine Pure.of_sw 19 Tryz.func45 rfl Tryz.ntmps45 (by kernel_rfl) (Nat.le_of_ble_eq_true (by kernel_rfl)) (by simp [closeds, AV.closed, aSs_closed, aIs_closed, aBs_closed, aRs_closed, aDen_closed, aCs_closed, aAut_closed]) (by simp [AV.closed, closeds, aSs_closed, aIs_closed, aBs_closed, aRs_closed, aDen_closed, aCs_closed, aAut_closed]) ?_; refine SW.of_vc ?_
  repeat first | refine opsStep ?_ | refine codeStep ?_ | refine drawStep ?_
  refine SW.drawn rfl (by kernel_rfl) ?_
  repeat first | refine opsStep ?_ | refine codeStep ?_ | refine drawStep ?_
  refine guardE_of (by simp; omega) ?_
  repeat first | refine opsStep ?_ | refine codeStep ?_ | refine drawStep ?_
  refine optE_of (c := .int .i64 (x : Nat)) (by simp [Value.cells, h1]) ?_
  repeat first | refine opsStep ?_ | refine codeStep ?_ | refine drawStep ?_
  refine guardE_of (by rw [hw]; simp; omega) ?_
  repeat first | refine opsStep ?_ | refine codeStep ?_ | refine drawStep ?_
  refine optE_of (c := .int .i64 (y : Nat)) (by rw [hw]; simp [Value.cells, h2]) ?_
  repeat first | refine opsStep ?_ | refine codeStep ?_ | refine drawStep ?_
  refine guardE_of (by simp; omega) ?_
  repeat first | refine opsStep ?_ | refine codeStep ?_ | refine drawStep ?_
  refine ⟨by kernel_rfl, ?_⟩
  repeat first | refine opsStep ?_ | refine codeStep ?_ | refine drawStep ?_
  exact finV (by kernel_rfl) hrow.symm

theorem frameS_bad {a : Aut} (h : frameS a = false) : unpE a = 3 := unpE_bad (by rw [checkS, h]; rfl)
theorem rows_bad {a : Aut} {q : Nat} (hq : q < a.accept.length) (h : rowOkS a q = false) : unpE a = 3 := unpE_bad (by
  rw [checkS, ← Bool.not_eq_true, Bool.and_eq_true, List.all_eq_true]
  rintro ⟨_, k⟩
  have := k q (List.mem_range.2 hq)
  rw [h] at this; simp at this)
theorem row_cubes {a : Aut} (ha : AutOk a) (q : Nat) : (a.row q).length < 2 ^ 40 ∨ (a.row q).length ≥ 2 ^ 40 := by omega
theorem row_mem {a : Aut} {q : Nat} : ∀ c ∈ a.row q, c ∈ a.arena := fun c hc => List.mem_of_mem_drop (List.mem_of_mem_take hc)

theorem table_Check (a : Aut) (ha : AutOk a) : Pure Tryz.prog 41 [aAut a] (.int .i64 (unpE a)) := by
  have h1 := ha.tracks
  have h2 := ha.accept
  have h3 := ha.starts
  have h4 := ha.arena
  have hT := table_tracks a.tk a.tracks a.accept.length (by omega) (fun s hs => by have := ha.names s hs; omega)
  have hS := slices_IsSorted_I a.sk a.starts (by omega)
  have hfb : ∀ h : frameS a = false, unpE a = 3 := frameS_bad
  have hrb : ∀ q, q < a.accept.length → rowOkS a q = false → unpE a = 3 := fun q => rows_bad
  have hgood : checkS a = true → unpE a = 0 := unpE_zero.2
  generalize unpE a = E at *
  have hw : IntKind.wrap .i64 ((a.accept.length : Int) + 1) = ((a.accept.length + 1 : Nat) : Int) := by rw [IntWalk.i64_in _ (by omega)]; simp
  refine Pure.of_sw 66 Tryz.func41 rfl Tryz.ntmps41 (by kernel_rfl) (Nat.le_of_ble_eq_true (by kernel_rfl)) (by simp [closeds, AV.closed, aSs_closed, aIs_closed, aBs_closed, aRs_closed, aDen_closed, aCs_closed, aAut_closed]) (by simp [AV.closed, closeds, aSs_closed, aIs_closed, aBs_closed, aRs_closed, aDen_closed, aCs_closed, aAut_closed]) ?_; refine SW.of_vc ?_
  repeat first | refine opsStep ?_ | refine codeStep ?_ | refine drawStep ?_
  refine SW.drawn rfl (by kernel_rfl) ?_
  repeat first | refine opsStep ?_ | refine codeStep ?_ | refine drawStep ?_
  refine .inl ⟨_, _, [], hT, RdsN_refl _, .inr rfl, none_need, ?_⟩
  cases ht : tracksS a.tracks a.accept.length with
  | false =>
    repeat first | refine opsStep ?_ | refine codeStep ?_ | refine drawStep ?_
    refine ⟨by kernel_rfl, ?_⟩
    repeat first | refine opsStep ?_ | refine codeStep ?_ | refine drawStep ?_
    exact finV (v' := .int .i64 3) (by kernel_rfl) (by rw [hfb (by rw [frameS, ht]; rfl)])
  | true =>
    have k6 := (tracksS_parts ht).1
    have kp := (tracksS_parts ht).2.2.1
    have k256 := (tracksS_parts ht).2.2.2
    repeat first | refine opsStep ?_ | refine codeStep ?_ | refine drawStep ?_
    refine decB_dec (fun hl => ?_) (fun hl => ?_)
    · repeat first | refine opsStep ?_ | refine codeStep ?_ | refine drawStep ?_
      refine ⟨by kernel_rfl, ?_⟩
      repeat first | refine opsStep ?_ | refine codeStep ?_ | refine drawStep ?_
      exact finV (v' := .int .i64 3) (by kernel_rfl) (by rw [hfb (by rw [frameS, decide_eq_false (show ¬ a.starts.length = a.accept.length + 1 by rw [hw] at hl; omega)]; simp)])
    have hl : a.starts.length = a.accept.length + 1 := by rw [hw] at hl; omega
    obtain ⟨z0, hz0⟩ : ∃ z, a.starts[0]? = some z := ⟨_, List.getElem?_eq_getElem (show 0 < a.starts.length by omega)⟩
    obtain ⟨zn, hzn⟩ : ∃ z, a.starts[a.accept.length]? = some z := ⟨_, List.getElem?_eq_getElem (show a.accept.length < a.starts.length by omega)⟩
    have g0 : a.starts.getD 0 0 = z0 := by rw [List.getD_eq_getElem?_getD, hz0]; rfl
    have gn : a.starts.getD a.accept.length 0 = zn := by rw [List.getD_eq_getElem?_getD, hzn]; rfl
    repeat first | refine opsStep ?_ | refine codeStep ?_ | refine drawStep ?_
    refine guardE_of (by simp; omega) ?_
    repeat first | refine opsStep ?_ | refine codeStep ?_ | refine drawStep ?_
    refine optE_of (c := .int .i64 z0) (by simp [Value.cells, hz0]) ?_
    repeat first | refine opsStep ?_ | refine codeStep ?_ | refine drawStep ?_
    refine decB_dec (fun h0 => ?_) (fun h0 => ?_)
    · repeat first | refine opsStep ?_ | refine codeStep ?_ | refine drawStep ?_
      refine ⟨by kernel_rfl, ?_⟩
      repeat first | refine opsStep ?_ | refine codeStep ?_ | refine drawStep ?_
      exact finV (v' := .int .i64 3) (by kernel_rfl) (by rw [hfb (by rw [frameS, g0, decide_eq_false h0]; simp)])
    have h0 : z0 = 0 := Decidable.of_not_not h0
    repeat first | refine opsStep ?_ | refine codeStep ?_ | refine drawStep ?_
    refine guardE_of (by simp; omega) ?_
    repeat first | refine opsStep ?_ | refine codeStep ?_ | refine drawStep ?_
    refine optE_of (c := .int .i64 zn) (by simp [Value.cells, hzn]) ?_
    repeat first | refine opsStep ?_ | refine codeStep ?_ | refine drawStep ?_
    refine decB_dec (fun hn => ?_) (fun hn => ?_)
    · repeat first | refine opsStep ?_ | refine codeStep ?_ | refine drawStep ?_
      refine ⟨by kernel_rfl, ?_⟩
      repeat first | refine opsStep ?_ | refine codeStep ?_ | refine drawStep ?_
      exact finV (v' := .int .i64 3) (by kernel_rfl) (by rw [hfb (by rw [frameS, gn, decide_eq_false hn]; simp)])
    have hn : zn = a.arena.length := Decidable.of_not_not hn
    repeat first | refine opsStep ?_ | refine codeStep ?_ | refine drawStep ?_
    refine .inl ⟨_, _, [], hS, RdsN_refl _, .inr rfl, none_need, ?_⟩
    cases hs : sortedI a.starts with
    | false =>
      repeat first | refine opsStep ?_ | refine codeStep ?_ | refine drawStep ?_
      refine ⟨by kernel_rfl, ?_⟩
      repeat first | refine opsStep ?_ | refine codeStep ?_ | refine drawStep ?_
      exact finV (v' := .int .i64 3) (by kernel_rfl) (by rw [hfb (by rw [frameS, hs]; simp)])
    | true =>
      have hf : FrameOk a := ⟨ht, hl, by rw [g0, h0], by rw [gn, hn], hs⟩
      repeat first | refine opsStep ?_ | refine codeStep ?_ | refine drawStep ?_
      refine ⟨by kernel_rfl, ?_⟩
      repeat first | refine opsStep ?_ | refine codeStep ?_ | refine drawStep ?_
      refine loopE_of (ι := {q : Nat // q ≤ a.accept.length ∧ ∀ i, i < q → rowOkS a i = true})
        (fun q => (fr [(1, .ref 0 0 0), (3, .int .i64 a.accept.length), (46, .int .i64 a.accept.length), (47, .int .i64 q.1)], [.cells 0 a.cells])) (fun q => a.accept.length - q.1) ⟨0, by omega, fun _ h => by omega⟩ (Ent.fr' ⟨(by kernel_rfl), (by kernel_rfl), (by kernel_rfl), (by kernel_rfl), trivial⟩ (by kernel_rfl)) ?_
      rintro ⟨q, hq, hpre⟩
      repeat first | refine opsStep ?_ | refine codeStep ?_ | refine drawStep ?_
      refine decB_dec (fun h => ?_) (fun h => ?_)
      · have hqa : q < a.accept.length := by have := h; simp at this; omega
        obtain ⟨p1, p2⟩ := hf.get (q := q) (by omega)
        obtain ⟨p3, p4⟩ := hf.get (q := q + 1) (by omega)
        have hro := table_rowOf a q (by omega) p1 p3 (hf.le hqa) p4
        have hrl : (a.row q).length < 2 ^ 60 := by
          have : (a.row q).length ≤ a.arena.length := by simp [Aut.row]; omega
          omega
        have hRt := fun h => row_Right a.ck.cut (a.row q) a.tracks.length a.accept.length (by omega) h fun c hc => ha.cubes c (row_mem c hc)
        have hrow : rowOkS a q = (decide ((a.row q).length ≤ 32) && (cubesOk (a.row q) a.tracks.length && (rowC (a.row q) a.tracks.length).all fun x => decide (x < a.accept.length))) := by rw [rowOkS, Bool.and_assoc]
        have hrb := hrb q hqa
        generalize a.row q = cs at *
        repeat first | refine opsStep ?_ | refine codeStep ?_ | refine drawStep ?_
        refine callP hro ?_
        repeat first | refine opsStep ?_ | refine codeStep ?_ | refine drawStep ?_
        refine decB_dec (fun h32 => ?_) (fun h32 => ?_)
        · repeat first | refine opsStep ?_ | refine codeStep ?_ | refine drawStep ?_
          exact finV (v' := .int .i64 3) (by kernel_rfl) (by rw [hrb (by rw [hrow, decide_eq_false (show ¬ cs.length ≤ 32 by omega)]; rfl)])
        have h32 : cs.length ≤ 32 := by omega
        have hRt := hRt (by omega)
        rw [decide_eq_true h32, Bool.true_and] at hrow
        rw [← hrow] at hRt
        cases hb : rowOkS a q with
        | false =>
          rw [hb] at hRt
          repeat first | refine opsStep ?_ | refine codeStep ?_ | refine drawStep ?_
          refine callP hRt ?_
          repeat first | refine opsStep ?_ | refine codeStep ?_ | refine drawStep ?_
          exact finV (v' := .int .i64 3) (by kernel_rfl) (by rw [hrb hb])
        | true =>
          rw [hb] at hRt
          repeat first | refine opsStep ?_ | refine codeStep ?_ | refine drawStep ?_
          refine callP hRt ?_
          repeat first | refine opsStep ?_ | refine codeStep ?_ | refine drawStep ?_
          refine ⟨⟨q + 1, by omega, fun i hi => ?_⟩, (by show a.accept.length - (q + 1) < a.accept.length - q; omega), Ent.fr' ⟨(by kernel_rfl), (by kernel_rfl), (by kernel_rfl), inc_slot (i := q) (by omega), trivial⟩ (by kernel_rfl)⟩
          by_cases e : i = q
          · subst e; exact hb
          · exact hpre i (by omega)
      · have hqa : q = a.accept.length := by have := h; simp at this; omega
        repeat first | refine opsStep ?_ | refine codeStep ?_ | refine drawStep ?_
        exact finV (v' := .int .i64 0) (by kernel_rfl) (by
          rw [hgood (by
            rw [checkS, frameS_iff.2 hf, Bool.true_and, List.all_eq_true]
            intro i hi
            exact hpre i (by have := List.mem_range.1 hi; omega))])

end Tab

/- tabardref11: half, same, Cubes, Tracks, Row, Pack. -/
namespace Tab
open Go Go.Proofs
set_option maxRecDepth 10000
set_option linter.unusedVariables false
set_option linter.unusedSimpArgs false
set_option linter.unusedSectionVars false

theorem r11_half (k : SK) (r : List Int) (h d : Nat) (hr : r.length = 2 * h) (hl : h < 2^40) (hd : d ≤ 1) : Pure Tryz.prog 73 [aIs k r, .int .i64 d] (aIs .any ((r.drop (d * h)).take h)) := by
  have hw : IntKind.wrap .i64 ((r.length : Int).tdiv 2) = (h : Int) := by
    rw [show (r.length : Int) = 2 * (h : Int) by omega, Int.mul_tdiv_cancel_left _ (by decide), IntWalk.i64_in _ (by omega)]
  have hdh : d * h ≤ h := by rcases (show d = 0 ∨ d = 1 by omega) with rfl | rfl <;> omega
  have hmul : IntKind.wrap .i64 ((d : Int) * (h : Int)) = ((d * h : Nat) : Int) := by rw [IntWalk.i64_in _ (by rw [← Int.natCast_mul]; omega)]; simp
  have hlt : ∀ i, i < h → d * h + i < r.length := fun i hi => by omega
  generalize d * h = o at *
  refine Pure.of_sw 28 Tryz.func73 rfl Tryz.ntmps73 (by kernel_rfl) (Nat.le_of_ble_eq_true (by kernel_rfl)) (by simp [closeds, AV.closed, aSs_closed, aIs_closed, aBs_closed, aRs_closed, aDen_closed]) (by simp [AV.closed, closeds, aSs_closed, aIs_closed, aBs_closed, aRs_closed, aDen_closed]) ?_; refine SW.of_vc ?_
  repeat first | refine opsStep ?_ | refine codeStep ?_ | refine drawStep ?_
  refine loopE_of (ι := {i : Nat // i ≤ h}) (fun i => (fr [(0, aIs k r), (1, .int .i64 d), (5, .hs 0 i.1 0 i.1 1), (6, .int .i64 h), (7, .int .i64 i.1)], [.cells i.1 (((r.drop o).take i.1).map (.int .i64))])) (fun i => h - i.1) ⟨0, by omega⟩
    (((Ent.fr' (l := [(0, aIs k r), (1, .int .i64 d), (5, .sl .nil 0 []), (6, .int .i64 h), (7, .int .i64 (0 : Nat))]) (H' := []) ⟨(by kernel_rfl), (by kernel_rfl), (by kernel_rfl), congrArg (AV.int .i64) hw, (by kernel_rfl), trivial⟩ (by kernel_rfl)).trans (Ent.nil 5 1 rfl)).trans (Ent.fr' ⟨(by kernel_rfl), (by kernel_rfl), (by kernel_rfl), (by kernel_rfl), (by kernel_rfl), trivial⟩ (by kernel_rfl))) ?_
  rintro ⟨i, hi⟩
  repeat first | refine opsStep ?_ | refine codeStep ?_ | refine drawStep ?_
  refine decB_dec (fun g => ?_) (fun g => ?_)
  · have hih : i < h := by have := g; simp at this; omega
    have hio := hlt i hih
    have hadd : IntKind.wrap .i64 (IntKind.wrap .i64 ((d : Int) * (h : Int)) + (i : Int)) = ((o + i : Nat) : Int) := by rw [hmul, IntWalk.i64_in _ (by omega)]; simp
    have hsn : (r.drop o).take (i + 1) = (r.drop o).take i ++ [r[o + i]] := by
      rw [List.take_add_one, List.getElem?_drop, List.getElem?_eq_getElem hio]; rfl
    have hln : ((r.drop o).take i).length = i := by simp; omega
    generalize (r.drop o).take i = l at *
    repeat first | refine opsStep ?_ | refine codeStep ?_ | refine drawStep ?_
    refine guardE_of (by rw [hadd]; simp; omega) ?_
    repeat first | refine opsStep ?_ | refine codeStep ?_ | refine drawStep ?_
    refine optE_of (c := .int .i64 r[o + i]) (by rw [hadd, Int.toNat_natCast]; simp [Value.cells, hio]) ?_
    repeat first | refine opsStep ?_ | refine codeStep ?_ | refine drawStep ?_
    refine guardE_of ⟨rfl, by simp [hln]⟩ ?_
    repeat first | refine opsStep ?_ | refine codeStep ?_ | refine drawStep ?_
    refine guardE_of rfl ?_
    repeat first | refine opsStep ?_ | refine codeStep ?_ | refine drawStep ?_
    refine guardE_of ⟨by omega, by show (i + 1) * 8 ≤ 140737488355328; omega⟩ ?_
    repeat first | refine opsStep ?_ | refine codeStep ?_ | refine drawStep ?_
    refine ⟨⟨i + 1, by omega⟩, (by show h - (i + 1) < h - i; omega), Ent.frD (X := [.cells 0 [.int .i64 r[o + i]]]) ⟨(by kernel_rfl), (by kernel_rfl), (by kernel_rfl), (by kernel_rfl), inc_slot (i := i) (by omega), trivial⟩ ?_ (Nat.le_of_ble_eq_true (by kernel_rfl)) (by first | (simp [frBel, blksBel, Blk.bel, AV.bel, bels, bels_append, bels_map, aSs_bel, aIs_bel, aBs_bel, aRs_bel, aDen_bel, cells_bel]; done) | (simp only [List.drop_zero, ← List.map_take, ← List.map_drop, List.map_map, frBel, blksBel, Blk.bel, AV.bel, bels, bels_append, bels_map, aSs_bel, aIs_bel, aBs_bel, aRs_bel, aDen_bel, cells_bel]; simp [AV.bel, aSs_bel, aIs_bel, aBs_bel, aRs_bel, aDen_bel, cells_bel])) ?_⟩
    · refine Eq.trans (b := [Blk.cells (i + 1) (((l.map (AV.int .i64)).drop 0).take (i * 1) ++ [.int .i64 r[o + i]]), .cells 0 [.int .i64 r[o + i]]]) (by kernel_rfl) ?_
      show _ = [Blk.cells (i + 1) (((r.drop o).take (i + 1)).map (.int .i64)), .cells 0 [.int .i64 r[o + i]]]
      rw [hsn, List.drop_zero, List.take_of_length_le (by simp [hln]), List.map_append]
      rfl
    · exact ⟨bels_map.2 fun x _ => by simp [AV.bel], trivial⟩
  · have hih : i = h := by have := g; simp at this; omega
    subst hih
    have hln : ((r.drop o).take i).length = i := by
      have h1 : o + i ≤ r.length := by
        by_cases h0 : i = 0
        · subst h0; omega
        · have := hlt (i - 1) (by omega); omega
      simp; omega
    have er : aIs .any ((r.drop o).take i) = .sl .any i (((r.drop o).take i).map (.int .i64)) := by rw [aIs, hln]
    rw [er]
    repeat first | refine opsStep ?_ | refine codeStep ?_ | refine drawStep ?_
    exact finFrz 4 (b := 0) (g := i) (es := 1) (by kernel_rfl) (by kernel_rfl) (by rw [List.length_map, hln, Nat.mul_one]) (by kernel_rfl)

theorem r11_same (k k' : SK) (a b : List Int) (hl : a.length = b.length) (ha : a.length < 2^60) : Pure Tryz.prog 74 [aIs k a, aIs k' b] (.bool (decide (a = b))) := by
  refine Pure.of_sw 21 Tryz.func74 rfl Tryz.ntmps74 (by kernel_rfl) (Nat.le_of_ble_eq_true (by kernel_rfl)) (by simp [closeds, AV.closed, aSs_closed, aIs_closed, aBs_closed, aRs_closed, aDen_closed]) (by simp [AV.closed, closeds, aSs_closed, aIs_closed, aBs_closed, aRs_closed, aDen_closed]) ?_; refine SW.of_vc ?_
  repeat first | refine opsStep ?_ | refine codeStep ?_ | refine drawStep ?_
  refine loopE_of (ι := {i : Nat // i ≤ a.length ∧ a.take i = b.take i}) (fun i => (fr [(0, aIs k a), (1, aIs k' b), (5, .int .i64 i.1)], [])) (fun i => a.length - i.1) ⟨0, by omega, by simp⟩ (Ent.fr' ⟨(by kernel_rfl), (by kernel_rfl), (by kernel_rfl), trivial⟩ (by kernel_rfl)) ?_
  rintro ⟨i, hi, hpre⟩
  repeat first | refine opsStep ?_ | refine codeStep ?_ | refine drawStep ?_
  refine decB_split (fun h => ?_) (fun h => ?_)
  · have hia : i < a.length := by simpa using h
    repeat first | refine opsStep ?_ | refine codeStep ?_ | refine drawStep ?_
    refine SW.drawn rfl (by kernel_rfl) ?_
    repeat first | refine opsStep ?_ | refine codeStep ?_ | refine drawStep ?_
    refine guardE_of (by simp; omega) ?_
    repeat first | refine opsStep ?_ | refine codeStep ?_ | refine drawStep ?_
    refine optE_of (c := .int .i64 a[i]) (by simp [Value.cells, hia]) ?_
    repeat first | refine opsStep ?_ | refine codeStep ?_ | refine drawStep ?_
    refine guardE_of (by simp; omega) ?_
    repeat first | refine opsStep ?_ | refine codeStep ?_ | refine drawStep ?_
    refine optE_of (c := .int .i64 b[i]) (by simp [Value.cells, hl ▸ hia]) ?_
    repeat first | refine opsStep ?_ | refine codeStep ?_ | refine drawStep ?_
    refine ⟨by kernel_rfl, ?_⟩
    repeat first | refine opsStep ?_ | refine codeStep ?_ | refine drawStep ?_
    refine decB_split (fun h => ?_) (fun h => ?_)
    · repeat first | refine opsStep ?_ | refine codeStep ?_ | refine drawStep ?_
      exact finB rfl (by simp at h; simp; rintro rfl; exact h rfl)
    · repeat first | refine opsStep ?_ | refine codeStep ?_ | refine drawStep ?_
      refine ⟨⟨i + 1, by omega, ?_⟩, (by show a.length - (i + 1) < a.length - i; omega), Ent.fr' ⟨(by kernel_rfl), (by kernel_rfl), inc_slot (i := i) (by omega), trivial⟩ (by kernel_rfl)⟩
      rw [List.take_succ_eq_append_getElem hia, List.take_succ_eq_append_getElem (hl ▸ hia), hpre]
      simp at h; rw [h]
  · repeat first | refine opsStep ?_ | refine codeStep ?_ | refine drawStep ?_
    have : i = a.length := by simp at h; omega
    exact finB rfl (by subst this; rw [List.take_length, hl, List.take_length] at hpre; simpa using hpre)

theorem add_pow {m k : Nat} (hm : m ≤ 1000) (hk : k ≤ 6) : AV.int .i64 (IntKind.wrap .i64 ((m : Int) + ((2 ^ k : Nat) : Int))) = AV.int .i64 ((m + 2 ^ k : Nat) : Int) := by
  have hb : 2 ^ k ≤ 2 ^ 6 := Nat.pow_le_pow_right (by omega) hk
  generalize 2 ^ k = q at *
  rw [IntWalk.i64_in _ (by omega)]; simp

theorem r11_Cubes : ∀ (K : Nat), K ≤ 6 → ∀ (kk : SK) (r : List Int) (m b : Nat), r.length = 2 ^ K → m + 64 * K ≤ 1000 → b + 64 * K ≤ 1000 →
    PureNew Tryz.prog 54 [aIs kk r, .int .i64 m, .int .i64 b] (cubR K r m b).length 3 (cc3 (cubR K r m b))
  | 0, _, kk, r, m, b, hr, _, _ => by
    obtain ⟨x, rfl⟩ : ∃ x, r = [x] := by
      match r, hr with
      | [x], _ => exact ⟨x, rfl⟩
    refine ⟨by simp [closeds, aIs_closed, AV.closed], cc3_closed _, ?_⟩
    refine ACall.of_sw 50 Tryz.func54 rfl Tryz.ntmps54 (by kernel_rfl) (Nat.le_of_ble_eq_true (by kernel_rfl)) ?_; refine SW.of_vc ?_
    repeat first | refine opsStep ?_ | refine codeStep ?_ | refine drawStep ?_
    exact finR (l := [(6, .hs 0 0 0 1 3)]) (H₁ := [.cells 0 [.int .i64 (m : Int), .int .i64 (b : Int), .int .i64 x]]) (v := .hs 0 0 0 1 3) ⟨(by kernel_rfl), trivial⟩ (by kernel_rfl) (Ent.refl _ _ _) (by kernel_rfl) ⟨0, rfl, rfl⟩
  | K + 1, hK, kk, r, m, b, hr, hm, hb => by
    have hp : 2 ^ (K + 1) = 2 ^ K + 2 ^ K := by rw [Nat.pow_succ]; omega
    have hq : 2 ^ K ≤ 2 ^ 6 := Nat.pow_le_pow_right (by omega) (by omega)
    have hpos : 0 < 2 ^ K := Nat.two_pow_pos _
    have om := add_pow (m := m) (k := K) (by omega) (by omega)
    have ob := add_pow (m := b) (k := K) (by omega) (by omega)
    have hl0 : (r.take (2 ^ K)).length = 2 ^ K := by simp; omega
    have hl1 : (r.drop (2 ^ K)).length = 2 ^ K := by simp; omega
    have i0 := r11_Cubes K (by omega) .any (r.take (2 ^ K)) m b hl0 (by omega) (by omega)
    have i1 := r11_Cubes K (by omega) .any (r.take (2 ^ K)) (m + 2 ^ K) b hl0 (by omega) (by omega)
    have i2 := r11_Cubes K (by omega) .any (r.drop (2 ^ K)) (m + 2 ^ K) (b + 2 ^ K) hl1 (by omega) (by omega)
    have c1 := cubR_len K (r.take (2 ^ K)) (m + 2 ^ K) b
    have c2 := cubR_len K (r.drop (2 ^ K)) (m + 2 ^ K) (b + 2 ^ K)
    rw [← om] at i1 i2
    rw [← ob] at i2
    have hh0 := r11_half kk r (2 ^ K) 0 (by omega) (by omega) (by omega)
    have hh1 := r11_half kk r (2 ^ K) 1 (by omega) (by omega) (by omega)
    rw [Nat.zero_mul, List.drop_zero] at hh0
    rw [Nat.one_mul, List.take_of_length_le (by omega)] at hh1
    have hEq := r11_same .any .any (r.take (2 ^ K)) (r.drop (2 ^ K)) (by omega) (by omega)
    have hcub : cubR (K + 1) r m b = if r.take (2 ^ K) = r.drop (2 ^ K) then cubR K (r.take (2 ^ K)) m b else cubR K (r.take (2 ^ K)) (m + 2 ^ K) b ++ cubR K (r.drop (2 ^ K)) (m + 2 ^ K) (b + 2 ^ K) := rfl
    have hc1 := cc3_length (cubR K (r.take (2 ^ K)) (m + 2 ^ K) b)
    have hc2 := cc3_length (cubR K (r.drop (2 ^ K)) (m + 2 ^ K) (b + 2 ^ K))
    generalize cubR (K + 1) r m b = C at *
    generalize cubR K (r.take (2 ^ K)) (m + 2 ^ K) b = C1 at *
    generalize cubR K (r.drop (2 ^ K)) (m + 2 ^ K) (b + 2 ^ K) = C2 at *
    generalize cubR K (r.take (2 ^ K)) m b = C0 at *
    generalize r.take (2 ^ K) = lo at *
    generalize r.drop (2 ^ K) = hi at *
    generalize 2 ^ K = h at *
    refine ⟨by simp [closeds, aIs_closed, AV.closed], cc3_closed _, ?_⟩
    refine ACall.of_sw 50 Tryz.func54 rfl Tryz.ntmps54 (by kernel_rfl) (Nat.le_of_ble_eq_true (by kernel_rfl)) ?_; refine SW.of_vc ?_
    repeat first | refine opsStep ?_ | refine codeStep ?_ | refine drawStep ?_
    refine decB_dec (fun h1 => ?_) (fun h1 => ?_)
    · exact absurd h1 (by omega)
    repeat first | refine opsStep ?_ | refine codeStep ?_ | refine drawStep ?_
    refine callP hh0 ?_
    repeat first | refine opsStep ?_ | refine codeStep ?_ | refine drawStep ?_
    refine callP hh1 ?_
    repeat first | refine opsStep ?_ | refine codeStep ?_ | refine drawStep ?_
    refine callP hEq ?_
    repeat first | refine opsStep ?_ | refine codeStep ?_ | refine drawStep ?_
    refine decB_dec (fun heq => ?_) (fun heq => ?_)
    · repeat first | refine opsStep ?_ | refine codeStep ?_ | refine drawStep ?_
      refine callN i0 ?_
      repeat first | refine opsStep ?_ | refine codeStep ?_ | refine drawStep ?_
      refine finR (l := [(6, .hs 0 0 0 C0.length 3)]) (H₁ := [.cells 0 (cc3 C0)]) (v := .hs 0 0 0 C0.length 3) ⟨(by kernel_rfl), trivial⟩ (by kernel_rfl) (Ent.refl _ _ _) (by kernel_rfl) ?_
      rw [hcub, if_pos heq]
      exact ⟨0, rfl, rfl⟩
    · iterate 3 refine codeStep ?_
      iterate 4 refine opsStep ?_
      refine VCode.ent (Ent.fr' (l := [(1, .int .i64 m), (2, .int .i64 b), (7, aIs .any lo), (8, aIs .any hi), (9, .int .i64 h)]) (H' := []) ⟨(by kernel_rfl), (by kernel_rfl), (by kernel_rfl), (by kernel_rfl), Eq.trans (b := .int .i64 (lo.length : Nat)) (by kernel_rfl) (by rw [hl0]), trivial⟩ (by kernel_rfl)) ?_
      repeat first | refine opsStep ?_ | refine codeStep ?_ | refine drawStep ?_
      refine callN i1 ?_
      repeat first | refine opsStep ?_ | refine codeStep ?_ | refine drawStep ?_
      refine callN i2 ?_
      repeat first | refine opsStep ?_ | refine codeStep ?_ | refine drawStep ?_
      refine guardE_of ⟨rfl, by show 0 + C1.length * 3 ≤ (cc3 C1).length; omega⟩ ?_
      repeat first | refine opsStep ?_ | refine codeStep ?_ | refine drawStep ?_
      refine guardE_of rfl ?_
      repeat first | refine opsStep ?_ | refine codeStep ?_ | refine drawStep ?_
      refine guardE_of ⟨rfl, by show 0 + C2.length * 3 ≤ (cc3 C2).length; omega⟩ ?_
      repeat first | refine opsStep ?_ | refine codeStep ?_ | refine drawStep ?_
      refine guardE_of ⟨by omega, by show (C1.length + C2.length) * 24 ≤ 140737488355328; omega⟩ ?_
      repeat first | refine opsStep ?_ | refine codeStep ?_ | refine drawStep ?_
      refine finR (l := [(6, .hs 0 1 0 (C1.length + C2.length) 3)]) (H₁ := [.cells 1 (cc3 C1 ++ cc3 C2)] ++ [.cells 0 (cc3 C2)]) (v := .hs 0 1 0 (C1.length + C2.length) 3) ⟨(by kernel_rfl), trivial⟩ (Eq.trans (b := [.cells 1 (((cc3 C1).drop 0).take (C1.length * 3) ++ ((cc3 C2).drop 0).take (C2.length * 3)), .cells 0 (cc3 C2)]) (by kernel_rfl) ?_) (Ent.drop (Nat.le_of_ble_eq_true (by kernel_rfl)) (by first | (simp [frBel, blksBel, Blk.bel, AV.bel, bels, bels_append, bels_map, aSs_bel, aIs_bel, aBs_bel, aRs_bel, aDen_bel, cells_bel]; done) | (simp only [List.drop_zero, ← List.map_take, ← List.map_drop, List.map_map, frBel, blksBel, Blk.bel, AV.bel, bels, bels_append, bels_map, aSs_bel, aIs_bel, aBs_bel, aRs_bel, aDen_bel, cells_bel]; simp [AV.bel, aSs_bel, aIs_bel, aBs_bel, aRs_bel, aDen_bel, cells_bel])) ?_) (by kernel_rfl) ?_
      · rw [List.drop_zero, List.drop_zero, List.take_of_length_le (by omega), List.take_of_length_le (by omega)]; rfl
      · exact ⟨bels_append.2 ⟨closeds_bel _ (cc3_closed _), closeds_bel _ (cc3_closed _)⟩, trivial⟩
      · rw [hcub, if_neg heq, List.length_append, cc3_append]
        exact ⟨1, rfl, rfl⟩

end Tab

/- A machine's run over a word: plain, and the reference's. -/
namespace Tab
open Go Go.Proofs
set_option maxRecDepth 10000
set_option linter.unusedVariables false
set_option linter.unusedSimpArgs false
set_option linter.unusedSectionVars false

def stepN (rows : List (List Int)) (q a : Nat) : Nat := ((rows.getD q []).getD a 0).toNat
def runN (rows : List (List Int)) (q : Nat) (w : List Nat) : Nat := w.foldl (stepN rows) q

theorem stepN_ok {d : Den} (hr : rightS d = true) {q a : Nat} (hq : q < d.accept.length) (ha : a < 2 ^ d.tracks.length) :
    ∃ (h1 : q < d.next.length) (h2 : a < (d.next[q]).2.length), (d.next[q]).2[a] = (stepN d.rows q a : Int) ∧ stepN d.rows q a < d.accept.length := by
  obtain ⟨_, hn, hrows⟩ := rightS_parts hr
  have h1 : q < d.next.length := by omega
  obtain ⟨l1, l2⟩ := rowOk_parts (hrows _ (List.getElem_mem h1))
  have h2 : a < (d.next[q]).2.length := by rw [l1]; exact ha
  have h3 := l2 _ (List.getElem_mem h2)
  have e : stepN d.rows q a = ((d.next[q]).2[a]).toNat := by
    simp [stepN, Den.rows, List.getD_eq_getElem?_getD, h1, h2]
  refine ⟨h1, h2, ?_, ?_⟩
  · rw [e]; omega
  · rw [e]; omega
theorem runN_ok {d : Den} (hr : rightS d = true) : ∀ (w : List Nat) {q : Nat}, q < d.accept.length → (∀ a ∈ w, a < 2 ^ d.tracks.length) → runN d.rows q w < d.accept.length
  | [], _, hq, _ => hq
  | a :: w, q, hq, h => by
    obtain ⟨_, _, _, h3⟩ := stepN_ok hr hq (h a (by simp))
    exact runN_ok hr w h3 fun x hx => h x (by simp [hx])

def takesB (d : Den) (w : List Nat) : Bool := d.accept.getD (runN d.rows 0 w) false
theorem right_pos {d : Den} (hr : rightS d = true) : 0 < d.accept.length := by
  obtain ⟨h, _, _⟩ := rightS_parts hr
  simp only [tracksS, Bool.and_eq_true, decide_eq_true_eq] at h
  omega
end Tab

/- tabardref11: Row, Pack; tabardref12.Pack. -/
namespace Tab
open Go Go.Proofs
set_option maxRecDepth 10000
set_option linter.unusedVariables false
set_option linter.unusedSimpArgs false
set_option linter.unusedSectionVars false

theorem r11_Tracks (K : Nat) (hK : K ≤ 6) : Pure Tryz.prog 102 [.int .i64 (2 ^ K : Nat)] (.int .i64 K) := by
  have hq : 2 ^ K ≤ 2 ^ 6 := Nat.pow_le_pow_right (by omega) hK
  have hne : ∀ k, k < K → 2 ^ k < 2 ^ K := fun k h => Nat.pow_lt_pow_right (by omega) h
  refine Pure.of_sw 15 Tryz.func102 rfl Tryz.ntmps102 (by kernel_rfl) (Nat.le_of_ble_eq_true (by kernel_rfl)) (by simp [closeds, AV.closed, aSs_closed, aIs_closed, aBs_closed, aRs_closed, aDen_closed]) (by simp [AV.closed, closeds, aSs_closed, aIs_closed, aBs_closed, aRs_closed, aDen_closed]) ?_; refine SW.of_vc ?_
  repeat first | refine opsStep ?_ | refine codeStep ?_ | refine drawStep ?_
  refine loopE_of (ι := {k : Nat // k ≤ K}) (fun k => (fr [(0, .int .i64 (2 ^ K : Nat)), (3, .int .i64 (2 ^ k.1 : Nat)), (4, .int .i64 k.1)], [])) (fun k => K - k.1) ⟨0, by omega⟩ (Ent.fr' ⟨(by kernel_rfl), (by kernel_rfl), (by kernel_rfl), trivial⟩ (by kernel_rfl)) ?_
  rintro ⟨k, hk⟩
  repeat first | refine opsStep ?_ | refine codeStep ?_ | refine drawStep ?_
  refine decB_dec (fun h => ?_) (fun h => ?_)
  · repeat first | refine opsStep ?_ | refine codeStep ?_ | refine drawStep ?_
    by_cases e : k = K
    · subst e
      refine decB_dec (fun h2 => ?_) (fun h2 => ?_)
      · repeat first | refine opsStep ?_ | refine codeStep ?_ | refine drawStep ?_
        exact finE_of (by kernel_rfl)
      · exact absurd rfl h2
    · have hlt := hne k (by omega)
      refine decB_dec (fun h2 => ?_) (fun h2 => ?_)
      · exact absurd (show 2 ^ k = 2 ^ K from Int.ofNat_inj.1 h2) (by omega)
      · repeat first | refine opsStep ?_ | refine codeStep ?_ | refine drawStep ?_
        refine ⟨⟨k + 1, by omega⟩, (by show K - (k + 1) < K - k; omega), Ent.fr' ⟨(by kernel_rfl), ?_, inc_slot (i := k) (by omega), trivial⟩ (by kernel_rfl)⟩
        show AV.int .i64 (IntKind.wrap .i64 (((2 ^ k : Nat) : Int) * 2)) = AV.int .i64 ((2 ^ (k + 1) : Nat) : Int)
        have e2 : 2 ^ (k + 1) = 2 ^ k * 2 := Nat.pow_succ 2 k
        rw [e2]
        generalize 2 ^ k = x at *
        rw [IntWalk.i64_in _ (by omega)]; simp
  · exact absurd (show ¬ (k : Int) ≤ 6 from h) (by omega)

theorem r11_Row (k : SK) (r : List Int) (K : Nat) (hK : K ≤ 6) (hl : r.length = 2 ^ K) (hp : ∀ x ∈ r, 0 ≤ x) : Pure Tryz.prog 79 [aIs k r] (.bool true) := by
  have hT := r11_Tracks K hK
  rw [← hl] at hT
  have hq : 2 ^ K ≤ 2 ^ 6 := Nat.pow_le_pow_right (by omega) hK
  refine Pure.of_sw 19 Tryz.func79 rfl Tryz.ntmps79 (by kernel_rfl) (Nat.le_of_ble_eq_true (by kernel_rfl)) (by simp [closeds, AV.closed, aSs_closed, aIs_closed, aBs_closed, aRs_closed, aDen_closed]) (by simp [AV.closed, closeds, aSs_closed, aIs_closed, aBs_closed, aRs_closed, aDen_closed]) ?_; refine SW.of_vc ?_
  repeat first | refine opsStep ?_ | refine codeStep ?_ | refine drawStep ?_
  refine callP hT ?_
  repeat first | refine opsStep ?_ | refine codeStep ?_ | refine drawStep ?_
  refine loopE_of (ι := {i : Nat // i ≤ r.length}) (fun i => (fr [(0, aIs k r), (3, .int .i64 i.1)], [])) (fun i => r.length - i.1) ⟨0, by omega⟩ (Ent.fr' ⟨(by kernel_rfl), (by kernel_rfl), trivial⟩ (by kernel_rfl)) ?_
  rintro ⟨i, hi⟩
  repeat first | refine opsStep ?_ | refine codeStep ?_ | refine drawStep ?_
  refine decB_dec (fun g => ?_) (fun g => ?_)
  · have hia : i < r.length := by have := g; simp at this; omega
    have h0 := hp _ (List.getElem_mem hia)
    repeat first | refine opsStep ?_ | refine codeStep ?_ | refine drawStep ?_
    refine guardE_of (by simp; omega) ?_
    repeat first | refine opsStep ?_ | refine codeStep ?_ | refine drawStep ?_
    refine optE_of (c := .int .i64 r[i]) (by simp [Value.cells, hia]) ?_
    repeat first | refine opsStep ?_ | refine codeStep ?_ | refine drawStep ?_
    refine decB_dec (fun h2 => ?_) (fun h2 => ?_)
    · exact absurd h2 (by omega)
    repeat first | refine opsStep ?_ | refine codeStep ?_ | refine drawStep ?_
    refine ⟨⟨i + 1, by omega⟩, (by show r.length - (i + 1) < r.length - i; omega), Ent.fr' ⟨(by kernel_rfl), inc_slot (i := i) (by omega), trivial⟩ (by kernel_rfl)⟩
  · repeat first | refine opsStep ?_ | refine codeStep ?_ | refine drawStep ?_
    exact finB (b' := true) (by kernel_rfl) rfl
theorem r11_Pack (k : SK) (r : List Int) (K : Nat) (hK : K ≤ 6) (hl : r.length = 2 ^ K) (hp : ∀ x ∈ r, 0 ≤ x) : Pure Tryz.prog 59 [aIs k r] (.tup [aCs .any (cubR K r 0 0), .int .i64 0]) := by
  have hr := r11_Row k r K hK hl hp
  have hc := (r11_Cubes K hK k r 0 0 hl (by omega) (by omega)).pure (cc3_length _).symm
  have hcl := aCs_closed .any (cubR K r 0 0)
  rw [aCs] at hcl ⊢
  generalize cubR K r 0 0 = C at *
  refine Pure.of_sw 9 Tryz.func59 rfl Tryz.ntmps59 (by kernel_rfl) (Nat.le_of_ble_eq_true (by kernel_rfl)) (by simp [closeds, aIs_closed]) (by simp only [AV.closed, closeds, and_true]; exact hcl) ?_; refine SW.of_vc ?_
  repeat first | refine opsStep ?_ | refine codeStep ?_ | refine drawStep ?_
  refine callP hr ?_
  repeat first | refine opsStep ?_ | refine codeStep ?_ | refine drawStep ?_
  refine callP hc ?_
  repeat first | refine opsStep ?_ | refine codeStep ?_ | refine drawStep ?_
  exact finE_of (by kernel_rfl)

def packC (d : Den) (q : Nat) : List Cb := (d.rows.take q).flatMap fun r => cubR d.tracks.length r 0 0
def packS (d : Den) (q : Nat) : List Int := (List.range (q + 1)).map fun i => ((packC d i).length : Int)
def packA (d : Den) : Aut := ⟨.any, d.tracks, .any, d.accept, .any, packS d d.next.length, .any, packC d d.next.length⟩
theorem packS_length (d q) : (packS d q).length = q + 1 := by simp [packS]
theorem packS_succ (d q) : packS d (q + 1) = packS d q ++ [((packC d (q + 1)).length : Int)] := by rw [packS, List.range_succ, List.map_append]; rfl
theorem packC_succ {d : Den} {q : Nat} (h : q < d.rows.length) : packC d (q + 1) = packC d q ++ cubR d.tracks.length d.rows[q] 0 0 := by
  rw [packC, List.take_succ_eq_append_getElem h, List.flatMap_append]; simp [packC]
theorem packC_len {d : Den} (h : ∀ r ∈ d.rows, (cubR d.tracks.length r 0 0).length ≤ 32) : ∀ q, (packC d q).length ≤ 32 * q
  | 0 => by simp [packC]
  | q + 1 => by
    by_cases hq : q < d.rows.length
    · rw [packC_succ hq, List.length_append]
      have h1 := packC_len h q
      have h2 := h _ (List.getElem_mem hq)
      omega
    · have : packC d (q + 1) = packC d q := by rw [packC, packC, List.take_of_length_le (by omega), List.take_of_length_le (by omega)]
      rw [this]
      have h1 := packC_len h q
      omega

theorem r12_Pack (d : Den) (hd : DenOk d) (hr : rightS d = true) (h32 : ∀ r ∈ d.rows, (cubR d.tracks.length r 0 0).length ≤ 32) : Pure Tryz.prog 40 [aDen d] (.tup [aAut (packA d), .int .i64 0]) := by
  have d1 := hd.tracks
  have d2 := hd.accept
  obtain ⟨ht, hn, hrows⟩ := rightS_parts hr
  obtain ⟨k6, _, _, k256⟩ := tracksS_parts ht
  have hrl : d.rows.length = d.next.length := by simp [Den.rows]
  have hn256 : d.next.length ≤ 256 := by rw [hn]; omega
  refine Pure.of_read (by simp [closeds, aDen_closed]) (by simp [AV.closed, closeds, aAut_closed]) (R := fun o H' => o = .ret (.tup [.agg [aSs .any d.tracks, aBs .any d.accept, .hs 4 d.next.length 0 (d.next.length + 1) 1, .hs 6 d.next.length 0 (packC d d.next.length).length 3], .int .i64 0]) ∧ ∃ b0 b1 b2 b3 b5, H' = [b0, b1, b2, b3, .cells d.next.length ((packS d d.next.length).map (.int .i64)), b5, .cells d.next.length (cc3 (packC d d.next.length))]) ?_ ?_
  rotate_left
  · rintro o H' ⟨rfl, b0, b1, b2, b3, b5, rfl⟩
    refine ⟨_, rfl, .tup (.cons (.agg (.cons (.refl _) (.cons (.refl _) (.cons ?_ (.cons ?_ .nil))))) (.cons (.refl _) .nil))⟩
    · show Rd _ _ (aIs .any (packS d d.next.length))
      rw [aIs, packS_length]
      exact Rd.whole rfl (by simp [packS_length])
    · exact Rd.whole rfl (cc3_length _).symm
  refine ACall.of_sw 52 Tryz.func40 rfl Tryz.ntmps40 (by kernel_rfl) (Nat.le_of_ble_eq_true (by kernel_rfl)) ?_; refine SW.of_vc ?_
  repeat first | refine opsStep ?_ | refine codeStep ?_ | refine drawStep ?_
  refine SW.drawn rfl (by kernel_rfl) ?_
  repeat first | refine opsStep ?_ | refine codeStep ?_ | refine drawStep ?_
  refine guardE_of (by simp [Value.cells]) ?_
  refine guardE_of ⟨by omega, by show (0 + d.tracks.length) * 16 ≤ 140737488355328; omega⟩ ?_
  repeat first | refine opsStep ?_ | refine codeStep ?_ | refine drawStep ?_
  refine guardE_of (by simp [Value.cells]) ?_
  refine guardE_of ⟨by omega, by show (0 + d.accept.length) * 1 ≤ 140737488355328; omega⟩ ?_
  repeat first | refine opsStep ?_ | refine codeStep ?_ | refine drawStep ?_
  refine ⟨by kernel_rfl, ?_⟩
  repeat first | refine opsStep ?_ | refine codeStep ?_ | refine drawStep ?_
  have hinit : ∀ (nt : Fr) (s : Slots) (H : List Blk), nt.k = 0 → frOk s [(1, .ref 0 0 0), (2, .ref 1 0 0), (4, .ref 5 0 0), (5, .int .i64 (0 : Nat))] →
      H = [.cells 0 d.cells, .cells 0 [.sl .nil 0 [], .sl .nil 0 [], .sl .nil 0 [], .sl .nil 0 []], .cells 1 (d.tracks.map .str), .cells 1 (d.accept.map .bool), .cells 0 [.int .i64 0], .cells 0 [.hs 2 1 0 (0 + d.tracks.length) 1, .hs 3 1 0 (0 + d.accept.length) 1, .hs 4 0 0 1 1, .sl .nil 0 []]] →
      Ent nt s H (fr [(1, .ref 0 0 0), (2, .ref 1 0 0), (4, .ref 5 0 0), (5, .int .i64 (0 : Nat))]) [.cells 0 d.cells, .cells 0 [.sl .nil 0 [], .sl .nil 0 [], .sl .nil 0 [], .sl .nil 0 []], .fro 1 (d.tracks.map .str), .fro 1 (d.accept.map .bool), .cells (0) ((packS d 0).map (.int .i64)), .cells 0 [aSs .any d.tracks, aBs .any d.accept, .hs 4 (0) 0 ((0) + 1) 1, .hs 6 (0) 0 (packC d 0).length 3], Blk.cells (0) (cc3 (packC d 0))] := by
    intro nt s H hk hf hH
    subst hH
    rw [Nat.zero_add, Nat.zero_add]
    exact ((((Ent.fr hf).trans (Ent.freezeCell 5 0 (b := 2) rfl rfl rfl (by omega) (by simp))).trans (Ent.freezeCell 5 1 (b := 3) rfl rfl rfl (by omega) (by simp))).trans (Ent.nilCell 5 3 3 rfl rfl)).to (by kernel_rfl)
  refine loopE_of (ι := {q : Nat // q ≤ d.next.length}) (fun q => (fr [(1, .ref 0 0 0), (2, .ref 1 0 0), (4, .ref 5 0 0), (5, .int .i64 q.1)], [.cells 0 d.cells, .cells 0 [.sl .nil 0 [], .sl .nil 0 [], .sl .nil 0 [], .sl .nil 0 []], .fro 1 (d.tracks.map .str), .fro 1 (d.accept.map .bool), .cells (q.1) ((packS d q.1).map (.int .i64)), .cells 0 [aSs .any d.tracks, aBs .any d.accept, .hs 4 (q.1) 0 ((q.1) + 1) 1, .hs 6 (q.1) 0 (packC d q.1).length 3], Blk.cells (q.1) (cc3 (packC d q.1))])) (fun q => d.next.length - q.1) ⟨0, by omega⟩ (hinit _ _ _ rfl ⟨(by kernel_rfl), (by kernel_rfl), (by kernel_rfl), (by kernel_rfl), trivial⟩ (by kernel_rfl)) ?_
  rintro ⟨q, hq⟩
  repeat first | refine opsStep ?_ | refine codeStep ?_ | refine drawStep ?_
  refine decB_dec (fun h => ?_) (fun h => ?_)
  · have hqa : q < d.next.length := by have := h; simp at this; omega
    have hqr : q < d.rows.length := by omega
    have ga : d.rows[q] = (d.next[q]).2 := by simp [Den.rows]
    obtain ⟨l1, l2⟩ := rowOk_parts (hrows _ (List.getElem_mem hqa))
    have hpk := r11_Pack (d.next[q]).1 (d.next[q]).2 d.tracks.length k6 l1 fun x hx => (l2 x hx).1
    have hC32 := h32 _ (List.getElem_mem hqr)
    have hA := packC_len h32 q
    have hs := packS_succ d q
    have hc := packC_succ hqr
    have hsl := packS_length d q
    rw [hc, List.length_append] at hs
    rw [ga] at hC32 hc hs
    have hcl := cc3_length (packC d q)
    generalize packC d q = A at *
    generalize packS d q = S at *
    generalize cubR d.tracks.length (d.next[q]).2 0 0 = C at *
    have hcc := cc3_length C
    repeat first | refine opsStep ?_ | refine codeStep ?_ | refine drawStep ?_
    refine guardE_of (by simp; omega) ?_
    repeat first | refine opsStep ?_ | refine codeStep ?_ | refine drawStep ?_
    refine optE_of (c := aIs (d.next[q]).1 (d.next[q]).2) (by simp [Value.cells, hqa]) ?_
    repeat first | refine opsStep ?_ | refine codeStep ?_ | refine drawStep ?_
    refine callP hpk ?_
    repeat first | refine opsStep ?_ | refine codeStep ?_ | refine drawStep ?_
    refine decB_dec (fun h33 => ?_) (fun h33 => ?_)
    · exact absurd h33 (by omega)
    repeat first | refine opsStep ?_ | refine codeStep ?_ | refine drawStep ?_
    refine guardE_of ⟨rfl, by show 0 + A.length * 3 ≤ (cc3 A).length; omega⟩ ?_
    repeat first | refine opsStep ?_ | refine codeStep ?_ | refine drawStep ?_
    refine guardE_of (by show (cc3 C).length = C.length * 3; exact hcc) ?_
    repeat first | refine opsStep ?_ | refine codeStep ?_ | refine drawStep ?_
    refine guardE_of ⟨by omega, by show (A.length + C.length) * 24 ≤ 140737488355328; omega⟩ ?_
    repeat first | refine opsStep ?_ | refine codeStep ?_ | refine drawStep ?_
    refine guardE_of ⟨rfl, by show 0 + (q + 1) * 1 ≤ (S.map (AV.int .i64)).length; simp [hsl]⟩ ?_
    repeat first | refine opsStep ?_ | refine codeStep ?_ | refine drawStep ?_
    refine guardE_of rfl ?_
    repeat first | refine opsStep ?_ | refine codeStep ?_ | refine drawStep ?_
    refine guardE_of ⟨by show q + 1 + 1 ≤ 9223372036854775807; omega, by show (q + 1 + 1) * 8 ≤ 140737488355328; omega⟩ ?_
    repeat first | refine opsStep ?_ | refine codeStep ?_ | refine drawStep ?_
    refine ⟨⟨q + 1, by omega⟩, (by show d.next.length - (q + 1) < d.next.length - q; omega), Ent.frD (X := [.cells 0 [.int .i64 (A.length + C.length : Nat)]]) ⟨(by kernel_rfl), (by kernel_rfl), (by kernel_rfl), inc_slot (i := q) (by omega), trivial⟩ ?_ (Nat.le_of_ble_eq_true (by kernel_rfl)) (by first | (simp [frBel, blksBel, Blk.bel, AV.bel, bels, bels_append, bels_map, aSs_bel, aIs_bel, aBs_bel, aRs_bel, aDen_bel, cells_bel]; done) | (simp only [List.drop_zero, ← List.map_take, ← List.map_drop, List.map_map, frBel, blksBel, Blk.bel, AV.bel, bels, bels_append, bels_map, aSs_bel, aIs_bel, aBs_bel, aRs_bel, aDen_bel, cells_bel]; simp [AV.bel, aSs_bel, aIs_bel, aBs_bel, aRs_bel, aDen_bel, cells_bel])) ?_⟩
    · refine Eq.trans (b := [.cells 0 d.cells, .cells 0 [.sl .nil 0 [], .sl .nil 0 [], .sl .nil 0 [], .sl .nil 0 []], .fro 1 (d.tracks.map .str), .fro 1 (d.accept.map .bool), .cells (q + 1) (((S.map (.int .i64)).drop 0).take ((q + 1) * 1) ++ [.int .i64 (A.length + C.length : Nat)]), .cells 0 [aSs .any d.tracks, aBs .any d.accept, .hs 4 (q + 1) 0 (q + 1 + 1) 1, .hs 6 (q + 1) 0 (A.length + C.length) 3], Blk.cells (q + 1) (((cc3 A).drop 0).take (A.length * 3) ++ ((cc3 C))), .cells 0 [.int .i64 (A.length + C.length : Nat)]]) (by kernel_rfl) ?_
      show _ = [.cells 0 d.cells, .cells 0 [.sl .nil 0 [], .sl .nil 0 [], .sl .nil 0 [], .sl .nil 0 []], .fro 1 (d.tracks.map .str), .fro 1 (d.accept.map .bool), .cells ((q + 1)) ((packS d (q + 1)).map (.int .i64)), .cells 0 [aSs .any d.tracks, aBs .any d.accept, .hs 4 ((q + 1)) 0 (((q + 1)) + 1) 1, .hs 6 ((q + 1)) 0 (packC d (q + 1)).length 3], Blk.cells ((q + 1)) (cc3 (packC d (q + 1)))] ++ [.cells 0 [.int .i64 (A.length + C.length : Nat)]]
      rw [hs, hc, cc3_append, List.length_append, List.drop_zero, List.drop_zero, List.take_of_length_le (by simp [hsl]), List.take_of_length_le (by omega), List.map_append]
      rfl
    · simp [blksBel, Blk.bel, bels, AV.bel, Den.cells, bels_map, aSs_bel, aBs_bel, aRs_bel, closeds_bel _ (cc3_closed _)]
  · have hqa : q = d.next.length := by have := h; simp at this; omega
    subst hqa
    repeat first | refine opsStep ?_ | refine codeStep ?_ | refine drawStep ?_
    exact finR (l := [(2, .ref 1 0 0), (3, .int .i64 0)]) (H₁ := [.cells 0 d.cells, .cells 0 [aSs .any d.tracks, aBs .any d.accept, .hs 4 d.next.length 0 (d.next.length + 1) 1, .hs 6 d.next.length 0 (packC d d.next.length).length 3], .fro 1 (d.tracks.map .str), .fro 1 (d.accept.map .bool), .cells d.next.length ((packS d d.next.length).map (.int .i64)), .cells 0 [aSs .any d.tracks, aBs .any d.accept, .hs 4 d.next.length 0 (d.next.length + 1) 1, .hs 6 d.next.length 0 (packC d d.next.length).length 3], Blk.cells d.next.length (cc3 (packC d d.next.length))]) (v := .tup [.agg [aSs .any d.tracks, aBs .any d.accept, .hs 4 d.next.length 0 (d.next.length + 1) 1, .hs 6 d.next.length 0 (packC d d.next.length).length 3], .int .i64 0]) ⟨(by kernel_rfl), (by kernel_rfl), trivial⟩ (by kernel_rfl) (Ent.refl _ _ _) (by kernel_rfl) ⟨rfl, _, _, _, _, _, rfl⟩

end Tab

/- tabardref11: At, Unpack, Right. -/
namespace Tab
open Go Go.Proofs
set_option maxRecDepth 10000
set_option linter.unusedVariables false
set_option linter.unusedSimpArgs false
set_option linter.unusedSectionVars false

theorem drop_add3 (cs : List AV) (i j : Nat) : (cs.drop i).drop j = cs.drop (i + j) := by rw [List.drop_drop]
theorem cc3_at {L : List Cb} {i : Nat} {c : Cb} (h : L[i]? = some c) : (cc3 L)[i * 3]? = some (.int .i64 c.1) ∧ (cc3 L)[i * 3 + 1]? = some (.int .i64 c.2.1) ∧ (cc3 L)[i * 3 + 2]? = some (.int .i64 c.2.2) := by
  obtain ⟨h1, h2⟩ := cc3_get h
  have e : ∀ j, j < 3 → (cc3 L)[i * 3 + j]? = (cb3 c)[j]? := fun j hj => by
    rw [← h1, List.getElem?_take, if_pos hj, List.getElem?_drop]
  exact ⟨e 0 (by omega), e 1 (by omega), e 2 (by omega)⟩

theorem r11_At (k : SK) (cs : List Cb) (i : Int) (hl : cs.length < 2^60) : Pure Tryz.prog 53 [aCs k cs, .int .i64 i] (.tup [.int .i64 ((atC cs i).getD 0), .bool (atC cs i).isSome]) := by
  refine Pure.of_sw 31 Tryz.func53 rfl Tryz.ntmps53 (by kernel_rfl) (Nat.le_of_ble_eq_true (by kernel_rfl)) (by simp [closeds, AV.closed, aSs_closed, aIs_closed, aBs_closed, aRs_closed, aDen_closed, aCs_closed, aAut_closed]) (by simp [AV.closed, closeds, aSs_closed, aIs_closed, aBs_closed, aRs_closed, aDen_closed, aCs_closed, aAut_closed]) ?_; refine SW.of_vc ?_
  repeat first | refine opsStep ?_ | refine codeStep ?_ | refine drawStep ?_
  refine loopE_of (ι := {j : Nat // j ≤ cs.length ∧ ∀ j' (h : j' < cs.length), j' < j → hitC i cs[j'] = false}) (fun j => (fr [(0, aCs k cs), (1, .int .i64 i), (6, .int .i64 j.1)], [])) (fun j => cs.length - j.1) ⟨0, by omega, fun _ _ h => by omega⟩ (Ent.fr' ⟨(by kernel_rfl), (by kernel_rfl), (by kernel_rfl), trivial⟩ (by kernel_rfl)) ?_
  rintro ⟨j, hj, hpre⟩
  repeat first | refine opsStep ?_ | refine codeStep ?_ | refine drawStep ?_
  refine decB_dec (fun h => ?_) (fun h => ?_)
  · have hja : j < cs.length := by have := h; simp at this; omega
    obtain ⟨g1, g2, g3⟩ := cc3_at (List.getElem?_eq_getElem hja)
    repeat first | refine opsStep ?_ | refine codeStep ?_ | refine drawStep ?_
    refine SW.drawn rfl (by kernel_rfl) ?_
    repeat first | refine opsStep ?_ | refine codeStep ?_ | refine drawStep ?_
    refine guardE_of (by simp; omega) ?_
    repeat first | refine opsStep ?_ | refine codeStep ?_ | refine drawStep ?_
    refine optE_of (c := .int .i64 (cs[j]).1) (by show (((cc3 cs).drop (j * 3)).drop 0)[0]? = _; simp [g1]) ?_
    repeat first | refine opsStep ?_ | refine codeStep ?_ | refine drawStep ?_
    refine guardE_of (by simp; omega) ?_
    repeat first | refine opsStep ?_ | refine codeStep ?_ | refine drawStep ?_
    refine optE_of (c := .int .i64 (cs[j]).2.1) (by show (((cc3 cs).drop (j * 3)).drop 1)[0]? = _; simp [g2]) ?_
    repeat first | refine opsStep ?_ | refine codeStep ?_ | refine drawStep ?_
    refine ⟨by kernel_rfl, ?_⟩
    repeat first | refine opsStep ?_ | refine codeStep ?_ | refine drawStep ?_
    refine decB_dec (fun hh => ?_) (fun hh => ?_)
    · have hh : hitC i cs[j] = true := decide_eq_true hh
      repeat first | refine opsStep ?_ | refine codeStep ?_ | refine drawStep ?_
      refine guardE_of (by simp; omega) ?_
      repeat first | refine opsStep ?_ | refine codeStep ?_ | refine drawStep ?_
      refine optE_of (c := .int .i64 (cs[j]).2.2) (by show (((cc3 cs).drop (j * 3)).drop 2)[0]? = _; simp [g3]) ?_
      repeat first | refine opsStep ?_ | refine codeStep ?_ | refine drawStep ?_
      exact finV (v' := .tup [.int .i64 (cs[j]).2.2, .bool true]) (by kernel_rfl) (by rw [atC_find hja (fun j' h' => hpre j' (by omega) h') hh]; rfl)
    · have hh : hitC i cs[j] = false := decide_eq_false hh
      repeat first | refine opsStep ?_ | refine codeStep ?_ | refine drawStep ?_
      refine ⟨⟨j + 1, by omega, fun j' h' hlt => ?_⟩, (by show cs.length - (j + 1) < cs.length - j; omega), Ent.fr' ⟨(by kernel_rfl), (by kernel_rfl), inc_slot (i := j) (by omega), trivial⟩ (by kernel_rfl)⟩
      by_cases e : j' = j
      · subst e; exact hh
      · exact hpre j' h' (by omega)
  · repeat first | refine opsStep ?_ | refine codeStep ?_ | refine drawStep ?_
    have : j = cs.length := by have := h; simp at this; omega
    exact finV (v' := .tup [.int .i64 0, .bool false]) (by kernel_rfl) (by rw [atC_none fun j' h' => hpre j' h' (by omega)]; rfl)

theorem r11_Unpack (kc : SK) (cs : List Cb) (k : Nat) (hk : k ≤ 6) (hl : cs.length < 2^40) (ho : ∀ c ∈ cs, okC c) : Pure Tryz.prog 34 [aCs kc cs, .int .i64 k] (rowU cs k) := by
  have hq : 2 ^ k ≤ 2 ^ 6 := Nat.pow_le_pow_right (by omega) (by omega)
  have hp2 : ∀ j, j ≤ k → 2 ^ j ≤ 2 ^ 6 := fun j hj => Nat.pow_le_pow_right (by omega) (by omega)
  have hat := fun i : Nat => r11_At kc cs i (by omega)
  have hrl := rowC_length cs k
  have hget := fun (i : Nat) (h : i < 2 ^ k) => rowC_get (cs := cs) h
  have hio := cubesOk_iff (cs := cs) (k := k)
  have hC := (r11_Cubes k hk .any (rowC cs k) 0 0 hrl (by omega) (by omega)).pure (cc3_length _).symm
  have hCl := cubR_len k (rowC cs k) 0 0
  have hCo := cubR_ok k hk _ 0 0 (rowC_ok ho k) (by omega) (by omega)
  have hR : aIs .any (rowC cs k) = .sl .any (2 ^ k) ((rowC cs k).map (.int .i64)) := by rw [aIs, hrl]
  have hv : rowU cs k = if cubesOk cs k = true then .tup [.sl .any (2 ^ k) ((rowC cs k).map (.int .i64)), .int .i64 0] else .tup [.sl .nil 0 [], .int .i64 3] := by rw [rowU, hR]
  rw [hR] at hC
  rw [hv]
  generalize cubR k (rowC cs k) 0 0 = C at *
  generalize rowC cs k = r at *
  generalize cubesOk cs k = ok at *
  have hK0 : (2 : Nat) ^ 0 = 1 := rfl
  refine Pure.of_read (by simp [closeds, aCs_closed, AV.closed]) (by split <;> simp [AV.closed, closeds, ints_cl]) (R := fun o H' => (ok = false ∧ o = .ret (.tup [.sl .nil 0 [], .int .i64 3])) ∨ (ok = true ∧ ∃ g, o = .ret (.tup [.hs 0 g 0 (2 ^ k) 1, .int .i64 0]) ∧ H' = [.fro g (r.map (.int .i64))])) ?_ ?_
  rotate_left
  · rintro o H' (⟨h, rfl⟩ | ⟨h, g, rfl, rfl⟩)
    · exact ⟨_, rfl, by rw [h]; exact .refl _⟩
    · refine ⟨_, rfl, ?_⟩
      rw [h]
      exact .tup (.cons (Rd.frozen rfl (by simp [hrl])) (.cons (.refl _) .nil))
  refine ACall.of_sw 75 Tryz.func34 rfl Tryz.ntmps34 (by kernel_rfl) (Nat.le_of_ble_eq_true (by kernel_rfl)) ?_; refine SW.of_vc ?_
  repeat first | refine opsStep ?_ | refine codeStep ?_ | refine drawStep ?_
  refine decB_dec (fun h => ?_) (fun h => ?_)
  · exact absurd h (by omega)
  repeat first | refine opsStep ?_ | refine codeStep ?_ | refine drawStep ?_
  refine loopE_of (ι := {j : Nat // j ≤ k}) (fun j => (fr [(0, aCs kc cs), (1, .int .i64 k), (6, .int .i64 (2 ^ j.1 : Nat)), (7, .int .i64 j.1)], [])) (fun j => k - j.1) ⟨0, by omega⟩ (Ent.fr' ⟨(by kernel_rfl), (by kernel_rfl), (by kernel_rfl), (by kernel_rfl), trivial⟩ (by kernel_rfl)) ?_
  rintro ⟨j, hj⟩
  repeat first | refine opsStep ?_ | refine codeStep ?_ | refine drawStep ?_
  refine decB_dec (fun hjk => ?_) (fun hjk => ?_)
  · have hja : j < k := by have := hjk; simp at this; omega
    have hb := hp2 (j + 1) (by omega)
    repeat first | refine opsStep ?_ | refine codeStep ?_ | refine drawStep ?_
    refine ⟨⟨j + 1, by omega⟩, (by show k - (j + 1) < k - j; omega), Ent.fr' ⟨(by kernel_rfl), (by kernel_rfl), ?_, inc_slot (i := j) (by omega), trivial⟩ (by kernel_rfl)⟩
    show AV.int .i64 (IntKind.wrap .i64 (((2 ^ j : Nat) : Int) * 2)) = AV.int .i64 ((2 ^ (j + 1) : Nat) : Int)
    have e2 : 2 ^ (j + 1) = 2 ^ j * 2 := Nat.pow_succ 2 j
    rw [e2] at hb ⊢
    generalize 2 ^ j = x at *
    rw [IntWalk.i64_in _ (by omega)]; simp
  have hja : j = k := by have := hjk; simp at this; omega
  subst hja
  generalize 2 ^ j = q at *
  repeat first | refine opsStep ?_ | refine codeStep ?_ | refine drawStep ?_
  refine decB_dec (fun h => ?_) (fun h => ?_)
  · repeat first | refine opsStep ?_ | refine codeStep ?_ | refine drawStep ?_
    refine finR (l := [(4, .sl .nil 0 []), (5, .int .i64 3)]) (H₁ := []) (v := .tup [.sl .nil 0 [], .int .i64 3]) ⟨(by kernel_rfl), (by kernel_rfl), trivial⟩ (by kernel_rfl) (Ent.refl _ _ _) (by kernel_rfl) (.inl ⟨?_, rfl⟩)
    rw [← Bool.not_eq_true, hio]
    rintro ⟨h1, _⟩
    have h : (cs.length : Int) > (q : Int) := h
    omega
  have hcl : cs.length ≤ q := by
    have h : ¬ (cs.length : Int) > (q : Int) := h
    omega
  repeat first | refine opsStep ?_ | refine codeStep ?_ | refine drawStep ?_
  refine loopE_of (ι := {a : Nat // a ≤ q ∧ (∀ i : Nat, i < a → (atC cs i).isSome = true) ∧ ∀ x ∈ r.take a, 0 ≤ x})
    (fun a => (fr [(0, aCs kc cs), (6, .int .i64 q), (8, .hs 0 a.1 0 a.1 1), (9, .int .i64 a.1)], [.cells a.1 ((r.take a.1).map (.int .i64))]))
    (fun a => q - a.1) ⟨0, by omega, fun _ h => by omega, by simp⟩ (((Ent.fr' (l := [(0, aCs kc cs), (6, .int .i64 q), (8, .sl .nil 0 []), (9, .int .i64 (0 : Nat))]) (H' := []) ⟨(by kernel_rfl), (by kernel_rfl), (by kernel_rfl), (by kernel_rfl), trivial⟩ (by kernel_rfl)).trans (Ent.nil 8 1 rfl)).trans (Ent.fr' ⟨(by kernel_rfl), (by kernel_rfl), (by kernel_rfl), (by kernel_rfl), trivial⟩ (by kernel_rfl))) ?_
  rintro ⟨a, ha, hsome, hpos⟩
  repeat first | refine opsStep ?_ | refine codeStep ?_ | refine drawStep ?_
  refine decB_dec (fun g => ?_) (fun g => ?_)
  · have haq : a < q := by have := g; simp at this; omega
    have hat := hat a
    cases hx : atC cs a with
    | none =>
      rw [hx] at hat
      repeat first | refine opsStep ?_ | refine codeStep ?_ | refine drawStep ?_
      refine callP hat ?_
      repeat first | refine opsStep ?_ | refine codeStep ?_ | refine drawStep ?_
      refine finR (l := [(4, .sl .nil 0 []), (5, .int .i64 3)]) (H₁ := [.cells a ((r.take a).map (.int .i64))]) (v := .tup [.sl .nil 0 [], .int .i64 3]) ⟨(by kernel_rfl), (by kernel_rfl), trivial⟩ (by kernel_rfl) (Ent.refl _ _ _) (by kernel_rfl) (.inl ⟨?_, rfl⟩)
      rw [← Bool.not_eq_true, hio]
      rintro ⟨_, h2, _⟩
      have := h2 a haq
      rw [hx] at this; simp at this
    | some x =>
      rw [hx] at hat
      have hra : r[a]? = some x := by rw [hget a haq, hx]; rfl
      obtain ⟨hra1, hra2⟩ := List.getElem?_eq_some_iff.1 hra
      have htk : r.take (a + 1) = r.take a ++ [x] := by rw [List.take_succ_eq_append_getElem hra1, hra2]
      have hln : (r.take a).length = a := by simp; omega
      repeat first | refine opsStep ?_ | refine codeStep ?_ | refine drawStep ?_
      refine callP hat ?_
      repeat first | refine opsStep ?_ | refine codeStep ?_ | refine drawStep ?_
      refine decB_dec (fun hneg => ?_) (fun hneg => ?_)
      · repeat first | refine opsStep ?_ | refine codeStep ?_ | refine drawStep ?_
        refine finR (l := [(4, .sl .nil 0 []), (5, .int .i64 3)]) (H₁ := [.cells a ((r.take a).map (.int .i64))]) (v := .tup [.sl .nil 0 [], .int .i64 3]) ⟨(by kernel_rfl), (by kernel_rfl), trivial⟩ (by kernel_rfl) (Ent.refl _ _ _) (by kernel_rfl) (.inl ⟨?_, rfl⟩)
        rw [← Bool.not_eq_true, hio]
        rintro ⟨_, _, h3, _⟩
        have := List.all_eq_true.1 h3 x (List.mem_of_getElem? hra)
        have hneg : x < 0 := hneg
        simp at this; omega
      have hneg : ¬ x < 0 := hneg
      repeat first | refine opsStep ?_ | refine codeStep ?_ | refine drawStep ?_
      refine guardE_of ⟨rfl, by show 0 + a * 1 ≤ ((r.take a).map (AV.int .i64)).length; rw [List.length_map, hln]; omega⟩ ?_
      repeat first | refine opsStep ?_ | refine codeStep ?_ | refine drawStep ?_
      refine guardE_of rfl ?_
      repeat first | refine opsStep ?_ | refine codeStep ?_ | refine drawStep ?_
      refine guardE_of ⟨by omega, by show (a + 1) * 8 ≤ 140737488355328; omega⟩ ?_
      repeat first | refine opsStep ?_ | refine codeStep ?_ | refine drawStep ?_
      refine ⟨⟨a + 1, by omega, fun i hi => ?_, fun y hy => ?_⟩, (by show q - (a + 1) < q - a; omega), Ent.frD (X := [.cells 0 [.int .i64 x]]) ⟨(by kernel_rfl), (by kernel_rfl), (by kernel_rfl), inc_slot (i := a) (by omega), trivial⟩ ?_ (Nat.le_of_ble_eq_true (by kernel_rfl)) (by first | (simp [frBel, blksBel, Blk.bel, AV.bel, bels, bels_append, bels_map, aSs_bel, aIs_bel, aBs_bel, aRs_bel, aDen_bel, cells_bel]; done) | (simp only [List.drop_zero, ← List.map_take, ← List.map_drop, List.map_map, frBel, blksBel, Blk.bel, AV.bel, bels, bels_append, bels_map, aSs_bel, aIs_bel, aBs_bel, aRs_bel, aDen_bel, cells_bel]; simp [AV.bel, aSs_bel, aIs_bel, aBs_bel, aRs_bel, aDen_bel, cells_bel])) ?_⟩
      · by_cases e : i = a
        · subst e; rw [hx]; rfl
        · exact hsome i (by omega)
      · rw [htk] at hy
        rcases List.mem_append.1 hy with hy | hy
        · exact hpos y hy
        · simp at hy; omega
      · refine Eq.trans (b := [Blk.cells (a + 1) ((((r.take a).map (AV.int .i64)).drop 0).take (a * 1) ++ [.int .i64 x]), .cells 0 [.int .i64 x]]) (by kernel_rfl) ?_
        show _ = [Blk.cells (a + 1) ((r.take (a + 1)).map (.int .i64)), .cells 0 [.int .i64 x]]
        rw [htk, List.drop_zero, List.take_of_length_le (by rw [List.length_map, hln]; omega), List.map_append]
        rfl
      · exact ⟨bels_map.2 fun x _ => by simp [AV.bel], trivial⟩
  have haq : a = q := by have := g; simp at this; omega
  subst haq
  have htl : r.take a = r := List.take_of_length_le (by omega)
  rw [htl] at hpos
  have hpall : (r.all fun x => decide (0 ≤ x)) = true := List.all_eq_true.2 fun x hx => by simpa using hpos x hx
  refine VCode.ent (Ent.fr' (l := [(0, aCs kc cs), (8, .hs 0 a 0 a 1)]) (H' := [.cells a (r.map (.int .i64))]) ⟨(by kernel_rfl), (by kernel_rfl), trivial⟩ (Eq.trans (b := [.cells a ((r.take a).map (.int .i64))]) (by kernel_rfl) (by rw [htl]))) ?_
  repeat first | refine opsStep ?_ | refine codeStep ?_ | refine drawStep ?_
  refine callZ 0 (g := a) (cs := r.map (.int .i64)) (by kernel_rfl) hC (.hs (b := 0) (g := a) rfl (by simp [hrl]) (.same (.same .nil))) ?_
  repeat first | refine opsStep ?_ | refine codeStep ?_ | refine drawStep ?_
  refine decB_dec (fun hlen => ?_) (fun hlen => ?_)
  · repeat first | refine opsStep ?_ | refine codeStep ?_ | refine drawStep ?_
    refine finR (l := [(4, .sl .nil 0 []), (5, .int .i64 3)]) (H₁ := [.fro a (r.map (.int .i64))]) (v := .tup [.sl .nil 0 [], .int .i64 3]) ⟨(by kernel_rfl), (by kernel_rfl), trivial⟩ (by kernel_rfl) (Ent.refl _ _ _) (by kernel_rfl) (.inl ⟨?_, rfl⟩)
    rw [← Bool.not_eq_true, hio]
    rintro ⟨_, _, _, h4⟩
    have hlen : (C.length : Int) ≠ (cs.length : Int) := hlen
    rw [h4] at hlen; exact hlen rfl
  have hlen : C.length = cs.length := by
    have h : ((C.length : Nat) : Int) = ((cs.length : Nat) : Int) := Decidable.of_not_not hlen
    exact Int.ofNat_inj.1 h
  repeat first | refine opsStep ?_ | refine codeStep ?_ | refine drawStep ?_
  refine loopE_of (ι := {i : Nat // i ≤ cs.length ∧ C.take i = cs.take i}) (fun i => (fr [(0, aCs kc cs), (8, .hs 0 a 0 a 1), (12, .sl .any C.length (cc3 C)), (13, .int .i64 i.1)], [.fro a (r.map (.int .i64))])) (fun i => cs.length - i.1) ⟨0, by omega, by simp⟩ (Ent.fr' ⟨(by kernel_rfl), (by kernel_rfl), (by kernel_rfl), (by kernel_rfl), trivial⟩ (by kernel_rfl)) ?_
  rintro ⟨i, hi, hpre⟩
  repeat first | refine opsStep ?_ | refine codeStep ?_ | refine drawStep ?_
  refine decB_dec (fun hil => ?_) (fun hil => ?_)
  · have hia : i < cs.length := by have := hil; simp at this; omega
    have hib : i < C.length := by omega
    obtain ⟨g1, g2⟩ := cc3_get (List.getElem?_eq_getElem hib)
    obtain ⟨g3, g4⟩ := cc3_get (List.getElem?_eq_getElem hia)
    have he : EqlE Tryz.prog 65 (((cc3 C).drop (i * 3)).take 3) (((cc3 cs).drop (i * 3)).take 3) (decide (C[i] = cs[i])) := by rw [g1, g3]; exact eqlC (hCo _ (List.getElem_mem hib)) (ho _ (List.getElem_mem hia))
    repeat first | refine opsStep ?_ | refine codeStep ?_ | refine drawStep ?_
    refine SW.drawn rfl (by kernel_rfl) ?_
    repeat first | refine opsStep ?_ | refine codeStep ?_ | refine drawStep ?_
    refine guardE_of (by simp; omega) ?_
    repeat first | refine opsStep ?_ | refine codeStep ?_ | refine drawStep ?_
    refine guardE_of g2 ?_
    repeat first | refine opsStep ?_ | refine codeStep ?_ | refine drawStep ?_
    refine guardE_of (by simp; omega) ?_
    repeat first | refine opsStep ?_ | refine codeStep ?_ | refine drawStep ?_
    refine guardE_of g4 ?_
    repeat first | refine opsStep ?_ | refine codeStep ?_ | refine drawStep ?_
    refine ⟨_, he, ?_⟩
    repeat first | refine opsStep ?_ | refine codeStep ?_ | refine drawStep ?_
    refine ⟨by kernel_rfl, ?_⟩
    repeat first | refine opsStep ?_ | refine codeStep ?_ | refine drawStep ?_
    refine decB_split (fun h => ?_) (fun h => ?_)
    · repeat first | refine opsStep ?_ | refine codeStep ?_ | refine drawStep ?_
      refine finR (l := [(4, .sl .nil 0 []), (5, .int .i64 3)]) (H₁ := [.fro a (r.map (.int .i64))]) (v := .tup [.sl .nil 0 [], .int .i64 3]) ⟨(by kernel_rfl), (by kernel_rfl), trivial⟩ (by kernel_rfl) (Ent.refl _ _ _) (by kernel_rfl) (.inl ⟨?_, rfl⟩)
      rw [← Bool.not_eq_true, hio]
      rintro ⟨_, _, _, h4⟩
      subst h4
      simp at h
    · repeat first | refine opsStep ?_ | refine codeStep ?_ | refine drawStep ?_
      refine ⟨⟨i + 1, by omega, ?_⟩, (by show cs.length - (i + 1) < cs.length - i; omega), Ent.fr' ⟨(by kernel_rfl), (by kernel_rfl), (by kernel_rfl), inc_slot (i := i) (by omega), trivial⟩ (by kernel_rfl)⟩
      rw [List.take_succ_eq_append_getElem hib, List.take_succ_eq_append_getElem hia, hpre]
      simp at h; rw [h]
  · have hie : i = cs.length := by have := hil; simp at this; omega
    have heq : C = cs := by
      subst hie
      rw [List.take_length, ← hlen, List.take_length] at hpre
      exact hpre
    repeat first | refine opsStep ?_ | refine codeStep ?_ | refine drawStep ?_
    exact finR (l := [(4, .hs 0 a 0 a 1), (5, .int .i64 0)]) (H₁ := [.fro a (r.map (.int .i64))]) (v := .tup [.hs 0 a 0 a 1, .int .i64 0]) ⟨(by kernel_rfl), (by kernel_rfl), trivial⟩ (by kernel_rfl) (Ent.refl _ _ _) (by kernel_rfl) (.inr ⟨hio.2 ⟨hcl, hsome, hpall, heq⟩, a, rfl, rfl⟩)

end Tab

/- table.Unpack. -/
namespace Tab
open Go Go.Proofs
set_option maxRecDepth 10000
set_option linter.unusedVariables false
set_option linter.unusedSimpArgs false
set_option linter.unusedSectionVars false

theorem den0_cl : aDen den0 = .agg [.sl .nil 0 [], .sl .nil 0 [], .sl .nil 0 []] := rfl
def unR (a : Aut) (i : Nat) : List (SK × List Int) := (List.range i).map fun q => (.any, rowC (a.row q) a.tracks.length)
theorem unR_length (a i) : (unR a i).length = i := by simp [unR]
theorem unR_succ (a i) : unR a (i + 1) = unR a i ++ [(.any, rowC (a.row i) a.tracks.length)] := by rw [unR, List.range_succ, List.map_append]; rfl
theorem table_Unpack (a : Aut) (ha : AutOk a) : Pure Tryz.prog 28 [aAut a] (.tup [aDen (unpD a), .int .i64 (unpE a)]) := by
  have h1 := ha.tracks
  have h2 := ha.accept
  have h4 := ha.arena
  have hck := table_Check a ha
  cases hc : checkS a with
  | false =>
    rw [unpE_bad hc] at hck
    rw [unpE_bad hc, unpD_bad hc]
    refine Pure.of_sw 50 Tryz.func28 rfl Tryz.ntmps28 (by kernel_rfl) (Nat.le_of_ble_eq_true (by kernel_rfl)) (by simp [closeds, AV.closed, aSs_closed, aIs_closed, aBs_closed, aRs_closed, aDen_closed, aCs_closed, aAut_closed]) (by simp [AV.closed, closeds, aSs_closed, aIs_closed, aBs_closed, aRs_closed, aDen_closed, aCs_closed, aAut_closed]) ?_; refine SW.of_vc ?_
    repeat first | refine opsStep ?_ | refine codeStep ?_ | refine drawStep ?_
    refine callP hck ?_
    repeat first | refine opsStep ?_ | refine codeStep ?_ | refine drawStep ?_
    exact finV (v' := .tup [aDen den0, .int .i64 3]) (by kernel_rfl) rfl
  | true =>
  rw [unpE_zero.2 hc] at hck
  rw [unpE_zero.2 hc, unpD_ok hc]
  have hc' := hc
  simp only [checkS, Bool.and_eq_true, List.all_eq_true, List.mem_range] at hc'
  obtain ⟨hf, hrows⟩ := hc'
  have hf := frameS_iff.1 hf
  obtain ⟨k6, _, _, k256⟩ := tracksS_parts hf.tracks
  have hcs := slices_Clone_S a.tk a.tracks (by omega)
  have hcb := slices_Clone_B a.ak a.accept (by omega)
  refine Pure.of_read (by simp [closeds, aAut_closed]) (by simp [AV.closed, closeds, aDen_closed]) (R := fun o H' => o = .ret (.tup [.agg [aSs .any a.tracks, aBs .any a.accept, .hs 3 a.accept.length 0 a.accept.length 1], .int .i64 0]) ∧ ∃ b0 b1 b2, H' = [b0, b1, b2, .cells a.accept.length ((unR a a.accept.length).map fun r => aIs r.1 r.2)]) ?_ ?_
  · refine ACall.of_sw 50 Tryz.func28 rfl Tryz.ntmps28 (by kernel_rfl) (Nat.le_of_ble_eq_true (by kernel_rfl)) ?_; refine SW.of_vc ?_
    repeat first | refine opsStep ?_ | refine codeStep ?_ | refine drawStep ?_
    refine callP hck ?_
    repeat first | refine opsStep ?_ | refine codeStep ?_ | refine drawStep ?_
    refine SW.drawn rfl (by kernel_rfl) ?_
    repeat first | refine opsStep ?_ | refine codeStep ?_ | refine drawStep ?_
    refine .inl ⟨_, _, [], hcs, RdsN_refl _, .inr rfl, none_need, ?_⟩
    repeat first | refine opsStep ?_ | refine codeStep ?_ | refine drawStep ?_
    refine .inl ⟨_, _, [], hcb, RdsN_refl _, .inr rfl, none_need, ?_⟩
    repeat first | refine opsStep ?_ | refine codeStep ?_ | refine drawStep ?_
    refine ⟨by kernel_rfl, ?_⟩
    repeat first | refine opsStep ?_ | refine codeStep ?_ | refine drawStep ?_
    refine loopE_of (ι := {q : Nat // q ≤ a.accept.length}) (fun q => (fr [(1, .ref 0 0 0), (2, .ref 1 0 0), (5, .ref 2 0 0), (24, .int .i64 a.accept.length), (25, .int .i64 q.1)], [.cells 0 a.cells, .cells 0 [.sl .nil 0 [], .sl .nil 0 [], .sl .nil 0 []], .cells 0 [aSs .any a.tracks, aBs .any a.accept, .hs 3 (q.1) 0 (q.1) 1], Blk.cells (q.1) ((unR a q.1).map fun r => aIs r.1 r.2)])) (fun q => a.accept.length - q.1) ⟨0, by omega⟩ ?_ ?_
    · exact ((Ent.fr' (l := [(1, .ref 0 0 0), (2, .ref 1 0 0), (5, .ref 2 0 0), (24, .int .i64 a.accept.length), (25, .int .i64 (0 : Nat))]) (H' := [.cells 0 a.cells, .cells 0 [.sl .nil 0 [], .sl .nil 0 [], .sl .nil 0 []], .cells 0 [aSs .any a.tracks, aBs .any a.accept, .sl .nil 0 []]]) ⟨(by kernel_rfl), (by kernel_rfl), (by kernel_rfl), (by kernel_rfl), (by kernel_rfl), trivial⟩ (by kernel_rfl)).trans (Ent.nilCell 2 2 1 rfl rfl)).to rfl
    rintro ⟨q, hq⟩
    repeat first | refine opsStep ?_ | refine codeStep ?_ | refine drawStep ?_
    refine decB_dec (fun h => ?_) (fun h => ?_)
    · have hqa : q < a.accept.length := by have := h; simp at this; omega
      obtain ⟨p1, p2⟩ := hf.get (q := q) (by omega)
      obtain ⟨p3, p4⟩ := hf.get (q := q + 1) (by omega)
      have hro := table_rowOf a q (by omega) p1 p3 (hf.le hqa) p4
      have hok := hrows q hqa
      simp only [rowOkS, Bool.and_eq_true, decide_eq_true_eq] at hok
      have hun := row_Unpack a.ck.cut (a.row q) a.tracks.length k6 (by omega) fun c hc => ha.cubes c (row_mem c hc)
      rw [rowU_ok hok.1.2] at hun
      have hs := unR_succ a q
      have hl := unR_length a q
      generalize rowC (a.row q) a.tracks.length = r at *
      generalize a.row q = cs at *
      generalize unR a q = rs at *
      repeat first | refine opsStep ?_ | refine codeStep ?_ | refine drawStep ?_
      refine SW.drawn rfl (by kernel_rfl) ?_
      repeat first | refine opsStep ?_ | refine codeStep ?_ | refine drawStep ?_
      refine .inl ⟨_, _, [], hro, RdsN_refl _, .inr rfl, none_need, ?_⟩
      repeat first | refine opsStep ?_ | refine codeStep ?_ | refine drawStep ?_
      refine .inl ⟨_, _, [], hun, RdsN_refl _, .inr rfl, none_need, ?_⟩
      repeat first | refine opsStep ?_ | refine codeStep ?_ | refine drawStep ?_
      refine ⟨by kernel_rfl, ?_⟩
      repeat first | refine opsStep ?_ | refine codeStep ?_ | refine drawStep ?_
      refine guardE_of ⟨rfl, by simp [hl]⟩ ?_
      repeat first | refine opsStep ?_ | refine codeStep ?_ | refine drawStep ?_
      refine guardE_of rfl ?_
      repeat first | refine opsStep ?_ | refine codeStep ?_ | refine drawStep ?_
      refine guardE_of ⟨by omega, by show (q + 1) * 24 ≤ 140737488355328; omega⟩ ?_
      repeat first | refine opsStep ?_ | refine codeStep ?_ | refine drawStep ?_
      refine ⟨⟨q + 1, by omega⟩, (by show a.accept.length - (q + 1) < a.accept.length - q; omega), Ent.frD (X := [.cells 0 [aIs .any r]]) ⟨(by kernel_rfl), (by kernel_rfl), (by kernel_rfl), (by kernel_rfl), inc_slot (i := q) (by omega), trivial⟩ ?_ (Nat.le_of_ble_eq_true (by kernel_rfl)) (by first | (simp [frBel, blksBel, Blk.bel, AV.bel, bels, bels_append, bels_map, aSs_bel, aIs_bel, aBs_bel, aRs_bel, aDen_bel, cells_bel]; done) | (simp only [List.drop_zero, ← List.map_take, ← List.map_drop, List.map_map, frBel, blksBel, Blk.bel, AV.bel, bels, bels_append, bels_map, aSs_bel, aIs_bel, aBs_bel, aRs_bel, aDen_bel, cells_bel]; simp [AV.bel, aSs_bel, aIs_bel, aBs_bel, aRs_bel, aDen_bel, cells_bel])) ?_⟩
      · refine Eq.trans (b := [.cells 0 a.cells, .cells 0 [.sl .nil 0 [], .sl .nil 0 [], .sl .nil 0 []], .cells 0 [aSs .any a.tracks, aBs .any a.accept, .hs 3 (q + 1) 0 (q + 1) 1], Blk.cells (q + 1) (((((rs).map fun r => aIs r.1 r.2)).drop 0).take (q * 1) ++ [aIs .any r]), .cells 0 [aIs .any r]]) (by kernel_rfl) ?_
        show _ = [.cells 0 a.cells, .cells 0 [.sl .nil 0 [], .sl .nil 0 [], .sl .nil 0 []], .cells 0 [aSs .any a.tracks, aBs .any a.accept, .hs 3 ((q + 1)) 0 ((q + 1)) 1], Blk.cells ((q + 1)) ((unR a (q + 1)).map fun r => aIs r.1 r.2)] ++ [.cells 0 [aIs .any r]]
        rw [hs, List.drop_zero, List.take_of_length_le (by simp [hl]), List.map_append]
        rfl
      · simp [blksBel, Blk.bel, bels, AV.bel, Aut.cells, bels_map, aSs_bel, aBs_bel, aIs_bel]
    · have hqa : q = a.accept.length := by have := h; simp at this; omega
      subst hqa
      repeat first | refine opsStep ?_ | refine codeStep ?_ | refine drawStep ?_
      exact finR (l := [(2, .ref 1 0 0), (3, .int .i64 0)]) (H₁ := [.cells 0 a.cells, .cells 0 [aSs .any a.tracks, aBs .any a.accept, .hs 3 a.accept.length 0 a.accept.length 1], .cells 0 [aSs .any a.tracks, aBs .any a.accept, .hs 3 a.accept.length 0 a.accept.length 1], Blk.cells a.accept.length ((unR a a.accept.length).map fun r => aIs r.1 r.2)]) (v := .tup [.agg [aSs .any a.tracks, aBs .any a.accept, .hs 3 a.accept.length 0 a.accept.length 1], .int .i64 0]) ⟨(by kernel_rfl), (by kernel_rfl), trivial⟩ (by kernel_rfl) (Ent.refl _ _ _) (by kernel_rfl) ⟨rfl, _, _, _, rfl⟩
  · rintro o H' ⟨rfl, b0, b1, b2, rfl⟩
    refine ⟨_, rfl, .tup (.cons (.agg (.cons (.refl _) (.cons (.refl _) (.cons ?_ .nil)))) (.cons (.refl _) .nil))⟩
    show Rd _ _ (aRs .any (unR a a.accept.length))
    have hl := unR_length a a.accept.length
    rw [aRs, hl]
    exact Rd.whole rfl (by simp [hl])

end Tab

/- tabardref11.Right; tabardref12.Unpack, Same. -/
namespace Tab
open Go Go.Proofs
set_option maxRecDepth 10000
set_option linter.unusedVariables false
set_option linter.unusedSimpArgs false
set_option linter.unusedSectionVars false

theorem r11_Right (kc : SK) (cs : List Cb) (k n : Nat) (hk : k ≤ 6) (hl : cs.length < 2^40) (ho : ∀ c ∈ cs, okC c) : Pure Tryz.prog 33 [aCs kc cs, .int .i64 k, .int .i64 n] (.bool (cubesOk cs k && (rowC cs k).all fun x => decide (x < n))) := by
  have hu := r11_Unpack kc cs k hk hl ho
  have hq : 2 ^ k ≤ 2 ^ 6 := Nat.pow_le_pow_right (by omega) (by omega)
  have hrl := rowC_length cs k
  cases hc : cubesOk cs k with
  | false =>
    rw [rowU_bad hc] at hu
    refine Pure.of_sw 30 Tryz.func33 rfl Tryz.ntmps33 (by kernel_rfl) (Nat.le_of_ble_eq_true (by kernel_rfl)) (by simp [closeds, AV.closed, aSs_closed, aIs_closed, aBs_closed, aRs_closed, aDen_closed, aCs_closed, aAut_closed]) (by simp [AV.closed, closeds, aSs_closed, aIs_closed, aBs_closed, aRs_closed, aDen_closed, aCs_closed, aAut_closed]) ?_; refine SW.of_vc ?_
    repeat first | refine opsStep ?_ | refine codeStep ?_ | refine drawStep ?_
    refine callP hu ?_
    repeat first | refine opsStep ?_ | refine codeStep ?_ | refine drawStep ?_
    exact finB (b' := false) (by kernel_rfl) (by simp)
  | true =>
    rw [rowU_ok hc] at hu
    generalize rowC cs k = r at *
    refine Pure.of_sw 30 Tryz.func33 rfl Tryz.ntmps33 (by kernel_rfl) (Nat.le_of_ble_eq_true (by kernel_rfl)) (by simp [closeds, AV.closed, aSs_closed, aIs_closed, aBs_closed, aRs_closed, aDen_closed, aCs_closed, aAut_closed]) (by simp [AV.closed, closeds, aSs_closed, aIs_closed, aBs_closed, aRs_closed, aDen_closed, aCs_closed, aAut_closed]) ?_; refine SW.of_vc ?_
    repeat first | refine opsStep ?_ | refine codeStep ?_ | refine drawStep ?_
    refine callP hu ?_
    repeat first | refine opsStep ?_ | refine codeStep ?_ | refine drawStep ?_
    refine loopE_of (ι := {i : Nat // i ≤ r.length ∧ ∀ x ∈ r.take i, x < (n : Int)}) (fun i => (fr [(2, .int .i64 n), (7, aIs .any r), (9, .int .i64 i.1)], [])) (fun i => r.length - i.1) ⟨0, by omega, by simp⟩ (Ent.fr' ⟨(by kernel_rfl), (by kernel_rfl), (by kernel_rfl), trivial⟩ (by kernel_rfl)) ?_
    rintro ⟨i, hi, hpre⟩
    repeat first | refine opsStep ?_ | refine codeStep ?_ | refine drawStep ?_
    refine decB_dec (fun h => ?_) (fun h => ?_)
    · have hia : i < r.length := by have := h; simp at this; omega
      repeat first | refine opsStep ?_ | refine codeStep ?_ | refine drawStep ?_
      refine guardE_of (by simp; omega) ?_
      repeat first | refine opsStep ?_ | refine codeStep ?_ | refine drawStep ?_
      refine optE_of (c := .int .i64 r[i]) (by simp [Value.cells, hia]) ?_
      repeat first | refine opsStep ?_ | refine codeStep ?_ | refine drawStep ?_
      refine decB_dec (fun h2 => ?_) (fun h2 => ?_)
      · have h2 : r[i] ≥ (n : Int) := h2
        repeat first | refine opsStep ?_ | refine codeStep ?_ | refine drawStep ?_
        refine finB (b' := false) (by kernel_rfl) ?_
        rw [Bool.true_and]
        refine (Bool.eq_false_iff.2 fun hh => ?_).symm
        have := List.all_eq_true.1 hh _ (List.getElem_mem hia)
        simp at this; omega
      · have h2 : ¬ r[i] ≥ (n : Int) := h2
        repeat first | refine opsStep ?_ | refine codeStep ?_ | refine drawStep ?_
        refine ⟨⟨i + 1, by omega, fun x hx => ?_⟩, (by show r.length - (i + 1) < r.length - i; omega), Ent.fr' ⟨(by kernel_rfl), (by kernel_rfl), inc_slot (i := i) (by omega), trivial⟩ (by kernel_rfl)⟩
        rw [List.take_succ_eq_append_getElem hia] at hx
        rcases List.mem_append.1 hx with hx | hx
        · exact hpre x hx
        · simp at hx; omega
    · have hie : i = r.length := by have := h; simp at this; omega
      subst hie
      rw [List.take_length] at hpre
      repeat first | refine opsStep ?_ | refine codeStep ?_ | refine drawStep ?_
      exact finB (b' := true) (by kernel_rfl) (by rw [Bool.true_and]; exact (List.all_eq_true.2 fun x hx => by simpa using hpre x hx).symm)

theorem r12_Unpack (a : Aut) (ha : AutOk a) : Pure Tryz.prog 17 [aAut a] (.tup [aDen (unpD a), .bool (checkS a)]) := by
  have h1 := ha.tracks
  have h2 := ha.accept
  have h3 := ha.starts
  have h4 := ha.arena
  have hT := r12_Frame a.tk a.tracks a.accept.length (by omega) (fun s hs => by have := ha.names s hs; omega)
  have hfb : frameS a = false → checkS a = false := fun h => by rw [checkS, h]; rfl
  have hrb : ∀ q, q < a.accept.length → rowOkS a q = false → checkS a = false := fun q hq h => by
    rw [checkS, ← Bool.not_eq_true, Bool.and_eq_true, List.all_eq_true]
    rintro ⟨_, k⟩
    have := k q (List.mem_range.2 hq)
    rw [h] at this; simp at this
  have hgood : frameS a = true → (∀ i, i < a.accept.length → rowOkS a i = true) → checkS a = true := fun h1 h2 => by
    rw [checkS, h1, Bool.true_and, List.all_eq_true]
    intro i hi
    exact h2 i (List.mem_range.1 hi)
  have hval : ∀ c, checkS a = c → unpD a = if c = true then ⟨.any, a.tracks, .any, a.accept, .any, unR a a.accept.length⟩ else den0 := fun c h => by
    subst h
    by_cases hc : checkS a = true
    · rw [if_pos hc, unpD_ok hc]; rfl
    · rw [if_neg hc, unpD_bad (by simpa using hc)]
  generalize hck : checkS a = ck at *
  have hval := hval ck rfl
  rw [hval]
  have hw : IntKind.wrap .i64 ((a.accept.length : Int) + 1) = ((a.accept.length + 1 : Nat) : Int) := by rw [IntWalk.i64_in _ (by omega)]; simp
  refine Pure.of_read (by simp [closeds, aAut_closed]) (by split <;> simp [AV.closed, closeds, aDen_closed]) (R := fun o H' => (ck = false ∧ o = .ret (.tup [aDen den0, .bool false])) ∨ (ck = true ∧ o = .ret (.tup [.agg [aSs .any a.tracks, aBs .any a.accept, .hs 5 a.accept.length 0 a.accept.length 1], .bool true]) ∧ ∃ b0 b1 b2 b3 b4, H' = [b0, b1, b2, b3, b4, .cells a.accept.length ((unR a a.accept.length).map fun r => aIs r.1 r.2)])) ?_ ?_
  rotate_left
  · rintro o H' (⟨h, rfl⟩ | ⟨h, rfl, b0, b1, b2, b3, b4, rfl⟩)
    · exact ⟨_, rfl, by rw [h]; exact .refl _⟩
    · refine ⟨_, rfl, ?_⟩
      rw [h]
      refine .tup (.cons (.agg (.cons (.refl _) (.cons (.refl _) (.cons ?_ .nil)))) (.cons (.refl _) .nil))
      show Rd _ _ (aRs .any (unR a a.accept.length))
      have hl := unR_length a a.accept.length
      rw [aRs, hl]
      exact Rd.whole rfl (by simp [hl])
  refine ACall.of_sw 120 Tryz.func17 rfl Tryz.ntmps17 (by kernel_rfl) (Nat.le_of_ble_eq_true (by kernel_rfl)) ?_; refine SW.of_vc ?_
  repeat first | refine opsStep ?_ | refine codeStep ?_ | refine drawStep ?_
  refine SW.drawn rfl (by kernel_rfl) ?_
  repeat first | refine opsStep ?_ | refine codeStep ?_ | refine drawStep ?_
  refine .inl ⟨_, _, [], hT, RdsN_refl _, .inr rfl, none_need, ?_⟩
  cases ht : tracksS a.tracks a.accept.length with
  | false =>
    repeat first | refine opsStep ?_ | refine codeStep ?_ | refine drawStep ?_
    refine ⟨by kernel_rfl, ?_⟩
    repeat first | refine opsStep ?_ | refine codeStep ?_ | refine drawStep ?_
    exact finR (l := [(2, .ref 1 0 0), (3, .bool false)]) (H₁ := [.cells 0 a.cells, .cells 0 [.sl .nil 0 [], .sl .nil 0 [], .sl .nil 0 []]]) (v := .tup [aDen den0, .bool false]) ⟨(by kernel_rfl), (by kernel_rfl), trivial⟩ (by kernel_rfl) (Ent.refl _ _ _) (by kernel_rfl) (.inl ⟨hfb (by rw [frameS, ht]; rfl), rfl⟩)
  | true =>
    have k6 := (tracksS_parts ht).1
    have kp := (tracksS_parts ht).2.2.1
    have k256 := (tracksS_parts ht).2.2.2
    repeat first | refine opsStep ?_ | refine codeStep ?_ | refine drawStep ?_
    refine decB_dec (fun hl => ?_) (fun hl => ?_)
    · repeat first | refine opsStep ?_ | refine codeStep ?_ | refine drawStep ?_
      refine ⟨by kernel_rfl, ?_⟩
      repeat first | refine opsStep ?_ | refine codeStep ?_ | refine drawStep ?_
      exact finR (l := [(2, .ref 1 0 0), (3, .bool false)]) (H₁ := [.cells 0 a.cells, .cells 0 [.sl .nil 0 [], .sl .nil 0 [], .sl .nil 0 []]]) (v := .tup [aDen den0, .bool false]) ⟨(by kernel_rfl), (by kernel_rfl), trivial⟩ (by kernel_rfl) (Ent.refl _ _ _) (by kernel_rfl) (.inl ⟨hfb (by rw [frameS, decide_eq_false (show ¬ a.starts.length = a.accept.length + 1 by rw [hw] at hl; omega)]; simp), rfl⟩)
    have hl : a.starts.length = a.accept.length + 1 := by rw [hw] at hl; omega
    obtain ⟨z0, hz0⟩ : ∃ z, a.starts[0]? = some z := ⟨_, List.getElem?_eq_getElem (show 0 < a.starts.length by omega)⟩
    obtain ⟨zn, hzn⟩ : ∃ z, a.starts[a.accept.length]? = some z := ⟨_, List.getElem?_eq_getElem (show a.accept.length < a.starts.length by omega)⟩
    have g0 : a.starts.getD 0 0 = z0 := by rw [List.getD_eq_getElem?_getD, hz0]; rfl
    have gn : a.starts.getD a.accept.length 0 = zn := by rw [List.getD_eq_getElem?_getD, hzn]; rfl
    repeat first | refine opsStep ?_ | refine codeStep ?_ | refine drawStep ?_
    refine guardE_of (by simp; omega) ?_
    repeat first | refine opsStep ?_ | refine codeStep ?_ | refine drawStep ?_
    refine optE_of (c := .int .i64 z0) (by simp [Value.cells, hz0]) ?_
    repeat first | refine opsStep ?_ | refine codeStep ?_ | refine drawStep ?_
    refine decB_dec (fun h0 => ?_) (fun h0 => ?_)
    · repeat first | refine opsStep ?_ | refine codeStep ?_ | refine drawStep ?_
      refine ⟨by kernel_rfl, ?_⟩
      repeat first | refine opsStep ?_ | refine codeStep ?_ | refine drawStep ?_
      exact finR (l := [(2, .ref 1 0 0), (3, .bool false)]) (H₁ := [.cells 0 a.cells, .cells 0 [.sl .nil 0 [], .sl .nil 0 [], .sl .nil 0 []]]) (v := .tup [aDen den0, .bool false]) ⟨(by kernel_rfl), (by kernel_rfl), trivial⟩ (by kernel_rfl) (Ent.refl _ _ _) (by kernel_rfl) (.inl ⟨hfb (by rw [frameS, g0, decide_eq_false h0]; simp), rfl⟩)
    have h0 : z0 = 0 := Decidable.of_not_not h0
    repeat first | refine opsStep ?_ | refine codeStep ?_ | refine drawStep ?_
    refine guardE_of (by simp; omega) ?_
    repeat first | refine opsStep ?_ | refine codeStep ?_ | refine drawStep ?_
    refine optE_of (c := .int .i64 zn) (by simp [Value.cells, hzn]) ?_
    repeat first | refine opsStep ?_ | refine codeStep ?_ | refine drawStep ?_
    refine ⟨by kernel_rfl, ?_⟩
    repeat first | refine opsStep ?_ | refine codeStep ?_ | refine drawStep ?_
    refine decB_dec (fun hn => ?_) (fun hn => ?_)
    · skip
      repeat first | refine opsStep ?_ | refine codeStep ?_ | refine drawStep ?_
      exact finR (l := [(2, .ref 1 0 0), (3, .bool false)]) (H₁ := [.cells 0 a.cells, .cells 0 [.sl .nil 0 [], .sl .nil 0 [], .sl .nil 0 []]]) (v := .tup [aDen den0, .bool false]) ⟨(by kernel_rfl), (by kernel_rfl), trivial⟩ (by kernel_rfl) (Ent.refl _ _ _) (by kernel_rfl) (.inl ⟨hfb (by rw [frameS, gn, decide_eq_false hn]; simp), rfl⟩)
    have hn : zn = a.arena.length := Decidable.of_not_not hn
    repeat first | refine opsStep ?_ | refine codeStep ?_ | refine drawStep ?_
    refine loopE_of (ι := {q : Nat // q ≤ a.accept.length ∧ ∀ i, i < q → ∀ h : i + 1 < a.starts.length, a.starts[i] ≤ a.starts[i + 1]})
      (fun q => (fr [(1, .ref 0 0 0), (2, .ref 1 0 0), (4, .int .i64 a.accept.length), (5, .int .i64 q.1)], [.cells 0 a.cells, .cells 0 [.sl .nil 0 [], .sl .nil 0 [], .sl .nil 0 []]])) (fun q => a.accept.length - q.1) ⟨0, by omega, fun i h => by omega⟩ (Ent.fr' ⟨(by kernel_rfl), (by kernel_rfl), (by kernel_rfl), (by kernel_rfl), trivial⟩ (by kernel_rfl)) ?_
    rintro ⟨q, hq, hpre⟩
    repeat first | refine opsStep ?_ | refine codeStep ?_ | refine drawStep ?_
    refine decB_dec (fun hqn => ?_) (fun hqn => ?_)
    · have hqa : q < a.accept.length := by have := hqn; simp at this; omega
      have hw2 : IntKind.wrap .i64 ((q : Int) + 1) = ((q + 1 : Nat) : Int) := by rw [IntWalk.i64_in _ (by omega)]; simp
      have hs1 : q < a.starts.length := by omega
      have hs2 : q + 1 < a.starts.length := by omega
      repeat first | refine opsStep ?_ | refine codeStep ?_ | refine drawStep ?_
      refine SW.drawn rfl (by kernel_rfl) ?_
      repeat first | refine opsStep ?_ | refine codeStep ?_ | refine drawStep ?_
      refine guardE_of (by simp; omega) ?_
      repeat first | refine opsStep ?_ | refine codeStep ?_ | refine drawStep ?_
      refine optE_of (c := .int .i64 a.starts[q]) (by simp [Value.cells, hs1]) ?_
      repeat first | refine opsStep ?_ | refine codeStep ?_ | refine drawStep ?_
      refine guardE_of (by rw [hw2]; simp; omega) ?_
      repeat first | refine opsStep ?_ | refine codeStep ?_ | refine drawStep ?_
      refine optE_of (c := .int .i64 a.starts[q + 1]) (by rw [hw2, Int.toNat_natCast]; simp [Value.cells, hs2]) ?_
      repeat first | refine opsStep ?_ | refine codeStep ?_ | refine drawStep ?_
      refine ⟨by kernel_rfl, ?_⟩
      repeat first | refine opsStep ?_ | refine codeStep ?_ | refine drawStep ?_
      refine decB_dec (fun hgt => ?_) (fun hgt => ?_)
      · have hgt : a.starts[q] > a.starts[q + 1] := hgt
        repeat first | refine opsStep ?_ | refine codeStep ?_ | refine drawStep ?_
        exact finR (l := [(2, .ref 1 0 0), (3, .bool false)]) (H₁ := [.cells 0 a.cells, .cells 0 [.sl .nil 0 [], .sl .nil 0 [], .sl .nil 0 []]]) (v := .tup [aDen den0, .bool false]) ⟨(by kernel_rfl), (by kernel_rfl), trivial⟩ (by kernel_rfl) (Ent.refl _ _ _) (by kernel_rfl) (.inl ⟨hfb (by
                  cases hso : sortedI a.starts with
                  | false => rw [frameS, hso]; simp
                  | true => have := sorted_get hso q hs2; omega), rfl⟩)
      have hgt : ¬ a.starts[q] > a.starts[q + 1] := hgt
      repeat first | refine opsStep ?_ | refine codeStep ?_ | refine drawStep ?_
      refine ⟨⟨q + 1, by omega, fun i hi h => ?_⟩, (by show a.accept.length - (q + 1) < a.accept.length - q; omega), Ent.fr' ⟨(by kernel_rfl), (by kernel_rfl), (by kernel_rfl), inc_slot (i := q) (by omega), trivial⟩ (by kernel_rfl)⟩
      by_cases e : i = q
      · subst e; omega
      · exact hpre i (by omega) h
    have hqa : q = a.accept.length := by have := hqn; simp at this; omega
    subst hqa
    have hso : sortedI a.starts = true := sorted_of fun i h => hpre i (by omega) h
    have hf : FrameOk a := ⟨ht, hl, by rw [g0, h0], by rw [gn, hn], hso⟩
    repeat first | refine opsStep ?_ | refine codeStep ?_ | refine drawStep ?_
    refine SW.drawn rfl (by kernel_rfl) ?_
    repeat first | refine opsStep ?_ | refine codeStep ?_ | refine drawStep ?_
    refine guardE_of (by simp [Value.cells]) ?_
    refine guardE_of ⟨by omega, by show (0 + a.tracks.length) * 16 ≤ 140737488355328; omega⟩ ?_
    repeat first | refine opsStep ?_ | refine codeStep ?_ | refine drawStep ?_
    refine guardE_of (by simp [Value.cells]) ?_
    refine guardE_of ⟨by omega, by show (0 + a.accept.length) * 1 ≤ 140737488355328; omega⟩ ?_
    repeat first | refine opsStep ?_ | refine codeStep ?_ | refine drawStep ?_
    refine ⟨by kernel_rfl, ?_⟩
    repeat first | refine opsStep ?_ | refine codeStep ?_ | refine drawStep ?_
    have hinit : ∀ (nt : Fr) (s : Slots) (H : List Blk), nt.k = 0 → frOk s [(1, .ref 0 0 0), (2, .ref 1 0 0), (4, .int .i64 a.accept.length), (6, .ref 4 0 0), (7, .int .i64 (0 : Nat))] →
        H = [.cells 0 a.cells, .cells 0 [.sl .nil 0 [], .sl .nil 0 [], .sl .nil 0 []], .cells 1 (a.tracks.map .str), .cells 1 (a.accept.map .bool), .cells 0 [.hs 2 1 0 (0 + a.tracks.length) 1, .hs 3 1 0 (0 + a.accept.length) 1, .sl .nil 0 []]] →
        Ent nt s H (fr [(1, .ref 0 0 0), (2, .ref 1 0 0), (4, .int .i64 a.accept.length), (6, .ref 4 0 0), (7, .int .i64 (0 : Nat))]) [.cells 0 a.cells, .cells 0 [.sl .nil 0 [], .sl .nil 0 [], .sl .nil 0 []], .fro 1 (a.tracks.map .str), .fro 1 (a.accept.map .bool), .cells 0 [aSs .any a.tracks, aBs .any a.accept, .hs 5 (0) 0 (0) 1], Blk.cells (0) ((unR a 0).map fun r => aIs r.1 r.2)] := by
      intro nt s H hk hf hH
      subst hH
      rw [Nat.zero_add, Nat.zero_add]
      exact ((((Ent.fr hf).trans (Ent.freezeCell 4 0 (b := 2) rfl rfl rfl (by omega) (by simp))).trans (Ent.freezeCell 4 1 (b := 3) rfl rfl rfl (by omega) (by simp))).trans (Ent.nilCell 4 2 1 rfl rfl)).to (by kernel_rfl)
    refine loopE_of (ι := {q : Nat // q ≤ a.accept.length ∧ ∀ i, i < q → rowOkS a i = true}) (fun q => (fr [(1, .ref 0 0 0), (2, .ref 1 0 0), (4, .int .i64 a.accept.length), (6, .ref 4 0 0), (7, .int .i64 q.1)], [.cells 0 a.cells, .cells 0 [.sl .nil 0 [], .sl .nil 0 [], .sl .nil 0 []], .fro 1 (a.tracks.map .str), .fro 1 (a.accept.map .bool), .cells 0 [aSs .any a.tracks, aBs .any a.accept, .hs 5 (q.1) 0 (q.1) 1], Blk.cells (q.1) ((unR a q.1).map fun r => aIs r.1 r.2)])) (fun q => a.accept.length - q.1) ⟨0, by omega, fun i h => by omega⟩ (hinit _ _ _ rfl ⟨(by kernel_rfl), (by kernel_rfl), (by kernel_rfl), (by kernel_rfl), (by kernel_rfl), trivial⟩ (by kernel_rfl)) ?_
    clear hinit hpre hq hqn
    rintro ⟨q, hq, hpre⟩
    repeat first | refine opsStep ?_ | refine codeStep ?_ | refine drawStep ?_
    refine decB_dec (fun hqn => ?_) (fun hqn => ?_)
    · have hqa : q < a.accept.length := by have := hqn; simp at this; omega
      obtain ⟨p1, _⟩ := hf.get (q := q) (by omega)
      obtain ⟨p3, p4⟩ := hf.get (q := q + 1) (by omega)
      have hle := hf.le hqa
      have l1 := (List.getElem?_eq_some_iff.1 p1).1
      have l2 := (List.getElem?_eq_some_iff.1 p3).1
      have hw2 : IntKind.wrap .i64 ((q : Int) + 1) = ((q + 1 : Nat) : Int) := by rw [IntWalk.i64_in _ (by omega)]; simp
      have hrow : aCs a.ck.cut (a.row q) = .sl a.ck.cut ((a.st (q + 1) : Int).toNat - (a.st q : Int).toNat) (((cc3 a.arena).drop ((a.st q : Int).toNat * 3)).take (((a.st (q + 1) : Int).toNat - (a.st q : Int).toNat) * 3)) := by
        rw [Int.toNat_natCast, Int.toNat_natCast, cc3_drop, cc3_take, aCs, Aut.row]
        congr 1
        simp; omega
      have hcl : (a.row q).length = (a.st (q + 1) : Int).toNat - (a.st q : Int).toNat := by simp [Aut.row]; omega
      have hRt := fun h => r11_Right a.ck.cut (a.row q) a.tracks.length a.accept.length k6 h fun c hc => ha.cubes c (row_mem c hc)
      have hUn := fun h => r11_Unpack a.ck.cut (a.row q) a.tracks.length k6 h fun c hc => ha.cubes c (row_mem c hc)
      have hrowS : rowOkS a q = (decide ((a.row q).length ≤ 32) && (cubesOk (a.row q) a.tracks.length && (rowC (a.row q) a.tracks.length).all fun x => decide (x < a.accept.length))) := by rw [rowOkS, Bool.and_assoc]
      have hs := unR_succ a q
      have hlu := unR_length a q
      have hrb := hrb q hqa
      rw [hrow] at hRt hUn
      rw [hcl] at hRt hUn hrowS
      generalize a.row q = cs at *
      generalize unR a q = rs at *
      generalize hx : a.st q = x at *
      generalize hy : a.st (q + 1) = y at *
      repeat first | refine opsStep ?_ | refine codeStep ?_ | refine drawStep ?_
      refine SW.drawn rfl (by kernel_rfl) ?_
      repeat first | refine opsStep ?_ | refine codeStep ?_ | refine drawStep ?_
      refine guardE_of (by simp; omega) ?_
      repeat first | refine opsStep ?_ | refine codeStep ?_ | refine drawStep ?_
      refine optE_of (c := .int .i64 (x : Nat)) (by simp [Value.cells, p1]) ?_
      repeat first | refine opsStep ?_ | refine codeStep ?_ | refine drawStep ?_
      refine guardE_of (by rw [hw2]; simp; omega) ?_
      repeat first | refine opsStep ?_ | refine codeStep ?_ | refine drawStep ?_
      refine optE_of (c := .int .i64 (y : Nat)) (by rw [hw2, Int.toNat_natCast]; simp [Value.cells, p3]) ?_
      repeat first | refine opsStep ?_ | refine codeStep ?_ | refine drawStep ?_
      refine guardE_of (by simp; omega) ?_
      repeat first | refine opsStep ?_ | refine codeStep ?_ | refine drawStep ?_
      refine ⟨by kernel_rfl, ?_⟩
      repeat first | refine opsStep ?_ | refine codeStep ?_ | refine drawStep ?_
      refine decB_dec (fun h32 => ?_) (fun h32 => ?_)
      · have h32 : (((y : Int).toNat - (x : Int).toNat : Nat) : Int) > 32 := h32
        repeat first | refine opsStep ?_ | refine codeStep ?_ | refine drawStep ?_
        exact finR (l := [(2, .ref 1 0 0), (3, .bool false)]) (H₁ := [.cells 0 a.cells, .cells 0 [.sl .nil 0 [], .sl .nil 0 [], .sl .nil 0 []], .fro 1 (a.tracks.map .str), .fro 1 (a.accept.map .bool), .cells 0 [aSs .any a.tracks, aBs .any a.accept, .hs 5 (q) 0 (q) 1], Blk.cells (q) ((rs).map fun r => aIs r.1 r.2)]) (v := .tup [aDen den0, .bool false]) ⟨(by kernel_rfl), (by kernel_rfl), trivial⟩ (by kernel_rfl) (Ent.refl _ _ _) (by kernel_rfl) (.inl ⟨hrb (by rw [hrowS, decide_eq_false (by omega)]; rfl), rfl⟩)
      have h32 : (y : Int).toNat - (x : Int).toNat ≤ 32 := by
        have h32 : ¬ (((y : Int).toNat - (x : Int).toNat : Nat) : Int) > 32 := h32
        omega
      have hRt2 := hRt (by omega)
      have hUn2 := hUn (by omega)
      rw [decide_eq_true h32, Bool.true_and] at hrowS
      rw [← hrowS] at hRt2
      cases hb : rowOkS a q with
      | false =>
        rw [hb] at hRt2
        repeat first | refine opsStep ?_ | refine codeStep ?_ | refine drawStep ?_
        refine callP hRt2 ?_
        repeat first | refine opsStep ?_ | refine codeStep ?_ | refine drawStep ?_
        exact finR (l := [(2, .ref 1 0 0), (3, .bool false)]) (H₁ := [.cells 0 a.cells, .cells 0 [.sl .nil 0 [], .sl .nil 0 [], .sl .nil 0 []], .fro 1 (a.tracks.map .str), .fro 1 (a.accept.map .bool), .cells 0 [aSs .any a.tracks, aBs .any a.accept, .hs 5 (q) 0 (q) 1], Blk.cells (q) ((rs).map fun r => aIs r.1 r.2)]) (v := .tup [aDen den0, .bool false]) ⟨(by kernel_rfl), (by kernel_rfl), trivial⟩ (by kernel_rfl) (Ent.refl _ _ _) (by kernel_rfl) (.inl ⟨hrb hb, rfl⟩)
      | true =>
        rw [hb] at hRt2 hrowS
        have hcu := (Bool.and_eq_true_iff.1 hrowS.symm).1
        rw [rowU_ok hcu] at hUn2
        generalize rowC cs a.tracks.length = r at *
        repeat first | refine opsStep ?_ | refine codeStep ?_ | refine drawStep ?_
        refine callP hRt2 ?_
        repeat first | refine opsStep ?_ | refine codeStep ?_ | refine drawStep ?_
        refine callP hUn2 ?_
        repeat first | refine opsStep ?_ | refine codeStep ?_ | refine drawStep ?_
        refine guardE_of ⟨rfl, by simp [hlu]⟩ ?_
        repeat first | refine opsStep ?_ | refine codeStep ?_ | refine drawStep ?_
        refine guardE_of rfl ?_
        repeat first | refine opsStep ?_ | refine codeStep ?_ | refine drawStep ?_
        refine guardE_of ⟨by omega, by show (q + 1) * 24 ≤ 140737488355328; omega⟩ ?_
        repeat first | refine opsStep ?_ | refine codeStep ?_ | refine drawStep ?_
        refine ⟨⟨q + 1, by omega, fun i hi => ?_⟩, (by show a.accept.length - (q + 1) < a.accept.length - q; omega), Ent.frD (X := [.cells 0 [aIs .any r]]) ⟨(by kernel_rfl), (by kernel_rfl), (by kernel_rfl), (by kernel_rfl), inc_slot (i := q) (by omega), trivial⟩ ?_ (Nat.le_of_ble_eq_true (by kernel_rfl)) (by first | (simp [frBel, blksBel, Blk.bel, AV.bel, bels, bels_append, bels_map, aSs_bel, aIs_bel, aBs_bel, aRs_bel, aDen_bel, cells_bel]; done) | (simp only [List.drop_zero, ← List.map_take, ← List.map_drop, List.map_map, frBel, blksBel, Blk.bel, AV.bel, bels, bels_append, bels_map, aSs_bel, aIs_bel, aBs_bel, aRs_bel, aDen_bel, cells_bel]; simp [AV.bel, aSs_bel, aIs_bel, aBs_bel, aRs_bel, aDen_bel, cells_bel])) ?_⟩
        · by_cases e : i = q
          · subst e; exact hb
          · exact hpre i (by omega)
        · refine Eq.trans (b := [.cells 0 a.cells, .cells 0 [.sl .nil 0 [], .sl .nil 0 [], .sl .nil 0 []], .fro 1 (a.tracks.map .str), .fro 1 (a.accept.map .bool), .cells 0 [aSs .any a.tracks, aBs .any a.accept, .hs 5 (q + 1) 0 (q + 1) 1], Blk.cells (q + 1) (((((rs).map fun r => aIs r.1 r.2)).drop 0).take (q * 1) ++ [aIs .any r]), .cells 0 [aIs .any r]]) (by kernel_rfl) ?_
          show _ = [.cells 0 a.cells, .cells 0 [.sl .nil 0 [], .sl .nil 0 [], .sl .nil 0 []], .fro 1 (a.tracks.map .str), .fro 1 (a.accept.map .bool), .cells 0 [aSs .any a.tracks, aBs .any a.accept, .hs 5 ((q + 1)) 0 ((q + 1)) 1], Blk.cells ((q + 1)) ((unR a (q + 1)).map fun r => aIs r.1 r.2)] ++ [.cells 0 [aIs .any r]]
          rw [hs, List.drop_zero, List.take_of_length_le (by simp [hlu]), List.map_append]
          rfl
        · simp [blksBel, Blk.bel, bels, AV.bel, Aut.cells, bels_map, aSs_bel, aBs_bel, aIs_bel]
    · have hqa : q = a.accept.length := by have := hqn; simp at this; omega
      subst hqa
      repeat first | refine opsStep ?_ | refine codeStep ?_ | refine drawStep ?_
      exact finR (l := [(2, .ref 1 0 0), (3, .bool true)]) (H₁ := [.cells 0 a.cells, .cells 0 [aSs .any a.tracks, aBs .any a.accept, .hs 5 a.accept.length 0 a.accept.length 1], .fro 1 (a.tracks.map .str), .fro 1 (a.accept.map .bool), .cells 0 [aSs .any a.tracks, aBs .any a.accept, .hs 5 a.accept.length 0 a.accept.length 1], Blk.cells a.accept.length ((unR a a.accept.length).map fun r => aIs r.1 r.2)]) (v := .tup [.agg [aSs .any a.tracks, aBs .any a.accept, .hs 5 a.accept.length 0 a.accept.length 1], .bool true]) ⟨(by kernel_rfl), (by kernel_rfl), trivial⟩ (by kernel_rfl) (Ent.refl _ _ _) (by kernel_rfl) (.inr ⟨hgood (frameS_iff.2 hf) hpre, rfl, _, _, _, _, _, rfl⟩)

end Tab

/- Numbers named anew, as they are met. -/
namespace Tab
open Go Go.Proofs
set_option maxRecDepth 10000
set_option linter.unusedVariables false
set_option linter.unusedSimpArgs false
set_option linter.unusedSectionVars false

def denL (l : List Int) : List Int := (List.range l.length).map fun j => ((metL [] l).idxOf (l.getD j 0) : Int)

theorem keyI {x : Int} (h : -(2^63) ≤ x ∧ x < 2^63) : keyOf Tryz.prog 3 (.int .i64 x) = some (.int .i64 x) := by
  refine Maps.keyOf_int_mk (q := .i64) (by kernel_rfl) ?_
  simp only [Lit.wf, Bool.and_eq_true, decide_eq_true_eq, show IntKind.i64.min = -9223372036854775808 from rfl, show IntKind.i64.max = 9223372036854775807 from rfl]
  omega

end Tab

/- Places in a list of numbers. -/
namespace Tab
open Go Go.Proofs
set_option maxRecDepth 10000
set_option linter.unusedVariables false
set_option linter.unusedSimpArgs false
set_option linter.unusedSectionVars false

def idxI (l : List Int) (s : Int) : Int := if l.idxOf s < l.length then (l.idxOf s : Int) else -1
theorem idxI_hit {l : List Int} {s : Int} {i : Nat} (hi : i < l.length) (hn : s ∉ l.take i) (h : l[i] = s) : idxI l s = i := by
  have e : l = l.take i ++ l[i] :: l.drop (i + 1) := by simp
  have : l.idxOf s = i := by
    rw [e, List.idxOf_append, if_neg hn, h, List.idxOf_cons_self]
    simp; omega
  rw [idxI, this, if_pos hi]
theorem idxI_miss {l : List Int} {s : Int} (h : s ∉ l) : idxI l s = -1 := by
  rw [idxI, List.idxOf_eq_length h, if_neg (by omega)]

end Tab

/- A machine over more tracks, as a value. -/
namespace Tab
open Go Go.Proofs
set_option maxRecDepth 10000
set_option linter.unusedVariables false
set_option linter.unusedSimpArgs false
set_option linter.unusedSectionVars false

def widenD (d : Den) (names : List (List UInt8)) : Den := ⟨.any, names, .any, d.accept, .any, (d.rows.map (ovRow names.length (placesOf d.tracks names))).map fun r => (.any, r)⟩
@[irreducible] def widenR (d : Den) (names : List (List UInt8)) : Den := if widenE d names = 0 then widenD d names else den0
theorem widenR_ok {d names} (h : widenE d names = 0) : widenR d names = widenD d names := by rw [widenR, if_pos h]
theorem widenR_bad {d names} (h : widenE d names ≠ 0) : widenR d names = den0 := by rw [widenR, if_neg h]

theorem ovRow_length (n pl r) : (ovRow n pl r).length = 2 ^ n := by simp [ovRow]

theorem rd_row {H : List Blk} {b n : Nat} {r : List Int} (hb : H[b]? = some (.cells 0 (r.map (.int .i64)))) (hn : r.length = n) : Rd H (.hs b 0 0 n 1) (aIs .any r) := by
  rw [aIs, hn]
  exact Rd.whole hb (by simp [hn])

theorem wd_read (d : Den) (names : List (List UInt8)) (b0 b1 b2 b3 b4 b7 : Blk) : Rd (wdHeap d names b0 b1 b2 b3 b4 b7) (wdRes d names) (aDen (widenD d names)) := by
  have hl : d.rows.length = d.next.length := by simp [Den.rows]
  refine Rd.agg (.cons ?_ (.cons ?_ (.cons ?_ .nil)))
  · exact Rd.whole (b := 5) (g := 0) (cs := names.map .str) rfl (by simp)
  · exact Rd.whole (b := 6) (g := 0) (cs := d.accept.map .bool) rfl (by simp)
  · have e : aRs .any (widenD d names).next = .sl .any d.next.length ((d.rows.map (ovRow names.length (placesOf d.tracks names))).map (aIs .any)) := by
      simp [aRs, widenD, hl, Function.comp_def]
    have e : aRs (widenD d names).nk (widenD d names).next = .sl .any d.next.length ((d.rows.map (ovRow names.length (placesOf d.tracks names))).map (aIs .any)) := e
    rw [e]
    refine .hs (b := 8) (cs := (List.range d.next.length).map fun j => .hs (9 + j) 0 0 (2 ^ names.length) 1) rfl rfl (by simp) ?_
    rw [List.drop_zero, List.take_of_length_le (by simp)]
    refine Rds.of_get (by simp [hl]) fun i a a' ha ha' => ?_
    rw [List.getElem?_map, Option.map_eq_some_iff] at ha ha'
    obtain ⟨j, hj, rfl⟩ := ha
    obtain ⟨r, hr, rfl⟩ := ha'
    have hj' := List.getElem?_eq_some_iff.1 hj
    obtain ⟨hj1, hj2⟩ := hj'
    simp only [List.getElem_range] at hj2
    subst hj2
    refine rd_row ?_ ?_
    · rw [wdHeap, List.getElem?_append_right (by simp)]
      simp only [List.length_cons, List.length_nil, ovBlks, List.getElem?_map]
      rw [show 9 + i - (0 + 1 + 1 + 1 + 1 + 1 + 1 + 1 + 1 + 1) = i by omega]
      rw [List.getElem?_map] at hr
      rw [hr]; rfl
    · rw [List.getElem?_map, Option.map_eq_some_iff] at hr
      obtain ⟨x, _, rfl⟩ := hr
      exact ovRow_length _ _ _

theorem rd_den {H : List Blk} {a b c base n ga gb gc N M K : Nat} {names : List (List UInt8)} {acc : List Bool} {rows : List (List Int)} (h1 : H[a]? = some (.cells ga (names.map .str))) (h2 : H[b]? = some (.cells gb (acc.map .bool)))
    (h3 : H[c]? = some (.cells gc ((List.range rows.length).map fun j => .hs (base + j) 0 0 n 1))) (h4 : ∀ j r, rows[j]? = some r → H[base + j]? = some (.cells 0 (r.map (.int .i64))) ∧ r.length = n) (hN : N = names.length) (hM : M = acc.length) (hK : K = rows.length) :
    Rd H (.agg [.hs a ga 0 N 1, .hs b gb 0 M 1, .hs c gc 0 K 1]) (aDen ⟨.any, names, .any, acc, .any, rows.map fun r => (.any, r)⟩) := by
  subst hN hM hK
  refine Rd.agg (.cons ?_ (.cons ?_ (.cons ?_ .nil)))
  · exact Rd.whole (cs := names.map .str) h1 (by simp)
  · exact Rd.whole (cs := acc.map .bool) h2 (by simp)
  · have e : aRs .any (rows.map fun r => (SK.any, r)) = .sl .any rows.length (rows.map (aIs .any)) := by simp [aRs, Function.comp_def]
    show Rd H _ (aRs .any (rows.map fun r => (SK.any, r)))
    rw [e]
    refine .hs h3 rfl (by simp) ?_
    rw [List.drop_zero, List.take_of_length_le (by simp)]
    refine Rds.of_get (by simp) fun i a a' ha ha' => ?_
    rw [List.getElem?_map, Option.map_eq_some_iff] at ha ha'
    obtain ⟨j, hj, rfl⟩ := ha
    obtain ⟨r, hr, rfl⟩ := ha'
    obtain ⟨hj1, hj2⟩ := List.getElem?_eq_some_iff.1 hj
    simp only [List.getElem_range] at hj2
    subst hj2
    obtain ⟨k1, k2⟩ := h4 i r hr
    exact rd_row k1 k2

theorem track_Widen_pure (kn : SK) (d : Den) (names : List (List UInt8)) (hd : DenOk d) (hn : names.length * 16 ≤ 140737488351232) (hns : ∀ s ∈ names, s.length ≤ 140737488351232) :
    Pure Tryz.prog 30 [aDen d, aSs kn names] (.tup [aDen (widenR d names), .int .i64 (widenE d names)]) := by
  refine Pure.of_read (by simp [closeds, aDen_closed, aSs_closed]) (by simp [AV.closed, closeds, aDen_closed]) (track_Widen kn d names hd hn hns) ?_
  rintro o H' (⟨h, rfl⟩ | ⟨h, rfl, b0, b1, b2, b3, b4, b7, rfl⟩)
  · exact ⟨_, rfl, by rw [widenR_bad h]; exact .refl _⟩
  · refine ⟨_, rfl, ?_⟩
    rw [widenR_ok h, h]
    exact Rd.tup (.cons (wd_read d names b0 b1 b2 b3 b4 b7) (.cons (.refl _) .nil))

end Tab

/- A machine's copy. -/
namespace Tab
open Go Go.Proofs
set_option maxRecDepth 10000
set_option linter.unusedVariables false
set_option linter.unusedSimpArgs false
set_option linter.unusedSectionVars false

theorem copyD_rows (d : Den) : (copyD d).rows = d.rows := by simp [copyD, Den.rows, Function.comp_def]
theorem copyD_ok {d : Den} (hd : DenOk d) : DenOk (copyD d) := by
  refine ⟨hd.tracks, hd.names, hd.accept, ?_, ?_⟩
  · have := hd.next
    simpa [copyD, Den.rows] using this
  · intro r hr
    simp only [copyD, Den.rows, List.mem_map] at hr
    obtain ⟨x, ⟨y, hy, rfl⟩, rfl⟩ := hr
    exact hd.rows y hy
theorem copyD_right (d : Den) : rightS (copyD d) = rightS d := by
  simp only [rightS, copyD, Den.rows, List.length_map, List.all_map, Function.comp_def]
theorem copyD_same (d : Den) : sameD (copyD d) d = true := by
  rw [sameD_eq, copyD_rows]; simp [copyD]
theorem sameD_refl (d : Den) : sameD d d = true := by rw [sameD_eq]; simp

theorem den0_ok : DenOk den0 := ⟨by decide, by simp [den0], by decide, by decide, by simp [den0]⟩


end Tab

/- The document's machine over more tracks. -/
namespace Tab
open Go Go.Proofs
set_option maxRecDepth 10000
set_option linter.unusedVariables false
set_option linter.unusedSimpArgs false
set_option linter.unusedSectionVars false

def dig (a p : Nat) : Int := ((a / 2 ^ p % 2 : Nat) : Int)
theorem digN_get : ∀ (n a p : Nat), p < n → (digN a n)[p]? = some (dig a p)
  | n + 1, a, 0, _ => by simp [digN, dig]
  | n + 1, a, p + 1, h => by
    rw [digN, List.getElem?_cons_succ, digN_get n (a / 2) p (by omega)]
    simp only [dig, Nat.pow_succ, Nat.div_div_eq_div_mul, Nat.mul_comm]
theorem letS_dig (a : Nat) : ∀ (pl : List Nat), letS (pl.map (dig a)) = (gatN a pl : Nat)
  | [] => rfl
  | p :: pl => by rw [List.map_cons, letS, letS_dig a pl, gatN, dig]; omega
theorem dig_bit (a p : Nat) : 0 ≤ dig a p ∧ dig a p ≤ 1 := by unfold dig; omega

theorem r15_over (kn kp : SK) (d : Den) (names called : List (List UInt8)) (hd : DenOk d) (hn : names.length ≤ 6) (hp : called.length ≤ 6) (hc : ∀ s ∈ called, s ∈ names) (hrow : ∀ r ∈ d.next, r.2.length = 2 ^ called.length) :
    Pure Tryz.prog 39 [aDen d, aSs kn names, aSs kp called] (aDen ⟨.any, names, .any, d.accept, .any, (d.rows.map (ovRow names.length (placesOf called names))).map fun r => (.any, r)⟩) := by
  have h1 := hd.tracks
  have h2 := hd.accept
  have h3 := hd.next
  obtain ⟨q, hq⟩ : ∃ q, 2 ^ names.length = q := ⟨_, rfl⟩
  have hpow : q ≤ 64 := by rw [← hq]; exact Nat.pow_le_pow_right (by omega) hn
  have hlet : lettersS names.length = (q : Int) := by rw [lettersS_small (by omega), ← hq]; simp
  have hrl : d.rows.length = d.next.length := by simp [Den.rows]
  refine Pure.of_sw 77 Tryz.func39 rfl Tryz.ntmps39 (by kernel_rfl) (Nat.le_of_ble_eq_true (by kernel_rfl)) (by simp [closeds, AV.closed, aSs_closed, aIs_closed, aBs_closed, aRs_closed, aDen_closed]) (by simp [AV.closed, closeds, aSs_closed, aIs_closed, aBs_closed, aRs_closed, aDen_closed]) ?_; refine SW.of_vc ?_
  repeat first | refine opsStep ?_ | refine codeStep ?_ | refine drawStep ?_
  refine SW.drawn rfl (by kernel_rfl) ?_
  repeat first | refine opsStep ?_ | refine codeStep ?_ | refine drawStep ?_
  refine guardE_of (by simp [Value.cells]) ?_
  refine guardE_of ⟨by omega, by show (0 + names.length) * 16 ≤ 140737488355328; omega⟩ ?_
  repeat first | refine opsStep ?_ | refine codeStep ?_ | refine drawStep ?_
  refine guardE_of (by simp [Value.cells]) ?_
  refine guardE_of ⟨by omega, by show (0 + d.accept.length) * 1 ≤ 140737488355328; omega⟩ ?_
  repeat first | refine opsStep ?_ | refine codeStep ?_ | refine drawStep ?_
  refine ⟨by kernel_rfl, ?_⟩
  repeat first | refine opsStep ?_ | refine codeStep ?_ | refine drawStep ?_
  refine loopE_of (ι := {i : Nat // i ≤ d.next.length})
    (fun i => (fr [(1, aSs kn names), (2, aSs kp called), (3, .ref 0 0 0), (6, .ref 1 0 0), (7, .ref 4 0 0), (8, .int .i64 i.1)],
      [.cells 0 d.cells, .cells 0 den0.cells, .fro 1 (names.map .str), .fro 1 (d.accept.map .bool), .cells 0 [aSs .any names, aBs .any d.accept, .hs 5 i.1 0 i.1 1], .cells i.1 (((d.rows.take i.1).map (ovRow names.length (placesOf called names))).map (aIs .any))]))
    (fun i => d.next.length - i.1) ⟨0, by omega⟩ ?_ ?_
  · refine (Ent.fr' (l := [(1, aSs kn names), (2, aSs kp called), (3, .ref 0 0 0), (6, .ref 1 0 0), (7, .ref 4 0 0), (8, .int .i64 (0 : Nat))])
      (H' := [.cells 0 d.cells, .cells 0 den0.cells, .cells 1 (names.map .str), .cells 1 (d.accept.map .bool), .cells 0 [.hs 2 1 0 (0 + names.length) 1, .hs 3 1 0 (0 + d.accept.length) 1, .sl .nil 0 []]]) ⟨(by kernel_rfl), (by kernel_rfl), (by kernel_rfl), (by kernel_rfl), (by kernel_rfl), (by kernel_rfl), trivial⟩ (by kernel_rfl)).trans ?_
    rw [Nat.zero_add, Nat.zero_add]
    exact (((Ent.freezeCell 4 0 (b := 2) rfl rfl rfl (by omega) (by simp)).trans (Ent.freezeCell 4 1 (b := 3) rfl rfl rfl (by omega) (by simp))).trans (Ent.nilCell 4 2 1 rfl rfl)).to (by kernel_rfl)
  rintro ⟨i, hi⟩
  repeat first | refine opsStep ?_ | refine codeStep ?_ | refine drawStep ?_
  refine decB_dec (fun h => ?_) (fun h => ?_)
  · have hia : i < d.next.length := by have := h; simp at this; omega
    have hlr : i < d.rows.length := by omega
    have ga : d.rows[i] = (d.next[i]).2 := by simp [Den.rows]
    have hri := hrow _ (List.getElem_mem hia)
    obtain ⟨rs, hrs⟩ : ∃ rs, (d.rows.take i).map (ovRow names.length (placesOf called names)) = rs := ⟨_, rfl⟩
    have hrsl : rs.length = i := by rw [← hrs]; simp; omega
    obtain ⟨f, hf⟩ : ∃ f : Nat → Int, f = fun a => (d.next[i]).2.getD (gatN a (placesOf called names)) 0 := ⟨_, rfl⟩
    repeat first | refine opsStep ?_ | refine codeStep ?_ | refine drawStep ?_
    refine loopE_of (ι := {a : Nat // a ≤ q})
      (fun a => (fr [(1, aSs kn names), (2, aSs kp called), (3, .ref 0 0 0), (6, .ref 1 0 0), (7, .ref 4 0 0), (8, .int .i64 i), (9, .hs 6 a.1 0 a.1 1), (10, .int .i64 a.1)],
        [.cells 0 d.cells, .cells 0 den0.cells, .fro 1 (names.map .str), .fro 1 (d.accept.map .bool), .cells 0 [aSs .any names, aBs .any d.accept, .hs 5 i 0 i 1], .cells i (rs.map (aIs .any)), .cells a.1 (((List.range a.1).map f).map (.int .i64))]))
      (fun a => q - a.1) ⟨0, by omega⟩ ?_ ?_
    · rw [← hrs]
      exact ((Ent.fr' (l := [(1, aSs kn names), (2, aSs kp called), (3, .ref 0 0 0), (6, .ref 1 0 0), (7, .ref 4 0 0), (8, .int .i64 i), (9, .sl .nil 0 []), (10, .int .i64 (0 : Nat))])
        (H' := [.cells 0 d.cells, .cells 0 den0.cells, .fro 1 (names.map .str), .fro 1 (d.accept.map .bool), .cells 0 [aSs .any names, aBs .any d.accept, .hs 5 i 0 i 1], .cells i (((d.rows.take i).map (ovRow names.length (placesOf called names))).map (aIs .any))]) ⟨(by kernel_rfl), (by kernel_rfl), (by kernel_rfl), (by kernel_rfl), (by kernel_rfl), (by kernel_rfl), (by kernel_rfl), (by kernel_rfl), trivial⟩ (by kernel_rfl)).trans (Ent.nil 9 1 rfl)).trans (Ent.fr' ⟨(by kernel_rfl), (by kernel_rfl), (by kernel_rfl), (by kernel_rfl), (by kernel_rfl), (by kernel_rfl), (by kernel_rfl), (by kernel_rfl), trivial⟩ (by kernel_rfl))
    rintro ⟨a, ha⟩
    repeat first | refine opsStep ?_ | refine codeStep ?_ | refine drawStep ?_
    refine callP (r12_Letters names.length (by omega)) ?_
    repeat first | refine opsStep ?_ | refine codeStep ?_ | refine drawStep ?_
    refine decB_dec (fun g => ?_) (fun g => ?_)
    · have haq : a < q := by rw [hlet] at g; have := g; simp at this; omega
      repeat first | refine opsStep ?_ | refine codeStep ?_ | refine drawStep ?_
      refine callP (r02_Digits a names.length (by omega) (by omega)) ?_
      repeat first | refine opsStep ?_ | refine codeStep ?_ | refine drawStep ?_
      refine loopE_of (ι := {t : Nat // t ≤ called.length})
        (fun t => (fr [(1, aSs kn names), (2, aSs kp called), (3, .ref 0 0 0), (6, .ref 1 0 0), (7, .ref 4 0 0), (8, .int .i64 i), (9, .hs 6 a 0 a 1), (10, .int .i64 a), (11, aIs .any (digN a names.length)), (12, .hs 7 t.1 0 t.1 1), (13, .int .i64 t.1)],
          [.cells 0 d.cells, .cells 0 den0.cells, .fro 1 (names.map .str), .fro 1 (d.accept.map .bool), .cells 0 [aSs .any names, aBs .any d.accept, .hs 5 i 0 i 1], .cells i (rs.map (aIs .any)), .cells a (((List.range a).map f).map (.int .i64)), .cells t.1 ((((placesOf called names).take t.1).map (dig a)).map (.int .i64))]))
        (fun t => called.length - t.1) ⟨0, by omega⟩ ?_ ?_
      · exact ((Ent.fr' (l := [(1, aSs kn names), (2, aSs kp called), (3, .ref 0 0 0), (6, .ref 1 0 0), (7, .ref 4 0 0), (8, .int .i64 i), (9, .hs 6 a 0 a 1), (10, .int .i64 a), (11, aIs .any (digN a names.length)), (12, .sl .nil 0 []), (13, .int .i64 (0 : Nat))])
          (H' := [.cells 0 d.cells, .cells 0 den0.cells, .fro 1 (names.map .str), .fro 1 (d.accept.map .bool), .cells 0 [aSs .any names, aBs .any d.accept, .hs 5 i 0 i 1], .cells i (rs.map (aIs .any)), .cells a (((List.range a).map f).map (.int .i64))]) ⟨(by kernel_rfl), (by kernel_rfl), (by kernel_rfl), (by kernel_rfl), (by kernel_rfl), (by kernel_rfl), (by kernel_rfl), (by kernel_rfl), (by kernel_rfl), (by kernel_rfl), (by kernel_rfl), trivial⟩ (by kernel_rfl)).trans (Ent.nil 12 1 rfl)).trans (Ent.fr' ⟨(by kernel_rfl), (by kernel_rfl), (by kernel_rfl), (by kernel_rfl), (by kernel_rfl), (by kernel_rfl), (by kernel_rfl), (by kernel_rfl), (by kernel_rfl), (by kernel_rfl), (by kernel_rfl), trivial⟩ (by kernel_rfl))
      rintro ⟨t, ht⟩
      repeat first | refine opsStep ?_ | refine codeStep ?_ | refine drawStep ?_
      refine decB_dec (fun e => ?_) (fun e => ?_)
      · have hta : t < called.length := by have := e; simp at this; omega
        have hm : called[t] ∈ names := hc _ (List.getElem_mem hta)
        have hlt := List.idxOf_lt_length_of_mem hm
        have hix : idxS names called[t] = (names.idxOf called[t] : Nat) := by rw [idxS, if_pos hlt]
        repeat first | refine opsStep ?_ | refine codeStep ?_ | refine drawStep ?_
        refine guardE_of (by simp; omega) ?_
        repeat first | refine opsStep ?_ | refine codeStep ?_ | refine drawStep ?_
        refine optE_of (c := .str called[t]) (by simp [Value.cells, hta]) ?_
        repeat first | refine opsStep ?_ | refine codeStep ?_ | refine drawStep ?_
        refine callP (r04_Index kn names called[t] (by omega)) ?_
        repeat first | refine opsStep ?_ | refine codeStep ?_ | refine drawStep ?_
        refine guardE_of (by rw [hix]; simp [digN_length]; omega) ?_
        repeat first | refine opsStep ?_ | refine codeStep ?_ | refine drawStep ?_
        refine optE_of (c := .int .i64 (dig a (names.idxOf called[t]))) (by rw [hix]; simp [Value.cells, digN_get _ _ _ hlt]) ?_
        repeat first | refine opsStep ?_ | refine codeStep ?_ | refine drawStep ?_
        refine guardE_of ⟨rfl, by simp [placesOf]; omega⟩ ?_
        refine guardE_of rfl ?_
        refine guardE_of ⟨by omega, by show (t + 1) * 8 ≤ 140737488355328; omega⟩ ?_
        repeat first | refine opsStep ?_ | refine codeStep ?_ | refine drawStep ?_
        refine ⟨⟨t + 1, by omega⟩, (by show called.length - (t + 1) < called.length - t; omega), Ent.to (Ent.frD (X := [.cells 0 [.int .i64 (dig a (names.idxOf called[t]))]])
          (H' := [.cells 0 d.cells, .cells 0 den0.cells, .fro 1 (names.map .str), .fro 1 (d.accept.map .bool), .cells 0 [aSs .any names, aBs .any d.accept, .hs 5 i 0 i 1], .cells i (rs.map (aIs .any)), .cells a (((List.range a).map f).map (.int .i64)), .cells (t + 1) ((((((placesOf called names).take t).map (dig a)).map (AV.int .i64)).drop 0).take (t * 1) ++ [.int .i64 (dig a (names.idxOf called[t]))])])
          ⟨(by kernel_rfl), (by kernel_rfl), (by kernel_rfl), (by kernel_rfl), (by kernel_rfl), (by kernel_rfl), (by kernel_rfl), (by kernel_rfl), (by kernel_rfl), (by kernel_rfl), inc_slot (i := t) (by omega), trivial⟩ (by kernel_rfl) (Nat.zero_le _) (by first | (simp [frBel, blksBel, Blk.bel, AV.bel, bels, bels_append, bels_map, aSs_bel, aIs_bel, aBs_bel, aRs_bel, aDen_bel, cells_bel]; done) | (simp only [List.drop_zero, ← List.map_take, ← List.map_drop, List.map_map, frBel, blksBel, Blk.bel, AV.bel, bels, bels_append, bels_map, aSs_bel, aIs_bel, aBs_bel, aRs_bel, aDen_bel, cells_bel]; simp [AV.bel, aSs_bel, aIs_bel, aBs_bel, aRs_bel, aDen_bel, cells_bel])) (by first | (simp [frBel, blksBel, Blk.bel, AV.bel, bels, bels_append, bels_map, aSs_bel, aIs_bel, aBs_bel, aRs_bel, aDen_bel, cells_bel]; done) | (simp only [List.drop_zero, ← List.map_take, ← List.map_drop, List.map_map, frBel, blksBel, Blk.bel, AV.bel, bels, bels_append, bels_map, aSs_bel, aIs_bel, aBs_bel, aRs_bel, aDen_bel, cells_bel]; simp [AV.bel, aSs_bel, aIs_bel, aBs_bel, aRs_bel, aDen_bel, cells_bel]))) ?_⟩
        show _ = ([.cells 0 d.cells, .cells 0 den0.cells, .fro 1 (names.map .str), .fro 1 (d.accept.map .bool), .cells 0 [aSs .any names, aBs .any d.accept, .hs 5 i 0 i 1], .cells i (rs.map (aIs .any)), .cells a (((List.range a).map f).map (.int .i64)), .cells (t + 1) ((((placesOf called names).take (t + 1)).map (dig a)).map (.int .i64))] : List Blk)
        rw [td_all (by simp; omega), List.take_succ_eq_append_getElem (i := t) (by simp [placesOf]; omega), List.map_append, List.map_append]
        simp [placesOf]
      · have : t = called.length := by have := e; simp at this; omega
        subst this
        have hpl : (placesOf called names).take called.length = placesOf called names := List.take_of_length_le (by simp [placesOf])
        have hgl : gatN a (placesOf called names) < (d.next[i]).2.length := by have := gatN_lt a (placesOf called names); rw [hri]; simpa [placesOf] using this
        refine VCode.ent (s' := fr [(1, aSs kn names), (2, aSs kp called), (3, .ref 0 0 0), (6, .ref 1 0 0), (7, .ref 4 0 0), (8, .int .i64 i), (9, .hs 6 a 0 a 1), (10, .int .i64 a), (12, aIs .any ((placesOf called names).map (dig a)))])
          (H' := [.cells 0 d.cells, .cells 0 den0.cells, .fro 1 (names.map .str), .fro 1 (d.accept.map .bool), .cells 0 [aSs .any names, aBs .any d.accept, .hs 5 i 0 i 1], .cells i (rs.map (aIs .any)), .cells a (((List.range a).map f).map (.int .i64))]) ?_ ?_
        · refine Ent.freezeLast (l := [(1, aSs kn names), (2, aSs kp called), (3, .ref 0 0 0), (6, .ref 1 0 0), (7, .ref 4 0 0), (8, .int .i64 i), (9, .hs 6 a 0 a 1), (10, .int .i64 a), (12, .hs 7 called.length 0 called.length 1)]) (g := called.length) (n := called.length) (es := 1)
            (cs := ((placesOf called names).map (dig a)).map (.int .i64)) _ 12 ⟨(by kernel_rfl), (by kernel_rfl), (by kernel_rfl), (by kernel_rfl), (by kernel_rfl), (by kernel_rfl), (by kernel_rfl), (by kernel_rfl), (by kernel_rfl), trivial⟩ (by kernel_rfl) (Eq.trans (b := some (.cells called.length ((((placesOf called names).take called.length).map (dig a)).map (.int .i64)))) (by kernel_rfl) (by rw [hpl])) rfl (by simp [placesOf]) (Nat.zero_le _)
            ⟨(by kernel_rfl), (by kernel_rfl), (by kernel_rfl), (by kernel_rfl), (by kernel_rfl), (by kernel_rfl), (by kernel_rfl), (by kernel_rfl), Eq.trans (b := .sl .any called.length (((placesOf called names).map (dig a)).map (.int .i64))) (by kernel_rfl) (by simp [aIs, placesOf]), trivial⟩ (by first | (simp [frBel, blksBel, Blk.bel, AV.bel, bels, bels_append, bels_map, aSs_bel, aIs_bel, aBs_bel, aRs_bel, aDen_bel, cells_bel]; done) | (simp only [List.drop_zero, ← List.map_take, ← List.map_drop, List.map_map, frBel, blksBel, Blk.bel, AV.bel, bels, bels_append, bels_map, aSs_bel, aIs_bel, aBs_bel, aRs_bel, aDen_bel, cells_bel]; simp [AV.bel, aSs_bel, aIs_bel, aBs_bel, aRs_bel, aDen_bel, cells_bel])) (by first | (simp [frBel, blksBel, Blk.bel, AV.bel, bels, bels_append, bels_map, aSs_bel, aIs_bel, aBs_bel, aRs_bel, aDen_bel, cells_bel]; done) | (simp only [List.drop_zero, ← List.map_take, ← List.map_drop, List.map_map, frBel, blksBel, Blk.bel, AV.bel, bels, bels_append, bels_map, aSs_bel, aIs_bel, aBs_bel, aRs_bel, aDen_bel, cells_bel]; simp [AV.bel, aSs_bel, aIs_bel, aBs_bel, aRs_bel, aDen_bel, cells_bel]))
        repeat first | refine opsStep ?_ | refine codeStep ?_ | refine drawStep ?_
        refine SW.drawn rfl (by kernel_rfl) ?_
        repeat first | refine opsStep ?_ | refine codeStep ?_ | refine drawStep ?_
        refine guardE_of (by simp; omega) ?_
        repeat first | refine opsStep ?_ | refine codeStep ?_ | refine drawStep ?_
        refine optE_of (c := aIs (d.next[i]).1 (d.next[i]).2) (by simp [Value.cells, hia]) ?_
        repeat first | refine opsStep ?_ | refine codeStep ?_ | refine drawStep ?_
        refine .inl ⟨_, _, [], (r02_Letter .any ((placesOf called names).map (dig a)) (by simp [placesOf]; omega) (fun x hx => by obtain ⟨p, _, rfl⟩ := List.mem_map.1 hx; exact dig_bit a p)), RdsN_refl _, .inr rfl, none_need, ?_⟩
        repeat first | refine opsStep ?_ | refine codeStep ?_ | refine drawStep ?_
        refine guardE_of (by rw [letS_dig]; simp; omega) ?_
        repeat first | refine opsStep ?_ | refine codeStep ?_ | refine drawStep ?_
        refine optE_of (c := .int .i64 (f a)) (by rw [letS_dig, hf]; simp [Value.cells, hgl, List.getD_eq_getElem?_getD]) ?_
        repeat first | refine opsStep ?_ | refine codeStep ?_ | refine drawStep ?_
        refine guardE_of ⟨rfl, by simp⟩ ?_
        refine guardE_of rfl ?_
        refine guardE_of ⟨by omega, by show (a + 1) * 8 ≤ 140737488355328; omega⟩ ?_
        repeat first | refine opsStep ?_ | refine codeStep ?_ | refine drawStep ?_
        refine ⟨by kernel_rfl, ?_⟩
        repeat first | refine opsStep ?_ | refine codeStep ?_ | refine drawStep ?_
        refine ⟨⟨a + 1, by omega⟩, (by show q - (a + 1) < q - a; omega), Ent.to (Ent.frD (X := [.cells 0 [.int .i64 (f a)]])
          (H' := [.cells 0 d.cells, .cells 0 den0.cells, .fro 1 (names.map .str), .fro 1 (d.accept.map .bool), .cells 0 [aSs .any names, aBs .any d.accept, .hs 5 i 0 i 1], .cells i (rs.map (aIs .any)), .cells (a + 1) (((((List.range a).map f).map (AV.int .i64)).drop 0).take (a * 1) ++ [.int .i64 (f a)])])
          ⟨(by kernel_rfl), (by kernel_rfl), (by kernel_rfl), (by kernel_rfl), (by kernel_rfl), (by kernel_rfl), (by kernel_rfl), inc_slot (i := a) (by omega), trivial⟩ (by kernel_rfl) (Nat.zero_le _) (by first | (simp [frBel, blksBel, Blk.bel, AV.bel, bels, bels_append, bels_map, aSs_bel, aIs_bel, aBs_bel, aRs_bel, aDen_bel, cells_bel]; done) | (simp only [List.drop_zero, ← List.map_take, ← List.map_drop, List.map_map, frBel, blksBel, Blk.bel, AV.bel, bels, bels_append, bels_map, aSs_bel, aIs_bel, aBs_bel, aRs_bel, aDen_bel, cells_bel]; simp [AV.bel, aSs_bel, aIs_bel, aBs_bel, aRs_bel, aDen_bel, cells_bel])) (by first | (simp [frBel, blksBel, Blk.bel, AV.bel, bels, bels_append, bels_map, aSs_bel, aIs_bel, aBs_bel, aRs_bel, aDen_bel, cells_bel]; done) | (simp only [List.drop_zero, ← List.map_take, ← List.map_drop, List.map_map, frBel, blksBel, Blk.bel, AV.bel, bels, bels_append, bels_map, aSs_bel, aIs_bel, aBs_bel, aRs_bel, aDen_bel, cells_bel]; simp [AV.bel, aSs_bel, aIs_bel, aBs_bel, aRs_bel, aDen_bel, cells_bel]))) ?_⟩
        show _ = ([.cells 0 d.cells, .cells 0 den0.cells, .fro 1 (names.map .str), .fro 1 (d.accept.map .bool), .cells 0 [aSs .any names, aBs .any d.accept, .hs 5 i 0 i 1], .cells i (rs.map (aIs .any)), .cells (a + 1) (((List.range (a + 1)).map f).map (.int .i64))] : List Blk)
        rw [td_all (by simp), List.range_succ, List.map_append, List.map_append]
        rfl
    · repeat first | refine opsStep ?_ | refine codeStep ?_ | refine drawStep ?_
      have : a = q := by rw [hlet] at g; have := g; simp at this; omega
      subst this
      refine guardE_of ⟨rfl, by simp; omega⟩ ?_
      refine guardE_of rfl ?_
      refine guardE_of ⟨by omega, by show (i + 1) * 24 ≤ 140737488355328; omega⟩ ?_
      repeat first | refine opsStep ?_ | refine codeStep ?_ | refine drawStep ?_
      refine ⟨⟨i + 1, by omega⟩, (by show d.next.length - (i + 1) < d.next.length - i; omega), Ent.rowNext [.cells 0 d.cells, .cells 0 den0.cells, .fro 1 (names.map .str), .fro 1 (d.accept.map .bool), .cells 0 [aSs .any names, aBs .any d.accept, .hs 5 (i + 1) 0 (i + 1) 1]]
        (n := a) (es := 1) (L := ((rs.map (aIs .any)).drop 0).take (i * 1)) (gb := i + 1) (gr := a) (cs := ((List.range a).map f).map (.int .i64)) ⟨(by kernel_rfl), (by kernel_rfl), (by kernel_rfl), (by kernel_rfl), (by kernel_rfl), inc_slot (i := i) (by omega), trivial⟩ (by kernel_rfl) (by kernel_rfl) (by kernel_rfl) rfl (by simp) (Nat.zero_le _) (by first | (simp [frBel, blksBel, Blk.bel, AV.bel, bels, bels_append, bels_map, aSs_bel, aIs_bel, aBs_bel, aRs_bel, aDen_bel, cells_bel]; done) | (simp only [List.drop_zero, ← List.map_take, ← List.map_drop, List.map_map, frBel, blksBel, Blk.bel, AV.bel, bels, bels_append, bels_map, aSs_bel, aIs_bel, aBs_bel, aRs_bel, aDen_bel, cells_bel]; simp [AV.bel, aSs_bel, aIs_bel, aBs_bel, aRs_bel, aDen_bel, cells_bel])) (by first | (simp [frBel, blksBel, Blk.bel, AV.bel, bels, bels_append, bels_map, aSs_bel, aIs_bel, aBs_bel, aRs_bel, aDen_bel, cells_bel]; done) | (simp only [List.drop_zero, ← List.map_take, ← List.map_drop, List.map_map, frBel, blksBel, Blk.bel, AV.bel, bels, bels_append, bels_map, aSs_bel, aIs_bel, aBs_bel, aRs_bel, aDen_bel, cells_bel]; simp [AV.bel, aSs_bel, aIs_bel, aBs_bel, aRs_bel, aDen_bel, cells_bel])) (bels_td (bels_map.2 fun _ _ => aIs_bel _ _ _)) (by first | (simp [frBel, blksBel, Blk.bel, AV.bel, bels, bels_append, bels_map, aSs_bel, aIs_bel, aBs_bel, aRs_bel, aDen_bel, cells_bel]; done) | (simp only [List.drop_zero, ← List.map_take, ← List.map_drop, List.map_map, frBel, blksBel, Blk.bel, AV.bel, bels, bels_append, bels_map, aSs_bel, aIs_bel, aBs_bel, aRs_bel, aDen_bel, cells_bel]; simp [AV.bel, aSs_bel, aIs_bel, aBs_bel, aRs_bel, aDen_bel, cells_bel])) ?_⟩
      rw [td_all (by simp; omega)]
      show _ = ([.cells 0 d.cells, .cells 0 den0.cells, .fro 1 (names.map .str), .fro 1 (d.accept.map .bool), .cells 0 [aSs .any names, aBs .any d.accept, .hs 5 (i + 1) 0 (i + 1) 1], Blk.cells (i + 1) (((d.rows.take (i + 1)).map (ovRow names.length (placesOf called names))).map (aIs .any))] : List Blk)
      rw [List.take_succ_eq_append_getElem hlr, List.map_append, hrs, ga]
      simp [aIs, ovRow, hq, hf]
  · repeat first | refine opsStep ?_ | refine codeStep ?_ | refine drawStep ?_
    have : i = d.next.length := by have := h; simp at this; omega
    subst this
    obtain ⟨rs, hrs⟩ : ∃ rs, d.rows.map (ovRow names.length (placesOf called names)) = rs := ⟨_, rfl⟩
    have hrsl : rs.length = d.next.length := by rw [← hrs]; simp [hrl]
    have hfin : ∀ (nt : Fr), Ent nt (fr [(6, .ref 1 0 0)]) [.cells 0 d.cells, .cells 0 [aSs .any names, aBs .any d.accept, .hs 5 d.next.length 0 d.next.length 1], .fro 1 (names.map .str), .fro 1 (d.accept.map .bool), .cells 0 [aSs .any names, aBs .any d.accept, .hs 5 d.next.length 0 d.next.length 1],
          .cells d.next.length (rs.map (aIs .any))] (fr [(6, .ref 1 0 0)]) [.cells 0 d.cells, .cells 0 [aSs .any names, aBs .any d.accept, .sl .any d.next.length (rs.map (aIs .any))], .fro 1 (names.map .str), .fro 1 (d.accept.map .bool), .cells 0 [aSs .any names, aBs .any d.accept, .hs 5 d.next.length 0 d.next.length 1],
          .fro d.next.length (rs.map (aIs .any))] := fun nt => (Ent.freezeCell 1 2 (b := 5) rfl rfl rfl (by omega) (by simp [hrsl])).to rfl
    refine finH (l := [(6, .ref 1 0 0)]) ⟨(by kernel_rfl), trivial⟩ (Eq.trans (b := [.cells 0 d.cells, .cells 0 [aSs .any names, aBs .any d.accept, .hs 5 d.next.length 0 d.next.length 1], .fro 1 (names.map .str), .fro 1 (d.accept.map .bool), .cells 0 [aSs .any names, aBs .any d.accept, .hs 5 d.next.length 0 d.next.length 1], .cells d.next.length (((d.rows.take d.next.length).map (ovRow names.length (placesOf called names))).map (aIs .any))]) (by kernel_rfl) (by rw [← hrs, List.take_of_length_le (l := d.rows) (i := d.next.length) (by omega)])) (hfin _) ?_
    refine Eq.trans (b := some (.agg [aSs .any names, aBs .any d.accept, .sl .any d.next.length (rs.map (aIs .any))])) (by kernel_rfl) ?_
    rw [hrs]
    simp [aDen, Den.cells, aRs, hrsl, Function.comp_def]

end Tab

/- Layer 15: the fixed answers; the law TrackWidens. -/
namespace Tab
open Go Go.Proofs
set_option maxRecDepth 10000
set_option linter.unusedVariables false
set_option linter.unusedSimpArgs false
set_option linter.unusedSectionVars false

def evenD : Den := ⟨.any, [[120]], .any, [false, true, false], .any, [(.any, [1, 2]), (.any, [1, 1]), (.any, [2, 2])]⟩
def wideD : Den := ⟨.any, [[97], [120]], .any, [false, true, false], .any, [(.any, [1, 1, 2, 2]), (.any, [1, 1, 1, 1]), (.any, [2, 2, 2, 2])]⟩

theorem evenD_ok : DenOk evenD := ⟨by decide, by decide, by decide, by decide, by decide⟩
theorem wideD_ok : DenOk wideD := ⟨by decide, by decide, by decide, by decide, by decide⟩

theorem even_widens : widenE evenD [[97], [120]] = 0 := widenE_ok (by kernel_rfl) (by kernel_rfl) (by decide) (by kernel_rfl)
theorem even_wide : sameD (widenR evenD [[97], [120]]) wideD = true := by
  rw [widenR_ok even_widens, sameD_eq]
  kernel_rfl
theorem widenR_ok_den {d : Den} {names : List (List UInt8)} (hd : DenOk d) (hn : names.length * 16 ≤ 140737488351232) (hns : ∀ s ∈ names, s.length ≤ 140737488351232) : DenOk (widenR d names) := by
  rw [widenR]
  split
  · rename_i h
    obtain ⟨_, _, hl, _⟩ := widenE_of_ok h
    refine ⟨hn, hns, hd.accept, ?_, ?_⟩
    · have := hd.next
      simpa [widenD, Den.rows] using this
    · intro r hr
      simp only [widenD, List.mem_map] at hr
      obtain ⟨r, ⟨x, _, rfl⟩, rfl⟩ := hr
      simp only [ovRow_length]
      have : 2 ^ names.length ≤ 2 ^ 6 := Nat.pow_le_pow_right (by omega) hl
      omega
  · exact ⟨by decide, by simp [den0], by decide, by decide, by simp [den0]⟩

end Tab

/- A machine's copy, widened. -/
namespace Tab
open Go Go.Proofs
set_option maxRecDepth 10000
set_option linter.unusedVariables false
set_option linter.unusedSimpArgs false
set_option linter.unusedSectionVars false

theorem copyD_widenE (d : Den) (names) : widenE (copyD d) names = widenE d names := by
  rw [widenE, widenE, copyD_right]; rfl
theorem copyD_widenD (d : Den) (names) : widenD (copyD d) names = widenD d names := by
  rw [widenD, widenD, copyD_rows]; rfl
theorem copyD_widenR (d : Den) (names) : widenR (copyD d) names = widenR d names := by
  rw [widenR, widenR, copyD_widenE, copyD_widenD]

end Tab

/- Texts in order; the library's sort of short lists. -/
namespace Tab
open Go Go.Proofs
set_option maxRecDepth 10000
set_option linter.unusedVariables false
set_option linter.unusedSimpArgs false
set_option linter.unusedSectionVars false

abbrev less (a b : List UInt8) : Bool := Op.bytesLess a b
theorem less_irrefl : ∀ (a : List UInt8), less a a = false
  | [] => rfl
  | a :: x => by have := less_irrefl x; simp [less, Op.bytesLess] at this ⊢; exact this
theorem less_trans : ∀ {a b c : List UInt8}, less a b = true → less b c = true → less a c = true
  | _, [], _, h, _ => by simp [less, Op.bytesLess] at h
  | _, _ :: _, [], _, h => by simp [less, Op.bytesLess] at h
  | [], _ :: _, _ :: _, _, _ => rfl
  | a :: x, b :: y, c :: z, h1, h2 => by
    simp only [less, Op.bytesLess, Bool.or_eq_true, Bool.and_eq_true, decide_eq_true_eq, beq_iff_eq] at h1 h2 ⊢
    rcases h1 with h1 | ⟨rfl, h1⟩
    · rcases h2 with h2 | ⟨rfl, h2⟩
      · exact .inl (UInt8.lt_trans h1 h2)
      · exact .inl h1
    · rcases h2 with h2 | ⟨rfl, h2⟩
      · exact .inl h2
      · exact .inr ⟨rfl, less_trans h1 h2⟩
theorem less_asymm {a b : List UInt8} (h : less a b = true) : less b a = false := by
  cases e : less b a with
  | false => rfl
  | true => have := less_trans h e; rw [less_irrefl] at this; exact absurd this (by simp)
theorem less_total : ∀ {a b : List UInt8}, less a b = false → less b a = false → a = b
  | [], [], _, _ => rfl
  | [], _ :: _, h, _ => by simp [less, Op.bytesLess] at h
  | _ :: _, [], _, h => by simp [less, Op.bytesLess] at h
  | a :: x, b :: y, h1, h2 => by
    simp only [less, Op.bytesLess, Bool.or_eq_false_iff, Bool.and_eq_false_iff, decide_eq_false_iff_not, beq_eq_false_iff_ne] at h1 h2
    have e : a = b := UInt8.le_antisymm (UInt8.not_lt.1 h2.1) (UInt8.not_lt.1 h1.1)
    subst e
    rw [less_total (h1.2.resolve_left (by simp)) (h2.2.resolve_left (by simp))]

theorem cmp_isNaN (s : List UInt8) : Pure Tryz.prog 110 [.str s] (.bool false) := by
  refine Pure.of_sw 6 Tryz.func110 rfl Tryz.ntmps110 (by kernel_rfl) (Nat.le_of_ble_eq_true (by kernel_rfl)) (by simp [closeds, AV.closed, aSs_closed, aIs_closed, aBs_closed, aRs_closed, aDen_closed]) (by simp [AV.closed, closeds, aSs_closed, aIs_closed, aBs_closed, aRs_closed, aDen_closed]) ?_; refine SW.of_vc ?_
  repeat first | refine opsStep ?_ | refine codeStep ?_ | refine drawStep ?_
  exact finB (b' := decide (s ≠ s)) (by kernel_rfl) (by simp)
theorem cmp_Less (a b : List UInt8) : Pure Tryz.prog 93 [.str a, .str b] (.bool (less a b)) := by
  refine Pure.of_sw 17 Tryz.func93 rfl Tryz.ntmps93 (by kernel_rfl) (Nat.le_of_ble_eq_true (by kernel_rfl)) (by simp [closeds, AV.closed, aSs_closed, aIs_closed, aBs_closed, aRs_closed, aDen_closed]) (by simp [AV.closed, closeds, aSs_closed, aIs_closed, aBs_closed, aRs_closed, aDen_closed]) ?_; refine SW.of_vc ?_
  repeat first | refine opsStep ?_ | refine codeStep ?_ | refine drawStep ?_
  refine callP (cmp_isNaN a) ?_
  repeat first | refine opsStep ?_ | refine codeStep ?_ | refine drawStep ?_
  exact finB (b' := less a b) (by kernel_rfl) rfl

theorem over_length' {cs xs : List AV} {o : Nat} (h : o + xs.length ≤ cs.length) : (over cs o xs).length = cs.length := by simp [over]; omega

def lt2 (r : List (List UInt8)) (a b : Nat) : Bool := less (r.getD a []) (r.getD b [])
/-- The first i are in order. -/
def SrtTo (r : List (List UInt8)) (i : Nat) : Prop := ∀ m, m + 1 < i → lt2 r (m + 1) m = false
def SrtAt (r : List (List UInt8)) (i j : Nat) : Prop := (∀ m, m < i → m + 1 ≠ j → lt2 r (m + 1) m = false) ∧ (0 < j → j < i → lt2 r (j + 1) (j - 1) = false)
def swp (r : List (List UInt8)) (j : Nat) : List (List UInt8) := (r.set j (r.getD (j - 1) [])).set (j - 1) (r.getD j [])

theorem swp_get {r : List (List UInt8)} {j m : Nat} (hj : 0 < j) (hl : j < r.length) : (swp r j).getD m [] = if m = j then r.getD (j - 1) [] else if m = j - 1 then r.getD j [] else r.getD m [] := by
  simp only [swp, List.getD_eq_getElem?_getD, List.getElem?_set, List.length_set]
  by_cases h1 : m = j
  · subst h1
    rw [if_pos rfl, if_neg (by omega), if_pos rfl, if_pos hl]
    rfl
  · rw [if_neg h1]
    by_cases h2 : m = j - 1
    · rw [if_pos h2, if_pos h2.symm, if_pos (by omega)]
      rfl
    · rw [if_neg h2, if_neg (fun e => h2 e.symm), if_neg (fun e => h1 e.symm)]
theorem swp_length (r j) : (swp r j).length = r.length := by simp [swp]
theorem swp_perm {r : List (List UInt8)} {j : Nat} (hj : 0 < j) (hl : j < r.length) : (swp r j).Perm r := by
  have e : swp r j = (r.set j r[j - 1]).set (j - 1) r[j] := by simp [swp, List.getD_eq_getElem?_getD, hl, show j - 1 < r.length by omega]
  rw [e]
  exact List.set_set_perm hl (by omega)
theorem swp_at {r : List (List UInt8)} {i j : Nat} (hj : 0 < j) (hl : j < r.length) (hji : j ≤ i) (h : SrtAt r i j) (hlt : lt2 r j (j - 1) = true) : SrtAt (swp r j) i (j - 1) := by
  obtain ⟨h1, h2⟩ := h
  refine ⟨fun m hm hne => ?_, fun hj0 hj1 => ?_⟩
  · simp only [lt2, swp_get hj hl]
    by_cases e1 : m = j
    · subst e1
      rw [if_neg (by omega), if_neg (by omega), if_pos rfl]
      exact h2 hj (by omega)
    · by_cases e2 : m + 1 = j
      · subst e2
        rw [if_pos rfl, if_neg (by omega), if_pos (by simp)]
        exact less_asymm hlt
      · rw [if_neg e2, if_neg (by omega), if_neg e1, if_neg (by omega)]
        exact h1 m hm (by omega)
  · simp only [lt2, swp_get hj hl]
    rw [if_pos (by omega), if_neg (by omega), if_neg (by omega)]
    have := h1 (j - 2) (by omega) (by omega)
    rw [lt2, show j - 2 + 1 = j - 1 by omega] at this
    rw [show j - 1 - 1 = j - 2 by omega]
    exact this

theorem insSort (l : List (List UInt8)) (hl : l.length < 2^40) : ACall Tryz.prog 87 [.hs 0 0 0 l.length 1, .int .i64 0, .int .i64 l.length] [.cells 0 (l.map .str)]
    fun o H' => o = .ret (.tup []) ∧ ∃ r, r.Perm l ∧ SrtTo r l.length ∧ H' = [.cells 0 (r.map .str)] := by
  refine ACall.of_sw 49 Tryz.func87 rfl Tryz.ntmps87 (by kernel_rfl) (Nat.le_of_ble_eq_true (by kernel_rfl)) ?_; refine SW.of_vc ?_
  repeat first | refine opsStep ?_ | refine codeStep ?_ | refine drawStep ?_
  refine loopE_of (ι := {x : Nat × List (List UInt8) // 0 < x.1 ∧ x.1 ≤ l.length + 1 ∧ x.2.Perm l ∧ SrtTo x.2 x.1}) (fun x => (fr [(0, .hs 0 0 0 l.length 1), (1, .int .i64 0), (2, .int .i64 l.length), (6, .int .i64 x.1.1)], [.cells 0 (x.1.2.map .str)])) (fun x => l.length + 1 - x.1.1)
    ⟨(1, l), by simp, by simp, List.Perm.refl _, fun m hm => by simp at hm⟩ (Ent.fr' ⟨(by kernel_rfl), (by kernel_rfl), (by kernel_rfl), (by kernel_rfl), trivial⟩ (by kernel_rfl)) ?_
  rintro ⟨⟨i, r⟩, hi0, hi, hp, hs⟩
  simp only at hi0 hi hp hs
  have hrl := hp.length_eq
  repeat first | refine opsStep ?_ | refine codeStep ?_ | refine drawStep ?_
  refine decB_dec (fun h => ?_) (fun h => ?_)
  · have hia : i < l.length := by have := h; simp at this; omega
    repeat first | refine opsStep ?_ | refine codeStep ?_ | refine drawStep ?_
    refine loopE_of (ι := {x : Nat × List (List UInt8) // x.1 ≤ i ∧ x.2.Perm l ∧ SrtAt x.2 i x.1}) (fun x => (fr [(0, .hs 0 0 0 l.length 1), (1, .int .i64 0), (2, .int .i64 l.length), (6, .int .i64 i), (7, .int .i64 x.1.1)], [.cells 0 (x.1.2.map .str)])) (fun x => x.1.1)
      ⟨(i, r), Nat.le_refl _, hp, fun m hm hne => hs m (by omega), fun _ h => by simp at h⟩ (Ent.fr' ⟨(by kernel_rfl), (by kernel_rfl), (by kernel_rfl), (by kernel_rfl), (by kernel_rfl), trivial⟩ (by kernel_rfl)) ?_
    rintro ⟨⟨j, r⟩, hj, hp, hs⟩
    simp only at hj hp hs
    have hrl := hp.length_eq
    repeat first | refine opsStep ?_ | refine codeStep ?_ | refine drawStep ?_
    refine SW.drawn rfl (by kernel_rfl) ?_
    repeat first | refine opsStep ?_ | refine codeStep ?_ | refine drawStep ?_
    refine decB_dec (fun e => ?_) (fun e => ?_)
    · have hj0 : 0 < j := by have := e; simp at this; omega
      have hjl : j < r.length := by omega
      have g1 : r.getD j [] = r[j] := by simp [List.getD_eq_getElem?_getD, hjl]
      have g2 : r.getD (j - 1) [] = r[j - 1] := by simp [List.getD_eq_getElem?_getD, show j - 1 < r.length by omega]
      have hd : IntKind.wrap .i64 ((j : Int) - 1) = ((j - 1 : Nat) : Int) := by rw [IntWalk.i64_in _ (by omega)]; omega
      have a1 : (r.map AV.str)[0 + j * 1]? = some (.str (r.getD j [])) := by simp [hjl]
      have a2 : (r.map AV.str)[0 + (IntKind.wrap .i64 ((j : Int) - 1)).toNat * 1]? = some (.str (r.getD (j - 1) [])) := by
        rw [hd, g2, Int.toNat_natCast, Nat.zero_add, Nat.mul_one, List.getElem?_map, List.getElem?_eq_getElem (by omega)]; rfl
      repeat first | refine opsStep ?_ | refine codeStep ?_ | refine drawStep ?_
      refine guardE_of (by simp; omega) ?_
      repeat first | refine opsStep ?_ | refine codeStep ?_ | refine drawStep ?_
      refine optE_of a1 ?_
      repeat first | refine opsStep ?_ | refine codeStep ?_ | refine drawStep ?_
      refine guardE_of (by rw [hd]; simp; omega) ?_
      repeat first | refine opsStep ?_ | refine codeStep ?_ | refine drawStep ?_
      refine optE_of a2 ?_
      repeat first | refine opsStep ?_ | refine codeStep ?_ | refine drawStep ?_
      refine .inl ⟨_, _, [], (cmp_Less _ _), RdsN_refl _, .inr rfl, none_need, ?_⟩
      repeat first | refine opsStep ?_ | refine codeStep ?_ | refine drawStep ?_
      refine ⟨by kernel_rfl, ?_⟩
      repeat first | refine opsStep ?_ | refine codeStep ?_ | refine drawStep ?_
      refine decB_split (fun h => ?_) (fun h => ?_)
      · repeat first | refine opsStep ?_ | refine codeStep ?_ | refine drawStep ?_
        refine SW.drawn rfl (by kernel_rfl) ?_
        repeat first | refine opsStep ?_ | refine codeStep ?_ | refine drawStep ?_
        refine guardE_of (by rw [hd]; simp; omega) ?_
        repeat first | refine opsStep ?_ | refine codeStep ?_ | refine drawStep ?_
        refine optE_of a2 ?_
        repeat first | refine opsStep ?_ | refine codeStep ?_ | refine drawStep ?_
        refine guardE_of (by simp; omega) ?_
        repeat first | refine opsStep ?_ | refine codeStep ?_ | refine drawStep ?_
        refine optE_of a1 ?_
        repeat first | refine opsStep ?_ | refine codeStep ?_ | refine drawStep ?_
        refine guardE_of (by simp; omega) ?_
        repeat first | refine opsStep ?_ | refine codeStep ?_ | refine drawStep ?_
        have z1 : 0 + j * 1 + [AV.str (r.getD (j - 1) [])].length ≤ (r.map AV.str).length := by simp; omega
        refine guardE_of ⟨rfl, by decide, z1⟩ ?_
        repeat first | refine opsStep ?_ | refine codeStep ?_ | refine drawStep ?_
        refine guardE_of (by rw [hd]; simp; omega) ?_
        repeat first | refine opsStep ?_ | refine codeStep ?_ | refine drawStep ?_
        have z2 : 0 + (IntKind.wrap .i64 ((j : Int) - 1)).toNat * 1 + [AV.str (r.getD j [])].length ≤ (over (r.map AV.str) (0 + j * 1) [AV.str (r.getD (j - 1) [])]).length := by
          rw [over_length' z1, hd, Int.toNat_natCast, List.length_map]; show 0 + (j - 1) * 1 + 1 ≤ _; omega
        refine guardE_of ⟨rfl, by decide, z2⟩ ?_
        repeat first | refine opsStep ?_ | refine codeStep ?_ | refine drawStep ?_
        refine ⟨by kernel_rfl, ?_⟩
        repeat first | refine opsStep ?_ | refine codeStep ?_ | refine drawStep ?_
        refine ⟨⟨(j - 1, swp r j), by simp only; omega, (swp_perm hj0 hjl).trans hp, swp_at hj0 hjl hj hs h⟩, (by show j - 1 < j; omega), Ent.fr' ⟨(by kernel_rfl), (by kernel_rfl), (by kernel_rfl), (by kernel_rfl), dec_slot (i := j) hj0 (by omega), trivial⟩ ?_⟩
        refine Eq.trans (b := [Blk.cells 0 (over (over (r.map .str) (0 + j * 1) [.str (r.getD (j - 1) [])]) (0 + (IntKind.wrap .i64 ((j : Int) - 1)).toNat * 1) [.str (r.getD j [])])]) (by kernel_rfl) ?_
        rw [hd, Int.toNat_natCast]
        simp only [Nat.zero_add, Nat.mul_one]
        rw [over_one (cs := r.map .str) (by rw [List.length_map]; exact hjl), over_one (by rw [List.length_set, List.length_map]; omega), ← List.map_set, ← List.map_set]
        rfl
      · repeat first | refine opsStep ?_ | refine codeStep ?_ | refine drawStep ?_
        refine ⟨⟨(i + 1, r), by simp, by simp only; omega, hp, fun m hm => ?_⟩, (by show l.length + 1 - (i + 1) < l.length + 1 - i; omega), Ent.fr' ⟨(by kernel_rfl), (by kernel_rfl), (by kernel_rfl), inc_slot (i := i) (by omega), trivial⟩ (by kernel_rfl)⟩
        by_cases e1 : m + 1 = j
        · subst e1; exact h
        · exact hs.1 m (by omega) e1
    · repeat first | refine opsStep ?_ | refine codeStep ?_ | refine drawStep ?_
      refine ⟨by kernel_rfl, ?_⟩
      repeat first | refine opsStep ?_ | refine codeStep ?_ | refine drawStep ?_
      have hj0 : j = 0 := by have := e; simp at this; omega
      subst hj0
      refine ⟨⟨(i + 1, r), by simp, by simp only; omega, hp, fun m hm => hs.1 m (by omega) (by omega)⟩, (by show l.length + 1 - (i + 1) < l.length + 1 - i; omega), Ent.fr' ⟨(by kernel_rfl), (by kernel_rfl), (by kernel_rfl), inc_slot (i := i) (by omega), trivial⟩ (by kernel_rfl)⟩
  · repeat first | refine opsStep ?_ | refine codeStep ?_ | refine drawStep ?_
    refine finR (l := []) (v := .tup []) (H₁ := [.cells 0 (r.map .str)]) trivial (by kernel_rfl) (Ent.refl _ _ _) (by kernel_rfl) ?_
    have : l.length ≤ i := by have := h; simp at this; omega
    exact ⟨rfl, r, hp, fun m hm => hs m (by omega), rfl⟩

end Tab

/- The library's sort, of short lists. -/
namespace Tab
open Go Go.Proofs
set_option maxRecDepth 10000
set_option linter.unusedVariables false
set_option linter.unusedSimpArgs false
set_option linter.unusedSectionVars false

theorem bits_Len64 (n : Nat) (hn : n < 256) (H : List Blk) : ACall Tryz.prog 97 [.int .u64 n] H fun o H' => (∃ v : Int, o = .ret (.int .i64 v)) ∧ H' = H := by
  refine ACall.of_sw 25 Tryz.func97 rfl Tryz.ntmps97 (by kernel_rfl) (Nat.le_of_ble_eq_true (by kernel_rfl)) ?_; refine SW.of_vc ?_
  repeat first | refine opsStep ?_ | refine codeStep ?_ | refine drawStep ?_
  refine decB_dec (fun h1 => ?_) (fun h1 => ?_)
  · omega
  repeat first | refine opsStep ?_ | refine codeStep ?_ | refine drawStep ?_
  refine decB_dec (fun h2 => ?_) (fun h2 => ?_)
  · omega
  repeat first | refine opsStep ?_ | refine codeStep ?_ | refine drawStep ?_
  refine decB_dec (fun h3 => ?_) (fun h3 => ?_)
  · omega
  repeat first | refine opsStep ?_ | refine codeStep ?_ | refine drawStep ?_
  have hw : IntKind.wrap .u8 (n : Int) = n := IntWalk.u8_in _ (by omega)
  refine guardE_of (p := isStr Tryz.prog 9 = true) (by kernel_rfl) ?_
  refine guardE_of (p := (0 : Int) ≤ IntKind.wrap .u8 n) (by rw [hw]; omega) ?_
  refine optE_of (List.getElem?_eq_getElem (by rw [hw]; exact Nat.lt_of_lt_of_le hn (Nat.le_of_ble_eq_true (by kernel_rfl)))) ?_
  repeat first | refine opsStep ?_ | refine codeStep ?_ | refine drawStep ?_
  refine finR (l := [(2, _)]) (H₁ := H) ⟨rfl, trivial⟩ rfl (Ent.refl _ _ _) rfl ?_
  exact ⟨⟨_, rfl⟩, rfl⟩

/-- A call that leaves the heap, whose answer is some number. -/
theorem callI {P : Program} {f : FuncId} {args : List AV} {H : List Blk} {X : Out → List Blk → Prop} (h : ACall P f args H fun o H' => (∃ v : Int, o = .ret (.int .i64 v)) ∧ H' = H) (k : ∀ v, X (.ret (.int .i64 v)) H) :
    ∃ R : Out → List Blk → Prop, ACall P f args H R ∧ ∀ o H', R o H' → X o H' := ⟨_, h, by rintro _ _ ⟨⟨v, rfl⟩, rfl⟩; exact k v⟩

theorem bits_Len (n : Nat) (hn : n < 256) (H : List Blk) : ACall Tryz.prog 68 [.int .u64 n] H fun o H' => (∃ v : Int, o = .ret (.int .i64 v)) ∧ H' = H := by
  refine ACall.of_sw 8 Tryz.func68 rfl Tryz.ntmps68 (by kernel_rfl) (Nat.le_of_ble_eq_true (by kernel_rfl)) ?_; refine SW.of_vc ?_
  repeat first | refine opsStep ?_ | refine codeStep ?_ | refine drawStep ?_
  refine callI (bits_Len64 n hn H) (fun v => ?_)
  repeat first | refine opsStep ?_ | refine codeStep ?_ | refine drawStep ?_
  refine finR (l := [(2, .int .i64 v)]) (v := .int .i64 v) (H₁ := H) ⟨(by kernel_rfl), trivial⟩ rfl (Ent.refl _ _ _) (by kernel_rfl) ?_
  exact ⟨⟨v, rfl⟩, rfl⟩

theorem pdqShort (l : List (List UInt8)) (hl : l.length ≤ 12) (lim : Int) : ACall Tryz.prog 67 [.hs 0 0 0 l.length 1, .int .i64 0, .int .i64 l.length, .int .i64 lim] [.cells 0 (l.map .str)]
    fun o H' => o = .ret (.tup []) ∧ ∃ r, r.Perm l ∧ SrtTo r l.length ∧ H' = [.cells 0 (r.map .str)] := by
  have hw : IntKind.wrap .i64 ((l.length : Int) - 0) = l.length := by rw [IntWalk.i64_in _ (by omega)]; omega
  refine ACall.of_sw 134 Tryz.func67 rfl Tryz.ntmps67 (by kernel_rfl) (Nat.le_of_ble_eq_true (by kernel_rfl)) ?_; refine SW.of_vc ?_
  repeat first | refine opsStep ?_ | refine codeStep ?_ | refine drawStep ?_
  refine loopE_of (ι := Unit) (fun _ => (fr [(0, .hs 0 0 0 l.length 1), (1, .int .i64 0), (2, .int .i64 l.length), (3, .int .i64 lim)], [.cells 0 (l.map .str)])) (fun _ => 0) () (Ent.fr' ⟨(by kernel_rfl), (by kernel_rfl), (by kernel_rfl), (by kernel_rfl), trivial⟩ (by kernel_rfl)) ?_
  intro _
  repeat first | refine opsStep ?_ | refine codeStep ?_ | refine drawStep ?_
  refine decB_dec (fun h => ?_) (fun h => ?_)
  · repeat first | refine opsStep ?_ | refine codeStep ?_ | refine drawStep ?_
    refine ⟨_, insSort l (by omega), ?_⟩
    rintro o H' ⟨rfl, r, h1, h2, rfl⟩
    repeat first | refine opsStep ?_ | refine codeStep ?_ | refine drawStep ?_
    refine finR (l := []) (v := .tup []) (H₁ := [.cells 0 (r.map .str)]) trivial (by kernel_rfl) (Ent.refl _ _ _) (by kernel_rfl) ?_
    exact ⟨rfl, r, h1, h2, rfl⟩
  · rw [hw] at h
    omega

theorem slices_Sort (l : List (List UInt8)) (hl : l.length ≤ 12) : ACall Tryz.prog 47 [.hs 0 0 0 l.length 1] [.cells 0 (l.map .str)]
    fun o H' => o = .ret (.tup []) ∧ ∃ r, r.Perm l ∧ SrtTo r l.length ∧ H' = [.cells 0 (r.map .str)] := by
  have hw : IntKind.wrap .u64 (l.length : Int) = l.length := IntWalk.u64_in _ (by omega)
  have hb := fun H => bits_Len l.length (by omega) H
  rw [← hw] at hb
  refine ACall.of_sw 11 Tryz.func47 rfl Tryz.ntmps47 (by kernel_rfl) (Nat.le_of_ble_eq_true (by kernel_rfl)) ?_; refine SW.of_vc ?_
  repeat first | refine opsStep ?_ | refine codeStep ?_ | refine drawStep ?_
  refine callI (hb _) (fun v => ?_)
  repeat first | refine opsStep ?_ | refine codeStep ?_ | refine drawStep ?_
  refine ⟨_, pdqShort l hl v, ?_⟩
  rintro o H' ⟨rfl, r, h1, h2, rfl⟩
  repeat first | refine opsStep ?_ | refine codeStep ?_ | refine drawStep ?_
  refine finR (l := []) (v := .tup []) (H₁ := [.cells 0 (r.map .str)]) trivial (by kernel_rfl) (Ent.refl _ _ _) (by kernel_rfl) ?_
  exact ⟨rfl, r, h1, h2, rfl⟩

end Tab

/- Lists put in order: the plain law. -/
namespace Tab
open Go Go.Proofs
set_option maxRecDepth 10000
set_option linter.unusedVariables false
set_option linter.unusedSimpArgs false
set_option linter.unusedSectionVars false

def putS (x : List UInt8) : List (List UInt8) → List (List UInt8)
  | [] => [x]
  | y :: l => if (less x y || x == y) = true then (if less x y = true then x :: y :: l else y :: l) else y :: putS x l
def togS (l : List (List UInt8)) : List (List UInt8) := l.foldl (fun acc x => putS x acc) []
def nonN (l : List (List UInt8)) : Bool := l.any fun s => !nameS s

theorem putS_mem {x y : List UInt8} : ∀ {l : List (List UInt8)}, y ∈ putS x l ↔ y = x ∨ y ∈ l
  | [] => by simp [putS]
  | z :: l => by
    rw [putS]
    split
    · rename_i h
      split
      · simp
      · rename_i h2
        have : x = z := by simpa [h2] using h
        subst this
        simp
    · simp only [List.mem_cons, putS_mem (l := l)]
      constructor
      · rintro (h | h | h)
        · exact .inr (.inl h)
        · exact .inl h
        · exact .inr (.inr h)
      · rintro (h | h | h)
        · exact .inr (.inl h)
        · exact .inl h
        · exact .inr (.inr h)
abbrev Strict (l : List (List UInt8)) : Prop := l.Pairwise fun a b => less a b = true
theorem putS_strict {x : List UInt8} : ∀ {l : List (List UInt8)}, Strict l → Strict (putS x l)
  | [], _ => by simp [putS, Strict]
  | z :: l, h => by
    obtain ⟨h1, h2⟩ := List.pairwise_cons.1 h
    rw [putS]
    split
    · split
      · rename_i h3
        refine List.pairwise_cons.2 ⟨fun a ha => ?_, h⟩
        rcases List.mem_cons.1 ha with rfl | ha
        · exact h3
        · exact less_trans h3 (h1 a ha)
      · exact h
    · rename_i h3
      refine List.pairwise_cons.2 ⟨fun a ha => ?_, putS_strict h2⟩
      rcases putS_mem.1 ha with rfl | ha
      · simp only [Bool.or_eq_true, beq_iff_eq, not_or, Bool.not_eq_true] at h3
        cases e : less z a with
        | true => rfl
        | false => exact absurd (less_total h3.1 e) h3.2
      · exact h1 a ha
theorem strict_not_mem {x z : List UInt8} {l : List (List UInt8)} (h : Strict (z :: l)) (hx : less x z = true) : x ∉ z :: l := by
  intro hm
  rcases List.mem_cons.1 hm with rfl | hm
  · rw [less_irrefl] at hx; simp at hx
  · have := (List.pairwise_cons.1 h).1 x hm
    have := less_trans hx this
    rw [less_irrefl] at this; simp at this
theorem putS_len {x : List UInt8} : ∀ {l : List (List UInt8)}, Strict l → (putS x l).length = l.length + if x ∈ l then 0 else 1
  | [], _ => by simp [putS]
  | z :: l, h => by
    obtain ⟨h1, h2⟩ := List.pairwise_cons.1 h
    rw [putS]
    split
    · rename_i h3
      split
      · rename_i h4
        rw [if_neg (strict_not_mem h h4)]; simp
      · rename_i h4
        have : x = z := by simpa [h4] using h3
        subst this
        simp
    · rename_i h3
      simp only [Bool.or_eq_true, beq_iff_eq, not_or, Bool.not_eq_true] at h3
      rw [List.length_cons, putS_len h2]
      have : (x ∈ z :: l) ↔ x ∈ l := by simp [h3.2]
      simp only [this, List.length_cons]
      omega

theorem fold_put : ∀ (l acc : List (List UInt8)), Strict acc → Strict (l.foldl (fun acc x => putS x acc) acc) ∧ (∀ y, y ∈ l.foldl (fun acc x => putS x acc) acc ↔ y ∈ l ∨ y ∈ acc) ∧
    (l.foldl (fun acc x => putS x acc) acc).length ≤ acc.length + l.length ∧ ((l.foldl (fun acc x => putS x acc) acc).length = acc.length + l.length ↔ l.Nodup ∧ ∀ x ∈ l, x ∉ acc)
  | [], acc, h => by simp [h]
  | x :: l, acc, h => by
    obtain ⟨h1, h2, h3, h4⟩ := fold_put l (putS x acc) (putS_strict h)
    have hl := putS_len (x := x) h
    refine ⟨h1, fun y => ?_, ?_, ?_⟩
    · simp only [List.foldl_cons, h2, putS_mem, List.mem_cons]
      constructor
      · rintro (h | h | h)
        · exact .inl (.inr h)
        · exact .inl (.inl h)
        · exact .inr h
      · rintro ((h | h) | h)
        · exact .inr (.inl h)
        · exact .inl h
        · exact .inr (.inr h)
    · simp only [List.foldl_cons, List.length_cons]
      split at hl <;> omega
    · simp only [List.foldl_cons, List.length_cons, List.nodup_cons, List.mem_cons, forall_eq_or_imp]
      by_cases hx : x ∈ acc
      · rw [if_pos hx] at hl
        refine ⟨fun h => by omega, fun h => absurd hx h.2.1⟩
      · rw [if_neg hx] at hl
        rw [show acc.length + (l.length + 1) = (putS x acc).length + l.length by omega, h4]
        constructor
        · rintro ⟨k1, k2⟩
          exact ⟨⟨fun hm => k2 x hm (putS_mem.2 (.inl rfl)), k1⟩, hx, fun y hy hya => k2 y hy (putS_mem.2 (.inr hya))⟩
        · rintro ⟨⟨k1, k2⟩, _, k3⟩
          refine ⟨k2, fun y hy hyp => ?_⟩
          rcases putS_mem.1 hyp with rfl | hyp
          · exact k1 hy
          · exact k3 y hy hyp
theorem tog_strict (l) : Strict (togS l) := (fold_put l [] List.Pairwise.nil).1
theorem tog_mem (l y) : y ∈ togS l ↔ y ∈ l := by have := (fold_put l [] List.Pairwise.nil).2.1 y; simpa [togS] using this
theorem tog_len (l) : (togS l).length ≤ l.length := by have := (fold_put l [] List.Pairwise.nil).2.2.1; simpa [togS] using this
theorem tog_len_iff (l) : (togS l).length = l.length ↔ l.Nodup := by have := (fold_put l [] List.Pairwise.nil).2.2.2; simpa [togS] using this

theorem strict_eq : ∀ {a b : List (List UInt8)}, Strict a → Strict b → (∀ x, x ∈ a ↔ x ∈ b) → a = b
  | [], [], _, _, _ => rfl
  | [], b :: _, _, _, h => by have := (h b).2 (by simp); simp at this
  | a :: _, [], _, _, h => by have := (h a).1 (by simp); simp at this
  | a :: l, b :: l', h1, h2, h => by
    obtain ⟨p1, q1⟩ := List.pairwise_cons.1 h1
    obtain ⟨p2, q2⟩ := List.pairwise_cons.1 h2
    have e : a = b := by
      rcases List.mem_cons.1 ((h a).1 (by simp)) with e | e
      · exact e
      · rcases List.mem_cons.1 ((h b).2 (by simp)) with e' | e'
        · exact e'.symm
        · have := less_trans (p1 b e') (p2 a e)
          rw [less_irrefl] at this; simp at this
    subst e
    have nm : ∀ {l : List (List UInt8)}, (∀ x ∈ l, less a x = true) → a ∉ l := fun hp hm => by have := hp a hm; rw [less_irrefl] at this; simp at this
    rw [strict_eq q1 q2 fun x => ?_]
    constructor
    · intro hx
      rcases List.mem_cons.1 ((h x).1 (List.mem_cons_of_mem _ hx)) with rfl | hx'
      · exact absurd hx (nm p1)
      · exact hx'
    · intro hx
      rcases List.mem_cons.1 ((h x).2 (List.mem_cons_of_mem _ hx)) with rfl | hx'
      · exact absurd hx (nm p2)
      · exact hx'

theorem rises_strict {r : List (List UInt8)} (h : risesS r = true) : Strict r := by
  have h0 := List.all_eq_true.1 h
  have adj : ∀ i, i + 1 < r.length → less (r.getD i []) (r.getD (i + 1) []) = true := fun i hi => by
    have := h0 (i + 1) (List.mem_range.2 hi)
    simp [badAt] at this
    exact this.2
  have key : ∀ d i, i + d + 1 < r.length → less (r.getD i []) (r.getD (i + d + 1) []) = true := by
    intro d
    induction d with
    | zero => intro i hi; exact adj i (by omega)
    | succ d ih => intro i hi; exact less_trans (ih i (by omega)) (adj (i + d + 1) (by omega))
  refine List.pairwise_iff_getElem.2 fun i j hi hj hij => ?_
  have := key (j - i - 1) i (by omega)
  rw [show i + (j - i - 1) + 1 = j by omega] at this
  simpa [List.getD_eq_getElem?_getD, hi, hj] using this
theorem strict_nodup {r : List (List UInt8)} (h : Strict r) : r.Nodup := by
  refine h.imp fun hl e => ?_
  subst e
  rw [less_irrefl] at hl; simp at hl

theorem sort_ok {l r : List (List UInt8)} (hp : r.Perm l) (h : risesS r = true) : l.Nodup ∧ togS l = r := by
  have hs := rises_strict h
  refine ⟨hp.nodup_iff.1 (strict_nodup hs), strict_eq (tog_strict l) hs fun x => ?_⟩
  rw [tog_mem, hp.mem_iff]
theorem sort_bad {l r : List (List UInt8)} (hp : r.Perm l) (hs : SrtTo r l.length) (h : risesS r = false) (hn : nonN l = false) : ¬ l.Nodup := by
  intro hd
  have hd := hp.nodup_iff.2 hd
  have hrl := hp.length_eq
  have : risesS r = true := rises_ok fun j hj => by
    have hnm : nameS (r.getD j []) = true := by
      have hm : r[j] ∈ l := hp.mem_iff.1 (List.getElem_mem hj)
      have := List.any_eq_false.1 hn _ hm
      simpa [List.getD_eq_getElem?_getD, hj] using this
    rw [badAt, hnm]
    simp only [Bool.not_true, Bool.false_or, Bool.and_eq_false_iff, decide_eq_false_iff_not, Bool.not_eq_false']
    by_cases h0 : 0 < j
    · refine .inr ?_
      have h1 := hs (j - 1) (by omega)
      rw [lt2, show j - 1 + 1 = j by omega] at h1
      cases e : Op.bytesLess (r.getD (j - 1) []) (r.getD j []) with
      | true => rfl
      | false =>
        have := less_total e h1
        simp only [List.getD_eq_getElem?_getD, List.getElem?_eq_getElem hj, List.getElem?_eq_getElem (show j - 1 < r.length by omega), Option.getD_some] at this
        exact absurd this (List.pairwise_iff_getElem.1 hd (j - 1) j (by omega) hj (by omega))
    · exact .inl h0
  rw [h] at this
  simp at this

@[irreducible] def sortE (l : List (List UInt8)) : Int := if nonN l = true then 6 else if (togS l).length = l.length then 0 else 5
@[irreducible] def sortR (l : List (List UInt8)) : List (List UInt8) := if nonN l = false ∧ (togS l).length = l.length then togS l else []

theorem sort_non {l} (h : nonN l = true) : sortE l = 6 ∧ sortR l = [] := by
  rw [sortE, sortR, if_pos h, if_neg (by simp [h])]; exact ⟨rfl, rfl⟩
theorem sort_dup {l} (h : nonN l = false) (h2 : ¬ (togS l).length = l.length) : sortE l = 5 ∧ sortR l = [] := by
  rw [sortE, sortR, if_neg (by simp [h]), if_neg h2, if_neg (by simp [h2])]; exact ⟨rfl, rfl⟩
theorem sort_fine {l} (h : nonN l = false) (h2 : (togS l).length = l.length) : sortE l = 0 ∧ sortR l = togS l := by
  rw [sortE, sortR, if_neg (by simp [h]), if_pos h2, if_pos ⟨h, h2⟩]; exact ⟨rfl, rfl⟩

theorem sort_zero {l} (h : sortE l = 0) : sortR l = togS l ∧ (togS l).length = l.length ∧ nonN l = false := by
  cases hn : nonN l with
  | true => rw [(sort_non hn).1] at h; omega
  | false =>
    by_cases h2 : (togS l).length = l.length
    · exact ⟨(sort_fine hn h2).2, h2, rfl⟩
    · rw [(sort_dup hn h2).1] at h; omega

end Tab

/- Lists put in order: the walks. -/
namespace Tab
open Go Go.Proofs
set_option maxRecDepth 10000
set_option linter.unusedVariables false
set_option linter.unusedSimpArgs false
set_option linter.unusedSectionVars false

end Tab
