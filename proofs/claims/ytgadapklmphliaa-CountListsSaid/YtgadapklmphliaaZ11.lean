/- Lemmas for this claim: part 11. No condition. -/
import Derived.Test.YtgadapklmphliaaZ9
import Derived.Test.YtgadapklmphliaaZ10
/- Rows: right, their leaves, Pack, Unpack, Right. -/
namespace Tab
open Go Go.Proofs
set_option maxRecDepth 10000
set_option linter.unusedVariables false
set_option linter.unusedSimpArgs false
set_option linter.unusedSectionVars false

theorem row_right (k : SK) (r : List Int) (K : Nat) (hK : K ≤ 6) (hl : r.length = 2 ^ K) : Pure Try.prog 143 [aIs k r] (.bool (r.all fun x => decide (0 ≤ x))) := by
  have hp : 0 < 2 ^ K := Nat.two_pow_pos _
  have hb : 2 ^ K ≤ 2 ^ 6 := Nat.pow_le_pow_right (by omega) hK
  match r, hl with
  | [], hl => simp at hl; omega
  | a :: l, hl =>
  have hm := slices_Min k a l (by simp at hl; omega)
  have hz : ((a :: l).all fun x => decide (0 ≤ x)) = decide (minL a l ≥ 0) := by
    have := minL_lt l a
    rw [Bool.eq_iff_iff, List.all_eq_true, decide_eq_true_eq]
    constructor
    · intro h
      have : ¬ minL a l < 0 := fun k => by
        obtain ⟨x, hx, h2⟩ := this.1 k
        have := h x hx
        simp at this; omega
      omega
    · intro h x hx
      rw [decide_eq_true_eq]
      have : ¬ x < 0 := fun k => by have := this.2 ⟨x, hx, k⟩; omega
      omega
  rw [hz]
  generalize minL a l = m at *
  have he : ∀ N, (a :: l).length = N → aIs k (a :: l) = .sl k N ((a :: l).map (.int .i64)) := fun N h => by rw [aIs, h]
  have hc : K = 0 ∨ K = 1 ∨ K = 2 ∨ K = 3 ∨ K = 4 ∨ K = 5 ∨ K = 6 := by omega
  rcases hc with rfl | rfl | rfl | rfl | rfl | rfl | rfl
  · have hN : (a :: l).length = 1 := hl
    rw [he 1 hN] at hm
    refine Pure.of_sw 24 Try.func143 rfl Try.ntmps143 (by kernel_rfl) (Nat.le_of_ble_eq_true (by kernel_rfl)) (by simp [closeds, AV.closed, aSs_closed, aIs_closed, aBs_closed, aRs_closed, aDen_closed]) (by simp [AV.closed, closeds, aSs_closed, aIs_closed, aBs_closed, aRs_closed, aDen_closed]) ?_; refine SW.of_vc ?_
    refine VCode.ent (Ent.fr' (l := [(0, .sl k 1 ((a :: l).map (.int .i64)))]) (H' := []) ⟨he 1 hN, trivial⟩ (by kernel_rfl)) ?_
    repeat first | refine opsStep ?_ | refine codeStep ?_ | refine drawStep ?_
    refine callP hm ?_
    repeat first | refine opsStep ?_ | refine codeStep ?_ | refine drawStep ?_
    exact finB (b' := decide (m ≥ 0)) (by kernel_rfl) rfl
  · have hN : (a :: l).length = 2 := hl
    rw [he 2 hN] at hm
    refine Pure.of_sw 24 Try.func143 rfl Try.ntmps143 (by kernel_rfl) (Nat.le_of_ble_eq_true (by kernel_rfl)) (by simp [closeds, AV.closed, aSs_closed, aIs_closed, aBs_closed, aRs_closed, aDen_closed]) (by simp [AV.closed, closeds, aSs_closed, aIs_closed, aBs_closed, aRs_closed, aDen_closed]) ?_; refine SW.of_vc ?_
    refine VCode.ent (Ent.fr' (l := [(0, .sl k 2 ((a :: l).map (.int .i64)))]) (H' := []) ⟨he 2 hN, trivial⟩ (by kernel_rfl)) ?_
    repeat first | refine opsStep ?_ | refine codeStep ?_ | refine drawStep ?_
    refine callP hm ?_
    repeat first | refine opsStep ?_ | refine codeStep ?_ | refine drawStep ?_
    exact finB (b' := decide (m ≥ 0)) (by kernel_rfl) rfl
  · have hN : (a :: l).length = 4 := hl
    rw [he 4 hN] at hm
    refine Pure.of_sw 24 Try.func143 rfl Try.ntmps143 (by kernel_rfl) (Nat.le_of_ble_eq_true (by kernel_rfl)) (by simp [closeds, AV.closed, aSs_closed, aIs_closed, aBs_closed, aRs_closed, aDen_closed]) (by simp [AV.closed, closeds, aSs_closed, aIs_closed, aBs_closed, aRs_closed, aDen_closed]) ?_; refine SW.of_vc ?_
    refine VCode.ent (Ent.fr' (l := [(0, .sl k 4 ((a :: l).map (.int .i64)))]) (H' := []) ⟨he 4 hN, trivial⟩ (by kernel_rfl)) ?_
    repeat first | refine opsStep ?_ | refine codeStep ?_ | refine drawStep ?_
    refine callP hm ?_
    repeat first | refine opsStep ?_ | refine codeStep ?_ | refine drawStep ?_
    exact finB (b' := decide (m ≥ 0)) (by kernel_rfl) rfl
  · have hN : (a :: l).length = 8 := hl
    rw [he 8 hN] at hm
    refine Pure.of_sw 24 Try.func143 rfl Try.ntmps143 (by kernel_rfl) (Nat.le_of_ble_eq_true (by kernel_rfl)) (by simp [closeds, AV.closed, aSs_closed, aIs_closed, aBs_closed, aRs_closed, aDen_closed]) (by simp [AV.closed, closeds, aSs_closed, aIs_closed, aBs_closed, aRs_closed, aDen_closed]) ?_; refine SW.of_vc ?_
    refine VCode.ent (Ent.fr' (l := [(0, .sl k 8 ((a :: l).map (.int .i64)))]) (H' := []) ⟨he 8 hN, trivial⟩ (by kernel_rfl)) ?_
    repeat first | refine opsStep ?_ | refine codeStep ?_ | refine drawStep ?_
    refine callP hm ?_
    repeat first | refine opsStep ?_ | refine codeStep ?_ | refine drawStep ?_
    exact finB (b' := decide (m ≥ 0)) (by kernel_rfl) rfl
  · have hN : (a :: l).length = 16 := hl
    rw [he 16 hN] at hm
    refine Pure.of_sw 24 Try.func143 rfl Try.ntmps143 (by kernel_rfl) (Nat.le_of_ble_eq_true (by kernel_rfl)) (by simp [closeds, AV.closed, aSs_closed, aIs_closed, aBs_closed, aRs_closed, aDen_closed]) (by simp [AV.closed, closeds, aSs_closed, aIs_closed, aBs_closed, aRs_closed, aDen_closed]) ?_; refine SW.of_vc ?_
    refine VCode.ent (Ent.fr' (l := [(0, .sl k 16 ((a :: l).map (.int .i64)))]) (H' := []) ⟨he 16 hN, trivial⟩ (by kernel_rfl)) ?_
    repeat first | refine opsStep ?_ | refine codeStep ?_ | refine drawStep ?_
    refine callP hm ?_
    repeat first | refine opsStep ?_ | refine codeStep ?_ | refine drawStep ?_
    exact finB (b' := decide (m ≥ 0)) (by kernel_rfl) rfl
  · have hN : (a :: l).length = 32 := hl
    rw [he 32 hN] at hm
    refine Pure.of_sw 24 Try.func143 rfl Try.ntmps143 (by kernel_rfl) (Nat.le_of_ble_eq_true (by kernel_rfl)) (by simp [closeds, AV.closed, aSs_closed, aIs_closed, aBs_closed, aRs_closed, aDen_closed]) (by simp [AV.closed, closeds, aSs_closed, aIs_closed, aBs_closed, aRs_closed, aDen_closed]) ?_; refine SW.of_vc ?_
    refine VCode.ent (Ent.fr' (l := [(0, .sl k 32 ((a :: l).map (.int .i64)))]) (H' := []) ⟨he 32 hN, trivial⟩ (by kernel_rfl)) ?_
    repeat first | refine opsStep ?_ | refine codeStep ?_ | refine drawStep ?_
    refine callP hm ?_
    repeat first | refine opsStep ?_ | refine codeStep ?_ | refine drawStep ?_
    exact finB (b' := decide (m ≥ 0)) (by kernel_rfl) rfl
  · have hN : (a :: l).length = 64 := hl
    rw [he 64 hN] at hm
    refine Pure.of_sw 24 Try.func143 rfl Try.ntmps143 (by kernel_rfl) (Nat.le_of_ble_eq_true (by kernel_rfl)) (by simp [closeds, AV.closed, aSs_closed, aIs_closed, aBs_closed, aRs_closed, aDen_closed]) (by simp [AV.closed, closeds, aSs_closed, aIs_closed, aBs_closed, aRs_closed, aDen_closed]) ?_; refine SW.of_vc ?_
    refine VCode.ent (Ent.fr' (l := [(0, .sl k 64 ((a :: l).map (.int .i64)))]) (H' := []) ⟨he 64 hN, trivial⟩ (by kernel_rfl)) ?_
    repeat first | refine opsStep ?_ | refine codeStep ?_ | refine drawStep ?_
    refine callP hm ?_
    repeat first | refine opsStep ?_ | refine codeStep ?_ | refine drawStep ?_
    exact finB (b' := decide (m ≥ 0)) (by kernel_rfl) rfl

theorem row_leaf (c : Cb) (L : List Cb) (hL : L.length < 2^40) : ACall Try.prog 145 [.agg (cb3 c), .ref 0 0 0] [Blk.cells 0 [.hs 1 (L).length 0 (L).length 3], .cells (L).length (cc3 (L))] fun o H' => o = .ret (.tup []) ∧ H' = [Blk.cells 0 [.hs 1 (L ++ [c]).length 0 (L ++ [c]).length 3], .cells (L ++ [c]).length (cc3 (L ++ [c]))] := by
  have hl : (L ++ [c]).length = L.length + 1 := by simp
  have hcc : (cc3 L).length = L.length * 3 := cc3_length L
  refine ACall.of_sw 7 Try.func145 rfl Try.ntmps145 (by kernel_rfl) (Nat.le_of_ble_eq_true (by kernel_rfl)) ?_; refine SW.of_vc ?_
  repeat first | refine opsStep ?_ | refine codeStep ?_ | refine drawStep ?_
  refine guardE_of ⟨rfl, by show 0 + L.length * 3 ≤ (cc3 L).length; omega⟩ ?_
  repeat first | refine opsStep ?_ | refine codeStep ?_ | refine drawStep ?_
  refine guardE_of rfl ?_
  repeat first | refine opsStep ?_ | refine codeStep ?_ | refine drawStep ?_
  refine guardE_of ⟨by omega, by show (L.length + 1) * 24 ≤ 140737488355328; omega⟩ ?_
  repeat first | refine opsStep ?_ | refine codeStep ?_ | refine drawStep ?_
  refine finR (l := []) (H₁ := [Blk.cells 0 [.hs 1 (L ++ [c]).length 0 (L ++ [c]).length 3], .cells (L ++ [c]).length (cc3 (L ++ [c]))] ++ [.cells 0 (cb3 c), .cells 0 (cb3 c)]) (v := .tup []) trivial (Eq.trans (b := [.cells 0 [.hs 1 (L.length + 1) 0 (L.length + 1) 3], .cells (L.length + 1) (((cc3 L).drop 0).take (L.length * 3) ++ cb3 c), .cells 0 (cb3 c), .cells 0 (cb3 c)]) (by kernel_rfl) ?_) (Ent.drop (Nat.le_of_ble_eq_true (by kernel_rfl)) trivial ?_) (by kernel_rfl) ⟨rfl, rfl⟩
  · rw [hl, List.drop_zero, List.take_of_length_le (by omega), cc3_append]; simp [cc3]
  · simp [blksBel, Blk.bel, bels, AV.bel, closeds_bel _ (cc3_closed _)]

theorem or_pow {m k : Nat} (h : 2 ^ (k + 1) ∣ m) (hm : m ≤ 1000) (hk : k ≤ 6) : AV.int .i64 (orI m ((2 ^ k : Nat) : Int)) = AV.int .i64 ((m + 2 ^ k : Nat) : Int) := by
  have hb : 2 ^ k ≤ 2 ^ 6 := Nat.pow_le_pow_right (by omega) hk
  rw [orI_nat (by omega) (by omega), or_add h]

theorem row_leaves : ∀ (K : Nat), K ≤ 6 → ∀ (kk : SK) (r : List Int) (m b : Nat) (L : List Cb), r.length = 2 ^ K → 2 ^ K ∣ m → 2 ^ K ∣ b → m + 64 * K ≤ 1000 → b + 64 * K ≤ 1000 → L.length + 2 ^ K ≤ 2 ^ 40 →
    ACall Try.prog 144 [aIs kk r, .int .i64 m, .int .i64 b, .fn (.func 145) [] [.ref 0 0 0]] [Blk.cells 0 [.hs 1 (L).length 0 (L).length 3], .cells (L).length (cc3 (L))] fun o H' => o = .ret (.tup []) ∧ H' = [Blk.cells 0 [.hs 1 (L ++ cubR K r m b).length 0 (L ++ cubR K r m b).length 3], .cells (L ++ cubR K r m b).length (cc3 (L ++ cubR K r m b))]
  | 0, _, kk, r, m, b, L, hr, _, _, _, _, hL => by
    obtain ⟨x, rfl⟩ : ∃ x, r = [x] := by
      match r, hr with
      | [x], _ => exact ⟨x, rfl⟩
    have hlf := row_leaf ((m : Int), (b : Int), x) L (by omega)
    refine ACall.of_sw 58 Try.func144 rfl Try.ntmps144 (by kernel_rfl) (Nat.le_of_ble_eq_true (by kernel_rfl)) ?_; refine SW.of_vc ?_
    iterate 2 refine codeStep ?_
    iterate 5 refine opsStep ?_
    refine VCode.ent (Ent.fr' (l := [(0, aIs kk [x]), (1, .int .i64 m), (2, .int .i64 b), (3, .fn (.func 145) [] [.ref 0 0 0]), (8, .int .i64 0)]) (H' := [Blk.cells 0 [.hs 1 (L).length 0 (L).length 3], .cells (L).length (cc3 (L))]) ⟨(by kernel_rfl), (by kernel_rfl), (by kernel_rfl), (by kernel_rfl), (by kernel_rfl), trivial⟩ (by kernel_rfl)) ?_
    repeat first | refine opsStep ?_ | refine codeStep ?_ | refine drawStep ?_
    refine callH hlf ?_
    repeat first | refine opsStep ?_ | refine codeStep ?_ | refine drawStep ?_
    exact finR (l := []) (H₁ := [Blk.cells 0 [.hs 1 (L ++ [((m : Int), (b : Int), x)]).length 0 (L ++ [((m : Int), (b : Int), x)]).length 3], .cells (L ++ [((m : Int), (b : Int), x)]).length (cc3 (L ++ [((m : Int), (b : Int), x)]))]) (v := .tup []) trivial (by kernel_rfl) (Ent.refl _ _ _) (by kernel_rfl) ⟨rfl, rfl⟩
  | K + 1, hK, kk, r, m, b, L, hr, hdm, hdb, hm, hb, hL => by
    have hp : 2 ^ (K + 1) = 2 ^ K + 2 ^ K := by rw [Nat.pow_succ]; omega
    have hq : 2 ^ K ≤ 2 ^ 6 := Nat.pow_le_pow_right (by omega) (by omega)
    have hpos : 0 < 2 ^ K := Nat.two_pow_pos _
    have om := or_pow hdm (by omega) (show K ≤ 6 by omega)
    have ob := or_pow hdb (by omega) (show K ≤ 6 by omega)
    have hd : 2 ^ K ∣ 2 ^ (K + 1) := ⟨2, by omega⟩
    have i0 := row_leaves K (by omega) kk.cut (r.take (2 ^ K)) m b L (by simp; omega) (Nat.dvd_trans hd hdm) (Nat.dvd_trans hd hdb) (by omega) (by omega) (by omega)
    have hln := cubR_len K (r.take (2 ^ K)) (m + 2 ^ K) b
    have i1 := row_leaves K (by omega) kk.cut (r.take (2 ^ K)) (m + 2 ^ K) b L (by simp; omega) (Nat.dvd_add (Nat.dvd_trans hd hdm) (Nat.dvd_refl _)) (Nat.dvd_trans hd hdb) (by omega) (by omega) (by omega)
    have i2 := row_leaves K (by omega) kk.cut (r.drop (2 ^ K)) (m + 2 ^ K) (b + 2 ^ K) (L ++ cubR K (r.take (2 ^ K)) (m + 2 ^ K) b) (by simp; omega) (Nat.dvd_add (Nat.dvd_trans hd hdm) (Nat.dvd_refl _)) (Nat.dvd_add (Nat.dvd_trans hd hdb) (Nat.dvd_refl _)) (by omega) (by omega) (by rw [List.length_append]; omega)
    rw [← om] at i1 i2
    rw [← ob] at i2
    have hEq := slices_Equal_I kk.cut kk.cut (r.take (2 ^ K)) (r.drop (2 ^ K)) (by simp; omega) (by simp; omega)
    have hcub : cubR (K + 1) r m b = if r.take (2 ^ K) = r.drop (2 ^ K) then cubR K (r.take (2 ^ K)) m b else cubR K (r.take (2 ^ K)) (m + 2 ^ K) b ++ cubR K (r.drop (2 ^ K)) (m + 2 ^ K) (b + 2 ^ K) := rfl
    generalize cubR (K + 1) r m b = C at *
    generalize cubR K (r.take (2 ^ K)) (m + 2 ^ K) b = C1 at *
    generalize cubR K (r.drop (2 ^ K)) (m + 2 ^ K) (b + 2 ^ K) = C2 at *
    generalize cubR K (r.take (2 ^ K)) m b = C0 at *
    generalize 2 ^ K = h at *
    have e1 : aIs kk.cut (r.take h) = .sl kk.cut ((h : Int).toNat - (0 : Int).toNat) (((r.map (AV.int .i64)).drop ((0 : Int).toNat * 1)).take (((h : Int).toNat - (0 : Int).toNat) * 1)) := by
      rw [aIs]; simp; omega
    have e2 : aIs kk.cut (r.drop h) = .sl kk.cut ((r.length : Int).toNat - (h : Int).toNat) (((r.map (AV.int .i64)).drop ((h : Int).toNat * 1)).take (((r.length : Int).toNat - (h : Int).toNat) * 1)) := by
      rw [aIs]; simp; rw [List.take_of_length_le (by simp)]
    rw [e1, e2] at hEq
    rw [e1] at i0 i1
    rw [e2] at i2
    have hw : IntKind.wrap .i64 ((r.length : Int).tdiv 2) = (h : Int) := by
      rw [show (r.length : Int) = 2 * (h : Int) by omega, Int.mul_tdiv_cancel_left _ (by decide), IntWalk.i64_in _ (by omega)]
    refine ACall.of_sw 58 Try.func144 rfl Try.ntmps144 (by kernel_rfl) (Nat.le_of_ble_eq_true (by kernel_rfl)) ?_; refine SW.of_vc ?_
    iterate 2 refine codeStep ?_
    iterate 5 refine opsStep ?_
    refine VCode.ent (Ent.fr' (l := [(0, aIs kk r), (1, .int .i64 m), (2, .int .i64 b), (3, .fn (.func 145) [] [.ref 0 0 0]), (8, .int .i64 h)]) (H' := [Blk.cells 0 [.hs 1 (L).length 0 (L).length 3], .cells (L).length (cc3 (L))]) ⟨(by kernel_rfl), (by kernel_rfl), (by kernel_rfl), (by kernel_rfl), congrArg (AV.int .i64) hw, trivial⟩ (by kernel_rfl)) ?_
    repeat first | refine opsStep ?_ | refine codeStep ?_ | refine drawStep ?_
    refine decB_dec (fun h0 => ?_) (fun h0 => ?_)
    · exact absurd h0 (by omega)
    repeat first | refine opsStep ?_ | refine codeStep ?_ | refine drawStep ?_
    refine SW.drawn rfl (by kernel_rfl) ?_
    repeat first | refine opsStep ?_ | refine codeStep ?_ | refine drawStep ?_
    refine guardE_of (by simp; omega) ?_
    repeat first | refine opsStep ?_ | refine codeStep ?_ | refine drawStep ?_
    refine guardE_of (by simp; omega) ?_
    repeat first | refine opsStep ?_ | refine codeStep ?_ | refine drawStep ?_
    refine .inl ⟨_, _, [], hEq, RdsN_refl _, .inr rfl, none_need, ?_⟩
    repeat first | refine opsStep ?_ | refine codeStep ?_ | refine drawStep ?_
    refine ⟨by kernel_rfl, ?_⟩
    repeat first | refine opsStep ?_ | refine codeStep ?_ | refine drawStep ?_
    refine decB_dec (fun heq => ?_) (fun heq => ?_)
    · repeat first | refine opsStep ?_ | refine codeStep ?_ | refine drawStep ?_
      refine guardE_of (by simp; omega) ?_
      repeat first | refine opsStep ?_ | refine codeStep ?_ | refine drawStep ?_
      refine callH i0 ?_
      repeat first | refine opsStep ?_ | refine codeStep ?_ | refine drawStep ?_
      refine finR (l := []) (H₁ := [Blk.cells 0 [.hs 1 (L ++ C0).length 0 (L ++ C0).length 3], .cells (L ++ C0).length (cc3 (L ++ C0))]) (v := .tup []) trivial (by kernel_rfl) (Ent.refl _ _ _) (by kernel_rfl) ⟨rfl, ?_⟩
      rw [hcub, if_pos heq]
    · repeat first | refine opsStep ?_ | refine codeStep ?_ | refine drawStep ?_
      refine guardE_of (by simp; omega) ?_
      repeat first | refine opsStep ?_ | refine codeStep ?_ | refine drawStep ?_
      refine callH i1 ?_
      repeat first | refine opsStep ?_ | refine codeStep ?_ | refine drawStep ?_
      refine guardE_of (by simp; omega) ?_
      repeat first | refine opsStep ?_ | refine codeStep ?_ | refine drawStep ?_
      refine callH i2 ?_
      repeat first | refine opsStep ?_ | refine codeStep ?_ | refine drawStep ?_
      refine finR (l := []) (H₁ := [Blk.cells 0 [.hs 1 ((L ++ C1) ++ C2).length 0 ((L ++ C1) ++ C2).length 3], .cells ((L ++ C1) ++ C2).length (cc3 ((L ++ C1) ++ C2))]) (v := .tup []) trivial (by kernel_rfl) (Ent.refl _ _ _) (by kernel_rfl) ⟨rfl, ?_⟩
      rw [hcub, if_neg heq, List.append_assoc]

end Tab

/- Rows: Pack, Unpack, Right. -/
namespace Tab
open Go Go.Proofs
set_option maxRecDepth 10000
set_option linter.unusedVariables false
set_option linter.unusedSimpArgs false
set_option linter.unusedSectionVars false

theorem ints_cl (l : List Int) : closeds (l.map (.int .i64)) := aIs_closed .any l
theorem cubR_ok : ∀ (K : Nat), K ≤ 6 → ∀ (r : List Int) (m b : Nat), (∀ x ∈ r, okI x) → m + 64 * K ≤ 1000 → b + 64 * K ≤ 1000 → ∀ c ∈ cubR K r m b, okC c
  | 0, _, r, m, b, hr, hm, hb, c, hc => by
    simp only [cubR, List.mem_singleton] at hc
    subst hc
    refine ⟨⟨by show -(2 ^ 63) ≤ (m : Int); omega, by show (m : Int) < 2 ^ 63; omega⟩, ⟨by show -(2 ^ 63) ≤ (b : Int); omega, by show (b : Int) < 2 ^ 63; omega⟩, ?_⟩
    show okI (r.getD 0 0)
    cases r with
    | nil => exact ⟨by decide, by decide⟩
    | cons x r => exact hr x (by simp)
  | K + 1, hK, r, m, b, hr, hm, hb, c, hc => by
    have hq : 2 ^ K ≤ 2 ^ 6 := Nat.pow_le_pow_right (by omega) (by omega)
    have ht : ∀ x ∈ r.take (2 ^ K), okI x := fun x h => hr x (List.mem_of_mem_take h)
    have hd : ∀ x ∈ r.drop (2 ^ K), okI x := fun x h => hr x (List.mem_of_mem_drop h)
    rw [cubR] at hc
    split at hc
    · exact cubR_ok K (by omega) _ m b ht (by omega) (by omega) c hc
    · rcases List.mem_append.1 hc with hc | hc
      · exact cubR_ok K (by omega) _ _ b ht (by omega) (by omega) c hc
      · exact cubR_ok K (by omega) _ _ _ hd (by omega) (by omega) c hc
theorem atC_ok {cs : List Cb} (h : ∀ c ∈ cs, okC c) (i : Int) : okI ((atC cs i).getD 0) := by
  rw [atC]
  cases e : cs.find? (hitC i) with
  | none => exact ⟨by decide, by decide⟩
  | some c => exact (h c (List.mem_of_find?_eq_some e)).2.2
theorem rowC_ok {cs : List Cb} (h : ∀ c ∈ cs, okC c) (k : Nat) : ∀ x ∈ rowC cs k, okI x := by
  intro x hx
  obtain ⟨i, _, rfl⟩ := List.mem_map.1 hx
  exact atC_ok h i

theorem row_Pack_bad (k : SK) (r : List Int) (K : Nat) (hK : K ≤ 6) (hl : r.length = 2 ^ K) (h : (r.all fun x => decide (0 ≤ x)) = false) : Pure Try.prog 111 [aIs k r] (.tup [.sl .nil 0 [], .int .i64 3]) := by
  have hr := row_right k r K hK hl
  rw [h] at hr
  refine Pure.of_sw 12 Try.func111 rfl Try.ntmps111 (by kernel_rfl) (Nat.le_of_ble_eq_true (by kernel_rfl)) (by simp [closeds, AV.closed, aSs_closed, aIs_closed, aBs_closed, aRs_closed, aDen_closed]) (by simp [AV.closed, closeds, aSs_closed, aIs_closed, aBs_closed, aRs_closed, aDen_closed]) ?_; refine SW.of_vc ?_
  repeat first | refine opsStep ?_ | refine codeStep ?_ | refine drawStep ?_
  refine callP hr ?_
  repeat first | refine opsStep ?_ | refine codeStep ?_ | refine drawStep ?_
  exact finV (v' := .tup [.sl .nil 0 [], .int .i64 3]) (by kernel_rfl) rfl
theorem row_Pack_ok (k : SK) (r : List Int) (K : Nat) (hK : K ≤ 6) (hl : r.length = 2 ^ K) (h : (r.all fun x => decide (0 ≤ x)) = true) : Pure Try.prog 111 [aIs k r] (.tup [aCs .any (cubR K r 0 0), .int .i64 0]) := by
  have hr := row_right k r K hK hl
  rw [h] at hr
  have hq : 2 ^ K ≤ 2 ^ 6 := Nat.pow_le_pow_right (by omega) (by omega)
  have hlv := row_leaves K hK k r 0 0 [] hl (Nat.dvd_zero _) (Nat.dvd_zero _) (by omega) (by omega) (by simp; omega)
  rw [List.nil_append] at hlv
  generalize cubR K r 0 0 = C at *
  refine Pure.of_read (by simp [closeds, aIs_closed]) (by simp [AV.closed, closeds, aCs_closed]) (R := fun o H' => o = .ret (.tup [.hs 1 C.length 0 C.length 3, .int .i64 0]) ∧ H' = [Blk.cells 0 [.hs 1 (C).length 0 (C).length 3], .cells (C).length (cc3 (C))]) ?_ ?_
  · refine ACall.of_sw 12 Try.func111 rfl Try.ntmps111 (by kernel_rfl) (Nat.le_of_ble_eq_true (by kernel_rfl)) ?_; refine SW.of_vc ?_
    refine codeStep ?_
    refine codeStep ?_
    iterate 3 refine opsStep ?_
    refine VCode.upto (fr [(0, aIs k r)]) [] ?_ ?_
    · repeat first | refine opsStep ?_ | refine codeStep ?_ | refine drawStep ?_
      refine callP hr ?_
      repeat first | refine opsStep ?_ | refine codeStep ?_ | refine drawStep ?_
      show Ent _ _ _ _ _
      exact Ent.fr' ⟨(by kernel_rfl), trivial⟩ (by kernel_rfl)
    refine VCode.upto (fr [(0, aIs k r), (4, .ref 0 0 0)]) [.cells 0 [.hs 1 0 0 0 3], .cells 0 []] ?_ ?_
    · repeat first | refine opsStep ?_ | refine codeStep ?_ | refine drawStep ?_
      show Ent _ _ _ _ _
      exact ((Ent.fr' (l := [(0, aIs k r), (4, .ref 0 0 0)]) (H' := [.cells 0 [.sl .nil 0 []]]) ⟨(by kernel_rfl), (by kernel_rfl), trivial⟩ (by kernel_rfl)).trans (Ent.nilCell 0 0 3 rfl rfl)).to rfl
    repeat first | refine opsStep ?_ | refine codeStep ?_ | refine drawStep ?_
    refine callH hlv ?_
    repeat first | refine opsStep ?_ | refine codeStep ?_ | refine drawStep ?_
    exact finR (l := [(2, .hs 1 C.length 0 C.length 3), (3, .int .i64 0)]) (H₁ := [Blk.cells 0 [.hs 1 (C).length 0 (C).length 3], .cells (C).length (cc3 (C))]) (v := .tup [.hs 1 C.length 0 C.length 3, .int .i64 0]) ⟨(by kernel_rfl), (by kernel_rfl), trivial⟩ (by kernel_rfl) (Ent.refl _ _ _) (by kernel_rfl) ⟨rfl, rfl⟩
  · rintro o H' ⟨rfl, rfl⟩
    exact ⟨_, rfl, .tup (.cons (Rd.whole rfl (cc3_length C).symm) (.cons (.refl _) .nil))⟩

def rowU (cs : List Cb) (k : Nat) : AV := if cubesOk cs k = true then .tup [aIs .any (rowC cs k), .int .i64 0] else .tup [.sl .nil 0 [], .int .i64 3]
theorem cubesOk_iff {cs k} : cubesOk cs k = true ↔ cs.length ≤ 2 ^ k ∧ (∀ i : Nat, i < 2 ^ k → (atC cs i).isSome = true) ∧ ((rowC cs k).all fun x => decide (0 ≤ x)) = true ∧ cubR k (rowC cs k) 0 0 = cs := by
  simp only [cubesOk, Bool.and_eq_true, decide_eq_true_eq, List.all_eq_true, List.mem_range]
  exact ⟨fun ⟨⟨⟨h1, h2⟩, h3⟩, h4⟩ => ⟨h1, h2, h3, h4⟩, fun ⟨h1, h2, h3, h4⟩ => ⟨⟨⟨h1, h2⟩, h3⟩, h4⟩⟩

theorem row_Unpack (kc : SK) (cs : List Cb) (k : Nat) (hk : k ≤ 6) (hl : cs.length < 2^40) (ho : ∀ c ∈ cs, okC c) : Pure Try.prog 76 [aCs kc cs, .int .i64 k] (rowU cs k) := by
  have hq : 2 ^ k ≤ 2 ^ 6 := Nat.pow_le_pow_right (by omega) (by omega)
  have hb := shl_one (k := k) (by omega)
  have hat := fun i : Nat => row_At kc cs i (by omega)
  have hrl := rowC_length cs k
  have hio := cubesOk_iff (cs := cs) (k := k)
  have hpb := row_Pack_bad .any (rowC cs k) k hk hrl
  have hpo := row_Pack_ok .any (rowC cs k) k hk hrl
  have hE := slices_Equal_C .any kc (cubR k (rowC cs k) 0 0) cs (by have := (cubR_len k (rowC cs k) 0 0).1; omega) (by omega) (cubR_ok k hk _ 0 0 (rowC_ok ho k) (by omega) (by omega)) ho
  have hfull : partL (fun i => (atC cs i).getD 0) (2 ^ k) (2 ^ k) = rowC cs k := partL_full _ _
  have hR : aIs .any (rowC cs k) = .sl .any (2 ^ k) ((rowC cs k).map (.int .i64)) := by rw [aIs, hrl]
  have hv : rowU cs k = if cubesOk cs k = true then .tup [.sl .any (2 ^ k) ((rowC cs k).map (.int .i64)), .int .i64 0] else .tup [.sl .nil 0 [], .int .i64 3] := by rw [rowU, hR]
  rw [hR] at hpb hpo
  rw [hv]
  generalize cubR k (rowC cs k) 0 0 = C at *
  generalize rowC cs k = r at *
  generalize cubesOk cs k = ok at *
  generalize 2 ^ k = q at *
  refine Pure.of_read (by simp [closeds, aCs_closed, AV.closed]) (by split <;> simp [AV.closed, closeds, ints_cl]) (R := fun o H' => (ok = false ∧ o = .ret (.tup [.sl .nil 0 [], .int .i64 3])) ∨ (ok = true ∧ o = .ret (.tup [.hs 0 0 0 q 1, .int .i64 0]) ∧ H' = [.fro 0 (r.map (.int .i64))])) ?_ ?_
  · refine ACall.of_sw 59 Try.func76 rfl Try.ntmps76 (by kernel_rfl) (Nat.le_of_ble_eq_true (by kernel_rfl)) ?_; refine SW.of_vc ?_
    repeat first | refine opsStep ?_ | refine codeStep ?_ | refine drawStep ?_
    refine decB_dec (fun h => ?_) (fun h => ?_)
    · exact absurd h (by omega)
    repeat first | refine opsStep ?_ | refine codeStep ?_ | refine drawStep ?_
    refine decB_dec (fun h => ?_) (fun h => ?_)
    · repeat first | refine opsStep ?_ | refine codeStep ?_ | refine drawStep ?_
      refine finR (l := [(4, .sl .nil 0 []), (5, .int .i64 3)]) (H₁ := []) (v := .tup [.sl .nil 0 [], .int .i64 3]) ⟨(by kernel_rfl), (by kernel_rfl), trivial⟩ (by kernel_rfl) (Ent.refl _ _ _) (by kernel_rfl) (.inl ⟨?_, rfl⟩)
      rw [← Bool.not_eq_true, hio]
      rintro ⟨h1, _⟩
      rw [hb] at h; omega
    have hcl : cs.length ≤ q := by rw [hb] at h; omega
    repeat first | refine opsStep ?_ | refine codeStep ?_ | refine drawStep ?_
    refine guardE_of (by rw [hb]; exact ⟨by omega, by omega, by show (8 : Int) * (q : Int) ≤ 281474976710656; omega, by omega⟩) ?_
    repeat first | refine opsStep ?_ | refine codeStep ?_ | refine drawStep ?_
    refine loopE_of (ι := {a : Nat // a ≤ q ∧ ∀ i : Nat, i < a → (atC cs i).isSome = true})
      (fun a => (fr [(0, aCs kc cs), (7, .hs 0 0 0 q 1), (28, .int .i64 q), (29, .int .i64 a.1)], [.cells 0 ((partL (fun i => (atC cs i).getD 0) q a.1).map (.int .i64))]))
      (fun a => q - a.1) ⟨0, by omega, fun _ h => by omega⟩ (Ent.fr' ⟨(by kernel_rfl), ?_, ?_, (by kernel_rfl), trivial⟩ ?_) ?_
    · refine Eq.trans (b := .hs 0 0 0 (IntKind.wrap .i64 (1 * 2 ^ (min (k : Int).toNat (IntKind.bits .i64)))).toNat 1) (by kernel_rfl) ?_
      rw [hb]; rfl
    · refine Eq.trans (b := .int .i64 ((IntKind.wrap .i64 (1 * 2 ^ (min (k : Int).toNat (IntKind.bits .i64)))).toNat : Nat)) (by kernel_rfl) ?_
      rw [hb]; rfl
    · refine Eq.trans (b := [.cells 0 (reps [.int .i64 0] (IntKind.wrap .i64 (1 * 2 ^ (min (k : Int).toNat (IntKind.bits .i64)))).toNat)]) (by kernel_rfl) ?_
      rw [hb, reps_one, partL_zero]; simp
    rintro ⟨a, ha, hsome⟩
    repeat first | refine opsStep ?_ | refine codeStep ?_ | refine drawStep ?_
    refine decB_dec (fun g => ?_) (fun g => ?_)
    · have haq : a < q := by have := g; simp at this; omega
      have hat := hat a
      cases hx : atC cs a with
      | none =>
        rw [hx] at hat
        repeat first | refine opsStep ?_ | refine codeStep ?_ | refine drawStep ?_
        refine callP hat ?_
        repeat first | refine opsStep ?_ | refine codeStep ?_ | refine drawStep ?_
        refine finR (l := [(4, .sl .nil 0 []), (5, .int .i64 3)]) (H₁ := [.cells 0 ((partL (fun i => (atC cs i).getD 0) q a).map (.int .i64))]) (v := .tup [.sl .nil 0 [], .int .i64 3]) ⟨(by kernel_rfl), (by kernel_rfl), trivial⟩ (by kernel_rfl) (Ent.refl _ _ _) (by kernel_rfl) (.inl ⟨?_, rfl⟩)
        rw [← Bool.not_eq_true, hio]
        rintro ⟨_, h2, _⟩
        have := h2 a haq
        rw [hx] at this; simp at this
      | some x =>
        rw [hx] at hat
        repeat first | refine opsStep ?_ | refine codeStep ?_ | refine drawStep ?_
        refine callP hat ?_
        repeat first | refine opsStep ?_ | refine codeStep ?_ | refine drawStep ?_
        refine guardE_of (by simp; omega) ?_
        repeat first | refine opsStep ?_ | refine codeStep ?_ | refine drawStep ?_
        refine guardE_of ⟨rfl, by decide, by show 0 + a * 1 + 1 ≤ ((partL (fun i => (atC cs i).getD 0) q a).map (AV.int .i64)).length; simp [partL_length]; omega⟩ ?_
        repeat first | refine opsStep ?_ | refine codeStep ?_ | refine drawStep ?_
        refine ⟨⟨a + 1, by omega, fun i hi => ?_⟩, (by show q - (a + 1) < q - a; omega), Ent.fr' ⟨(by kernel_rfl), (by kernel_rfl), (by kernel_rfl), inc_slot (i := a) (by omega), trivial⟩ ?_⟩
        · by_cases e : i = a
          · subst e; rw [hx]; rfl
          · exact hsome i (by omega)
        · refine Eq.trans (b := [Blk.cells 0 (over ((partL (fun i => (atC cs i).getD 0) q a).map (.int .i64)) (0 + a * 1) [.int .i64 x])]) (by kernel_rfl) ?_
          show _ = [Blk.cells 0 ((partL (fun i => (atC cs i).getD 0) q (a + 1)).map (.int .i64))]
          rw [Nat.zero_add, Nat.mul_one, over_one (by simp [partL_length]; omega), ← partL_step, List.map_set, hx]
          rfl
    · have haq : a = q := by have := g; simp at this; omega
      subst haq
      rw [hfull]
      cases hp : r.all fun x => decide (0 ≤ x) with
      | false =>
        repeat first | refine opsStep ?_ | refine codeStep ?_ | refine drawStep ?_
        refine callZ 0 (g := 0) (cs := r.map (.int .i64)) (by kernel_rfl) (hpb hp) (.hs (b := 0) (g := 0) rfl (by simp [hrl]) .nil) ?_
        repeat first | refine opsStep ?_ | refine codeStep ?_ | refine drawStep ?_
        refine finR (l := [(4, .sl .nil 0 []), (5, .int .i64 3)]) (H₁ := [.fro 0 (r.map (.int .i64))]) (v := .tup [.sl .nil 0 [], .int .i64 3]) ⟨(by kernel_rfl), (by kernel_rfl), trivial⟩ (by kernel_rfl) (Ent.refl _ _ _) (by kernel_rfl) (.inl ⟨?_, rfl⟩)
        rw [← Bool.not_eq_true, hio]
        rintro ⟨_, _, h3, _⟩
        rw [hp] at h3; simp at h3
      | true =>
        repeat first | refine opsStep ?_ | refine codeStep ?_ | refine drawStep ?_
        refine callZ 0 (g := 0) (cs := r.map (.int .i64)) (by kernel_rfl) (hpo hp) (.hs (b := 0) (g := 0) rfl (by simp [hrl]) .nil) ?_
        repeat first | refine opsStep ?_ | refine codeStep ?_ | refine drawStep ?_
        by_cases he : C = cs
        · rw [decide_eq_true he] at hE
          refine callP hE ?_
          repeat first | refine opsStep ?_ | refine codeStep ?_ | refine drawStep ?_
          refine finR (l := [(4, .hs 0 0 0 a 1), (5, .int .i64 0)]) (H₁ := [.fro 0 (r.map (.int .i64))]) (v := .tup [.hs 0 0 0 a 1, .int .i64 0]) ⟨(by kernel_rfl), (by kernel_rfl), trivial⟩ (by kernel_rfl) (Ent.refl _ _ _) (by kernel_rfl) (.inr ⟨hio.2 ⟨hcl, hsome, hp, he⟩, rfl, rfl⟩)
        · rw [decide_eq_false he] at hE
          refine callP hE ?_
          repeat first | refine opsStep ?_ | refine codeStep ?_ | refine drawStep ?_
          refine finR (l := [(4, .sl .nil 0 []), (5, .int .i64 3)]) (H₁ := [.fro 0 (r.map (.int .i64))]) (v := .tup [.sl .nil 0 [], .int .i64 3]) ⟨(by kernel_rfl), (by kernel_rfl), trivial⟩ (by kernel_rfl) (Ent.refl _ _ _) (by kernel_rfl) (.inl ⟨?_, rfl⟩)
          rw [← Bool.not_eq_true, hio]
          rintro ⟨_, _, _, h4⟩
          exact he h4
  · rintro o H' (⟨h, rfl⟩ | ⟨h, rfl, rfl⟩)
    · exact ⟨_, rfl, by rw [h]; exact .refl _⟩
    · refine ⟨_, rfl, ?_⟩
      rw [h]
      exact .tup (.cons (Rd.frozen rfl (by simp [hrl])) (.cons (.refl _) .nil))

end Tab

/- Tables: rowOf, Check, Unpack. -/
namespace Tab
open Go Go.Proofs
set_option maxRecDepth 10000
set_option linter.unusedVariables false
set_option linter.unusedSimpArgs false
set_option linter.unusedSectionVars false

theorem rowU_ok {cs k} (h : cubesOk cs k = true) : rowU cs k = .tup [aIs .any (rowC cs k), .int .i64 0] := by rw [rowU, if_pos h]
theorem rowU_bad {cs k} (h : cubesOk cs k = false) : rowU cs k = .tup [.sl .nil 0 [], .int .i64 3] := by rw [rowU, h]; rfl
theorem row_Right (kc : SK) (cs : List Cb) (k n : Nat) (hk : k ≤ 6) (hl : cs.length < 2^40) (ho : ∀ c ∈ cs, okC c) : Pure Try.prog 109 [aCs kc cs, .int .i64 k, .int .i64 n] (.bool (cubesOk cs k && (rowC cs k).all fun x => decide (x < n))) := by
  have hu := row_Unpack kc cs k hk hl ho
  have hq : 2 ^ k ≤ 2 ^ 6 := Nat.pow_le_pow_right (by omega) (by omega)
  have hp : 0 < 2 ^ k := Nat.two_pow_pos _
  have hrl := rowC_length cs k
  cases hc : cubesOk cs k with
  | false =>
    rw [rowU_bad hc] at hu
    refine Pure.of_sw 23 Try.func109 rfl Try.ntmps109 (by kernel_rfl) (Nat.le_of_ble_eq_true (by kernel_rfl)) (by simp [closeds, AV.closed, aSs_closed, aIs_closed, aBs_closed, aRs_closed, aDen_closed, aCs_closed, aAut_closed]) (by simp [AV.closed, closeds, aSs_closed, aIs_closed, aBs_closed, aRs_closed, aDen_closed, aCs_closed, aAut_closed]) ?_; refine SW.of_vc ?_
    repeat first | refine opsStep ?_ | refine codeStep ?_ | refine drawStep ?_
    refine callP hu ?_
    repeat first | refine opsStep ?_ | refine codeStep ?_ | refine drawStep ?_
    exact finB (b' := false) (by kernel_rfl) (by simp)
  | true =>
    rw [rowU_ok hc] at hu
    obtain ⟨x, l, hr⟩ : ∃ x l, rowC cs k = x :: l := by
      cases e : rowC cs k with
      | nil => rw [e] at hrl; simp at hrl; omega
      | cons x l => exact ⟨x, l, rfl⟩
    rw [hr] at hu hrl ⊢
    have hm := slices_Max .any x l (by simp at hrl; omega)
    have hz : ((x :: l).all fun y => decide (y < (n : Int))) = decide (maxL x l < (n : Int)) := by
      have := maxL_ge n l x
      rw [Bool.eq_iff_iff, List.all_eq_true, decide_eq_true_eq]
      constructor
      · intro h
        have : ¬ (n : Int) ≤ maxL x l := fun k => by
          obtain ⟨y, hy, h2⟩ := this.1 k
          have := h y hy
          simp at this; omega
        omega
      · intro h y hy
        rw [decide_eq_true_eq]
        have : ¬ (n : Int) ≤ y := fun k => by have := this.2 ⟨y, hy, k⟩; omega
        omega
    rw [hz]
    generalize maxL x l = m at *
    refine Pure.of_sw 23 Try.func109 rfl Try.ntmps109 (by kernel_rfl) (Nat.le_of_ble_eq_true (by kernel_rfl)) (by simp [closeds, AV.closed, aSs_closed, aIs_closed, aBs_closed, aRs_closed, aDen_closed, aCs_closed, aAut_closed]) (by simp [AV.closed, closeds, aSs_closed, aIs_closed, aBs_closed, aRs_closed, aDen_closed, aCs_closed, aAut_closed]) ?_; refine SW.of_vc ?_
    repeat first | refine opsStep ?_ | refine codeStep ?_ | refine drawStep ?_
    refine callP hu ?_
    repeat first | refine opsStep ?_ | refine codeStep ?_ | refine drawStep ?_
    refine callP hm ?_
    repeat first | refine opsStep ?_ | refine codeStep ?_ | refine drawStep ?_
    exact finB (b' := decide (m < (n : Int))) (by kernel_rfl) (by simp)

structure AutOk (a : Aut) : Prop where
  tracks : a.tracks.length * 16 ≤ 140737488351232
  names : ∀ s ∈ a.tracks, s.length ≤ 140737488351232
  accept : a.accept.length ≤ 140737488351232
  starts : a.starts.length * 8 ≤ 140737488351232
  arena : a.arena.length * 24 ≤ 140737488351232
  cubes : ∀ c ∈ a.arena, okC c

theorem table_rowOf (a : Aut) (q : Nat) (hq : q < 2^60) (h1 : a.starts[q]? = some (a.st q : Int)) (h2 : a.starts[q + 1]? = some (a.st (q + 1) : Int)) (h3 : a.st q ≤ a.st (q + 1)) (h4 : a.st (q + 1) ≤ a.arena.length) :
    Pure Try.prog 77 [aAut a, .int .i64 q] (aCs a.ck.cut (a.row q)) := by
  have l1 := (List.getElem?_eq_some_iff.1 h1).1
  have l2 := (List.getElem?_eq_some_iff.1 h2).1
  have hw : IntKind.wrap .i64 ((q : Int) + 1) = ((q + 1 : Nat) : Int) := by rw [IntWalk.i64_in _ (by omega)]; simp
  have hrow : aCs a.ck.cut (a.row q) = .sl a.ck.cut ((a.st (q + 1) : Int).toNat - (a.st q : Int).toNat) (((cc3 a.arena).drop ((a.st q : Int).toNat * 3)).take (((a.st (q + 1) : Int).toNat - (a.st q : Int).toNat) * 3)) := by
    rw [Int.toNat_natCast, Int.toNat_natCast, cc3_drop, cc3_take, aCs, Aut.row]
    congr 1
    simp; omega
  generalize a.st q = x at *
  generalize a.st (q + 1) = y at *
  refine Pure.of_sw 19 Try.func77 rfl Try.ntmps77 (by kernel_rfl) (Nat.le_of_ble_eq_true (by kernel_rfl)) (by simp [closeds, AV.closed, aSs_closed, aIs_closed, aBs_closed, aRs_closed, aDen_closed, aCs_closed, aAut_closed]) (by simp [AV.closed, closeds, aSs_closed, aIs_closed, aBs_closed, aRs_closed, aDen_closed, aCs_closed, aAut_closed]) ?_; refine SW.of_vc ?_
  repeat first | refine opsStep ?_ | refine codeStep ?_ | refine drawStep ?_
  refine SW.drawn rfl (by kernel_rfl) ?_
  repeat first | refine opsStep ?_ | refine codeStep ?_ | refine drawStep ?_
  refine guardE_of (by simp; omega) ?_
  repeat first | refine opsStep ?_ | refine codeStep ?_ | refine drawStep ?_
  refine optE_of (c := .int .i64 (x : Nat)) (by simp [Value.cells, h1]) ?_
  repeat first | refine opsStep ?_ | refine codeStep ?_ | refine drawStep ?_
  refine guardE_of (by rw [hw]; simp; omega) ?_
  repeat first | refine opsStep ?_ | refine codeStep ?_ | refine drawStep ?_
  refine optE_of (c := .int .i64 (y : Nat)) (by rw [hw]; simp [Value.cells, h2]) ?_
  repeat first | refine opsStep ?_ | refine codeStep ?_ | refine drawStep ?_
  refine guardE_of (by simp; omega) ?_
  repeat first | refine opsStep ?_ | refine codeStep ?_ | refine drawStep ?_
  refine ⟨by kernel_rfl, ?_⟩
  repeat first | refine opsStep ?_ | refine codeStep ?_ | refine drawStep ?_
  exact finV (by kernel_rfl) hrow.symm

theorem frameS_bad {a : Aut} (h : frameS a = false) : unpE a = 3 := unpE_bad (by rw [checkS, h]; rfl)
theorem rows_bad {a : Aut} {q : Nat} (hq : q < a.accept.length) (h : rowOkS a q = false) : unpE a = 3 := unpE_bad (by
  rw [checkS, ← Bool.not_eq_true, Bool.and_eq_true, List.all_eq_true]
  rintro ⟨_, k⟩
  have := k q (List.mem_range.2 hq)
  rw [h] at this; simp at this)
theorem row_cubes {a : Aut} (ha : AutOk a) (q : Nat) : (a.row q).length < 2 ^ 40 ∨ (a.row q).length ≥ 2 ^ 40 := by omega
theorem row_mem {a : Aut} {q : Nat} : ∀ c ∈ a.row q, c ∈ a.arena := fun c hc => List.mem_of_mem_drop (List.mem_of_mem_take hc)

theorem table_Check (a : Aut) (ha : AutOk a) : Pure Try.prog 74 [aAut a] (.int .i64 (unpE a)) := by
  have h1 := ha.tracks
  have h2 := ha.accept
  have h3 := ha.starts
  have h4 := ha.arena
  have hT := table_tracks a.tk a.tracks a.accept.length (by omega) (fun s hs => by have := ha.names s hs; omega)
  have hS := slices_IsSorted_I a.sk a.starts (by omega)
  have hfb : ∀ h : frameS a = false, unpE a = 3 := frameS_bad
  have hrb : ∀ q, q < a.accept.length → rowOkS a q = false → unpE a = 3 := fun q => rows_bad
  have hgood : checkS a = true → unpE a = 0 := unpE_zero.2
  generalize unpE a = E at *
  have hw : IntKind.wrap .i64 ((a.accept.length : Int) + 1) = ((a.accept.length + 1 : Nat) : Int) := by rw [IntWalk.i64_in _ (by omega)]; simp
  refine Pure.of_sw 66 Try.func74 rfl Try.ntmps74 (by kernel_rfl) (Nat.le_of_ble_eq_true (by kernel_rfl)) (by simp [closeds, AV.closed, aSs_closed, aIs_closed, aBs_closed, aRs_closed, aDen_closed, aCs_closed, aAut_closed]) (by simp [AV.closed, closeds, aSs_closed, aIs_closed, aBs_closed, aRs_closed, aDen_closed, aCs_closed, aAut_closed]) ?_; refine SW.of_vc ?_
  repeat first | refine opsStep ?_ | refine codeStep ?_ | refine drawStep ?_
  refine SW.drawn rfl (by kernel_rfl) ?_
  repeat first | refine opsStep ?_ | refine codeStep ?_ | refine drawStep ?_
  refine .inl ⟨_, _, [], hT, RdsN_refl _, .inr rfl, none_need, ?_⟩
  cases ht : tracksS a.tracks a.accept.length with
  | false =>
    repeat first | refine opsStep ?_ | refine codeStep ?_ | refine drawStep ?_
    refine ⟨by kernel_rfl, ?_⟩
    repeat first | refine opsStep ?_ | refine codeStep ?_ | refine drawStep ?_
    exact finV (v' := .int .i64 3) (by kernel_rfl) (by rw [hfb (by rw [frameS, ht]; rfl)])
  | true =>
    have k6 := (tracksS_parts ht).1
    have kp := (tracksS_parts ht).2.2.1
    have k256 := (tracksS_parts ht).2.2.2
    repeat first | refine opsStep ?_ | refine codeStep ?_ | refine drawStep ?_
    refine decB_dec (fun hl => ?_) (fun hl => ?_)
    · repeat first | refine opsStep ?_ | refine codeStep ?_ | refine drawStep ?_
      refine ⟨by kernel_rfl, ?_⟩
      repeat first | refine opsStep ?_ | refine codeStep ?_ | refine drawStep ?_
      exact finV (v' := .int .i64 3) (by kernel_rfl) (by rw [hfb (by rw [frameS, decide_eq_false (show ¬ a.starts.length = a.accept.length + 1 by rw [hw] at hl; omega)]; simp)])
    have hl : a.starts.length = a.accept.length + 1 := by rw [hw] at hl; omega
    obtain ⟨z0, hz0⟩ : ∃ z, a.starts[0]? = some z := ⟨_, List.getElem?_eq_getElem (show 0 < a.starts.length by omega)⟩
    obtain ⟨zn, hzn⟩ : ∃ z, a.starts[a.accept.length]? = some z := ⟨_, List.getElem?_eq_getElem (show a.accept.length < a.starts.length by omega)⟩
    have g0 : a.starts.getD 0 0 = z0 := by rw [List.getD_eq_getElem?_getD, hz0]; rfl
    have gn : a.starts.getD a.accept.length 0 = zn := by rw [List.getD_eq_getElem?_getD, hzn]; rfl
    repeat first | refine opsStep ?_ | refine codeStep ?_ | refine drawStep ?_
    refine guardE_of (by simp; omega) ?_
    repeat first | refine opsStep ?_ | refine codeStep ?_ | refine drawStep ?_
    refine optE_of (c := .int .i64 z0) (by simp [Value.cells, hz0]) ?_
    repeat first | refine opsStep ?_ | refine codeStep ?_ | refine drawStep ?_
    refine decB_dec (fun h0 => ?_) (fun h0 => ?_)
    · repeat first | refine opsStep ?_ | refine codeStep ?_ | refine drawStep ?_
      refine ⟨by kernel_rfl, ?_⟩
      repeat first | refine opsStep ?_ | refine codeStep ?_ | refine drawStep ?_
      exact finV (v' := .int .i64 3) (by kernel_rfl) (by rw [hfb (by rw [frameS, g0, decide_eq_false h0]; simp)])
    have h0 : z0 = 0 := Decidable.of_not_not h0
    repeat first | refine opsStep ?_ | refine codeStep ?_ | refine drawStep ?_
    refine guardE_of (by simp; omega) ?_
    repeat first | refine opsStep ?_ | refine codeStep ?_ | refine drawStep ?_
    refine optE_of (c := .int .i64 zn) (by simp [Value.cells, hzn]) ?_
    repeat first | refine opsStep ?_ | refine codeStep ?_ | refine drawStep ?_
    refine decB_dec (fun hn => ?_) (fun hn => ?_)
    · repeat first | refine opsStep ?_ | refine codeStep ?_ | refine drawStep ?_
      refine ⟨by kernel_rfl, ?_⟩
      repeat first | refine opsStep ?_ | refine codeStep ?_ | refine drawStep ?_
      exact finV (v' := .int .i64 3) (by kernel_rfl) (by rw [hfb (by rw [frameS, gn, decide_eq_false hn]; simp)])
    have hn : zn = a.arena.length := Decidable.of_not_not hn
    repeat first | refine opsStep ?_ | refine codeStep ?_ | refine drawStep ?_
    refine .inl ⟨_, _, [], hS, RdsN_refl _, .inr rfl, none_need, ?_⟩
    cases hs : sortedI a.starts with
    | false =>
      repeat first | refine opsStep ?_ | refine codeStep ?_ | refine drawStep ?_
      refine ⟨by kernel_rfl, ?_⟩
      repeat first | refine opsStep ?_ | refine codeStep ?_ | refine drawStep ?_
      exact finV (v' := .int .i64 3) (by kernel_rfl) (by rw [hfb (by rw [frameS, hs]; simp)])
    | true =>
      have hf : FrameOk a := ⟨ht, hl, by rw [g0, h0], by rw [gn, hn], hs⟩
      repeat first | refine opsStep ?_ | refine codeStep ?_ | refine drawStep ?_
      refine ⟨by kernel_rfl, ?_⟩
      repeat first | refine opsStep ?_ | refine codeStep ?_ | refine drawStep ?_
      refine loopE_of (ι := {q : Nat // q ≤ a.accept.length ∧ ∀ i, i < q → rowOkS a i = true})
        (fun q => (fr [(1, .ref 0 0 0), (3, .int .i64 a.accept.length), (46, .int .i64 a.accept.length), (47, .int .i64 q.1)], [.cells 0 a.cells])) (fun q => a.accept.length - q.1) ⟨0, by omega, fun _ h => by omega⟩ (Ent.fr' ⟨(by kernel_rfl), (by kernel_rfl), (by kernel_rfl), (by kernel_rfl), trivial⟩ (by kernel_rfl)) ?_
      rintro ⟨q, hq, hpre⟩
      repeat first | refine opsStep ?_ | refine codeStep ?_ | refine drawStep ?_
      refine decB_dec (fun h => ?_) (fun h => ?_)
      · have hqa : q < a.accept.length := by have := h; simp at this; omega
        obtain ⟨p1, p2⟩ := hf.get (q := q) (by omega)
        obtain ⟨p3, p4⟩ := hf.get (q := q + 1) (by omega)
        have hro := table_rowOf a q (by omega) p1 p3 (hf.le hqa) p4
        have hrl : (a.row q).length < 2 ^ 60 := by
          have : (a.row q).length ≤ a.arena.length := by simp [Aut.row]; omega
          omega
        have hRt := fun h => row_Right a.ck.cut (a.row q) a.tracks.length a.accept.length (by omega) h fun c hc => ha.cubes c (row_mem c hc)
        have hrow : rowOkS a q = (decide ((a.row q).length ≤ 32) && (cubesOk (a.row q) a.tracks.length && (rowC (a.row q) a.tracks.length).all fun x => decide (x < a.accept.length))) := by rw [rowOkS, Bool.and_assoc]
        have hrb := hrb q hqa
        generalize a.row q = cs at *
        repeat first | refine opsStep ?_ | refine codeStep ?_ | refine drawStep ?_
        refine callP hro ?_
        repeat first | refine opsStep ?_ | refine codeStep ?_ | refine drawStep ?_
        refine decB_dec (fun h32 => ?_) (fun h32 => ?_)
        · repeat first | refine opsStep ?_ | refine codeStep ?_ | refine drawStep ?_
          exact finV (v' := .int .i64 3) (by kernel_rfl) (by rw [hrb (by rw [hrow, decide_eq_false (show ¬ cs.length ≤ 32 by omega)]; rfl)])
        have h32 : cs.length ≤ 32 := by omega
        have hRt := hRt (by omega)
        rw [decide_eq_true h32, Bool.true_and] at hrow
        rw [← hrow] at hRt
        cases hb : rowOkS a q with
        | false =>
          rw [hb] at hRt
          repeat first | refine opsStep ?_ | refine codeStep ?_ | refine drawStep ?_
          refine callP hRt ?_
          repeat first | refine opsStep ?_ | refine codeStep ?_ | refine drawStep ?_
          exact finV (v' := .int .i64 3) (by kernel_rfl) (by rw [hrb hb])
        | true =>
          rw [hb] at hRt
          repeat first | refine opsStep ?_ | refine codeStep ?_ | refine drawStep ?_
          refine callP hRt ?_
          repeat first | refine opsStep ?_ | refine codeStep ?_ | refine drawStep ?_
          refine ⟨⟨q + 1, by omega, fun i hi => ?_⟩, (by show a.accept.length - (q + 1) < a.accept.length - q; omega), Ent.fr' ⟨(by kernel_rfl), (by kernel_rfl), (by kernel_rfl), inc_slot (i := q) (by omega), trivial⟩ (by kernel_rfl)⟩
          by_cases e : i = q
          · subst e; exact hb
          · exact hpre i (by omega)
      · have hqa : q = a.accept.length := by have := h; simp at this; omega
        repeat first | refine opsStep ?_ | refine codeStep ?_ | refine drawStep ?_
        exact finV (v' := .int .i64 0) (by kernel_rfl) (by
          rw [hgood (by
            rw [checkS, frameS_iff.2 hf, Bool.true_and, List.all_eq_true]
            intro i hi
            exact hpre i (by have := List.mem_range.1 hi; omega))])

end Tab

/- table.Unpack. -/
namespace Tab
open Go Go.Proofs
set_option maxRecDepth 10000
set_option linter.unusedVariables false
set_option linter.unusedSimpArgs false
set_option linter.unusedSectionVars false

theorem den0_cl : aDen den0 = .agg [.sl .nil 0 [], .sl .nil 0 [], .sl .nil 0 []] := rfl
def unR (a : Aut) (i : Nat) : List (SK × List Int) := (List.range i).map fun q => (.any, rowC (a.row q) a.tracks.length)
theorem unR_length (a i) : (unR a i).length = i := by simp [unR]
theorem unR_succ (a i) : unR a (i + 1) = unR a i ++ [(.any, rowC (a.row i) a.tracks.length)] := by rw [unR, List.range_succ, List.map_append]; rfl
theorem table_Unpack (a : Aut) (ha : AutOk a) : Pure Try.prog 31 [aAut a] (.tup [aDen (unpD a), .int .i64 (unpE a)]) := by
  have h1 := ha.tracks
  have h2 := ha.accept
  have h4 := ha.arena
  have hck := table_Check a ha
  cases hc : checkS a with
  | false =>
    rw [unpE_bad hc] at hck
    rw [unpE_bad hc, unpD_bad hc]
    refine Pure.of_sw 50 Try.func31 rfl Try.ntmps31 (by kernel_rfl) (Nat.le_of_ble_eq_true (by kernel_rfl)) (by simp [closeds, AV.closed, aSs_closed, aIs_closed, aBs_closed, aRs_closed, aDen_closed, aCs_closed, aAut_closed]) (by simp [AV.closed, closeds, aSs_closed, aIs_closed, aBs_closed, aRs_closed, aDen_closed, aCs_closed, aAut_closed]) ?_; refine SW.of_vc ?_
    repeat first | refine opsStep ?_ | refine codeStep ?_ | refine drawStep ?_
    refine callP hck ?_
    repeat first | refine opsStep ?_ | refine codeStep ?_ | refine drawStep ?_
    exact finV (v' := .tup [aDen den0, .int .i64 3]) (by kernel_rfl) rfl
  | true =>
  rw [unpE_zero.2 hc] at hck
  rw [unpE_zero.2 hc, unpD_ok hc]
  have hc' := hc
  simp only [checkS, Bool.and_eq_true, List.all_eq_true, List.mem_range] at hc'
  obtain ⟨hf, hrows⟩ := hc'
  have hf := frameS_iff.1 hf
  obtain ⟨k6, _, _, k256⟩ := tracksS_parts hf.tracks
  have hcs := slices_Clone_S a.tk a.tracks (by omega)
  have hcb := slices_Clone_B a.ak a.accept (by omega)
  refine Pure.of_read (by simp [closeds, aAut_closed]) (by simp [AV.closed, closeds, aDen_closed]) (R := fun o H' => o = .ret (.tup [.agg [aSs .any a.tracks, aBs .any a.accept, .hs 3 a.accept.length 0 a.accept.length 1], .int .i64 0]) ∧ ∃ b0 b1 b2, H' = [b0, b1, b2, .cells a.accept.length ((unR a a.accept.length).map fun r => aIs r.1 r.2)]) ?_ ?_
  · refine ACall.of_sw 50 Try.func31 rfl Try.ntmps31 (by kernel_rfl) (Nat.le_of_ble_eq_true (by kernel_rfl)) ?_; refine SW.of_vc ?_
    repeat first | refine opsStep ?_ | refine codeStep ?_ | refine drawStep ?_
    refine callP hck ?_
    repeat first | refine opsStep ?_ | refine codeStep ?_ | refine drawStep ?_
    refine SW.drawn rfl (by kernel_rfl) ?_
    repeat first | refine opsStep ?_ | refine codeStep ?_ | refine drawStep ?_
    refine .inl ⟨_, _, [], hcs, RdsN_refl _, .inr rfl, none_need, ?_⟩
    repeat first | refine opsStep ?_ | refine codeStep ?_ | refine drawStep ?_
    refine .inl ⟨_, _, [], hcb, RdsN_refl _, .inr rfl, none_need, ?_⟩
    repeat first | refine opsStep ?_ | refine codeStep ?_ | refine drawStep ?_
    refine ⟨by kernel_rfl, ?_⟩
    repeat first | refine opsStep ?_ | refine codeStep ?_ | refine drawStep ?_
    refine loopE_of (ι := {q : Nat // q ≤ a.accept.length}) (fun q => (fr [(1, .ref 0 0 0), (2, .ref 1 0 0), (5, .ref 2 0 0), (24, .int .i64 a.accept.length), (25, .int .i64 q.1)], [.cells 0 a.cells, .cells 0 [.sl .nil 0 [], .sl .nil 0 [], .sl .nil 0 []], .cells 0 [aSs .any a.tracks, aBs .any a.accept, .hs 3 (q.1) 0 (q.1) 1], Blk.cells (q.1) ((unR a q.1).map fun r => aIs r.1 r.2)])) (fun q => a.accept.length - q.1) ⟨0, by omega⟩ ?_ ?_
    · exact ((Ent.fr' (l := [(1, .ref 0 0 0), (2, .ref 1 0 0), (5, .ref 2 0 0), (24, .int .i64 a.accept.length), (25, .int .i64 (0 : Nat))]) (H' := [.cells 0 a.cells, .cells 0 [.sl .nil 0 [], .sl .nil 0 [], .sl .nil 0 []], .cells 0 [aSs .any a.tracks, aBs .any a.accept, .sl .nil 0 []]]) ⟨(by kernel_rfl), (by kernel_rfl), (by kernel_rfl), (by kernel_rfl), (by kernel_rfl), trivial⟩ (by kernel_rfl)).trans (Ent.nilCell 2 2 1 rfl rfl)).to rfl
    rintro ⟨q, hq⟩
    repeat first | refine opsStep ?_ | refine codeStep ?_ | refine drawStep ?_
    refine decB_dec (fun h => ?_) (fun h => ?_)
    · have hqa : q < a.accept.length := by have := h; simp at this; omega
      obtain ⟨p1, p2⟩ := hf.get (q := q) (by omega)
      obtain ⟨p3, p4⟩ := hf.get (q := q + 1) (by omega)
      have hro := table_rowOf a q (by omega) p1 p3 (hf.le hqa) p4
      have hok := hrows q hqa
      simp only [rowOkS, Bool.and_eq_true, decide_eq_true_eq] at hok
      have hun := row_Unpack a.ck.cut (a.row q) a.tracks.length k6 (by omega) fun c hc => ha.cubes c (row_mem c hc)
      rw [rowU_ok hok.1.2] at hun
      have hs := unR_succ a q
      have hl := unR_length a q
      generalize rowC (a.row q) a.tracks.length = r at *
      generalize a.row q = cs at *
      generalize unR a q = rs at *
      repeat first | refine opsStep ?_ | refine codeStep ?_ | refine drawStep ?_
      refine SW.drawn rfl (by kernel_rfl) ?_
      repeat first | refine opsStep ?_ | refine codeStep ?_ | refine drawStep ?_
      refine .inl ⟨_, _, [], hro, RdsN_refl _, .inr rfl, none_need, ?_⟩
      repeat first | refine opsStep ?_ | refine codeStep ?_ | refine drawStep ?_
      refine .inl ⟨_, _, [], hun, RdsN_refl _, .inr rfl, none_need, ?_⟩
      repeat first | refine opsStep ?_ | refine codeStep ?_ | refine drawStep ?_
      refine ⟨by kernel_rfl, ?_⟩
      repeat first | refine opsStep ?_ | refine codeStep ?_ | refine drawStep ?_
      refine guardE_of ⟨rfl, by simp [hl]⟩ ?_
      repeat first | refine opsStep ?_ | refine codeStep ?_ | refine drawStep ?_
      refine guardE_of rfl ?_
      repeat first | refine opsStep ?_ | refine codeStep ?_ | refine drawStep ?_
      refine guardE_of ⟨by omega, by show (q + 1) * 24 ≤ 140737488355328; omega⟩ ?_
      repeat first | refine opsStep ?_ | refine codeStep ?_ | refine drawStep ?_
      refine ⟨⟨q + 1, by omega⟩, (by show a.accept.length - (q + 1) < a.accept.length - q; omega), Ent.frD (X := [.cells 0 [aIs .any r]]) ⟨(by kernel_rfl), (by kernel_rfl), (by kernel_rfl), (by kernel_rfl), inc_slot (i := q) (by omega), trivial⟩ ?_ (Nat.le_of_ble_eq_true (by kernel_rfl)) (by first | (simp [frBel, blksBel, Blk.bel, AV.bel, bels, bels_append, bels_map, aSs_bel, aIs_bel, aBs_bel, aRs_bel, aDen_bel, cells_bel]; done) | (simp only [List.drop_zero, ← List.map_take, ← List.map_drop, List.map_map, frBel, blksBel, Blk.bel, AV.bel, bels, bels_append, bels_map, aSs_bel, aIs_bel, aBs_bel, aRs_bel, aDen_bel, cells_bel]; simp [AV.bel, aSs_bel, aIs_bel, aBs_bel, aRs_bel, aDen_bel, cells_bel])) ?_⟩
      · refine Eq.trans (b := [.cells 0 a.cells, .cells 0 [.sl .nil 0 [], .sl .nil 0 [], .sl .nil 0 []], .cells 0 [aSs .any a.tracks, aBs .any a.accept, .hs 3 (q + 1) 0 (q + 1) 1], Blk.cells (q + 1) (((((rs).map fun r => aIs r.1 r.2)).drop 0).take (q * 1) ++ [aIs .any r]), .cells 0 [aIs .any r]]) (by kernel_rfl) ?_
        show _ = [.cells 0 a.cells, .cells 0 [.sl .nil 0 [], .sl .nil 0 [], .sl .nil 0 []], .cells 0 [aSs .any a.tracks, aBs .any a.accept, .hs 3 ((q + 1)) 0 ((q + 1)) 1], Blk.cells ((q + 1)) ((unR a (q + 1)).map fun r => aIs r.1 r.2)] ++ [.cells 0 [aIs .any r]]
        rw [hs, List.drop_zero, List.take_of_length_le (by simp [hl]), List.map_append]
        rfl
      · simp [blksBel, Blk.bel, bels, AV.bel, Aut.cells, bels_map, aSs_bel, aBs_bel, aIs_bel]
    · have hqa : q = a.accept.length := by have := h; simp at this; omega
      subst hqa
      repeat first | refine opsStep ?_ | refine codeStep ?_ | refine drawStep ?_
      exact finR (l := [(2, .ref 1 0 0), (3, .int .i64 0)]) (H₁ := [.cells 0 a.cells, .cells 0 [aSs .any a.tracks, aBs .any a.accept, .hs 3 a.accept.length 0 a.accept.length 1], .cells 0 [aSs .any a.tracks, aBs .any a.accept, .hs 3 a.accept.length 0 a.accept.length 1], Blk.cells a.accept.length ((unR a a.accept.length).map fun r => aIs r.1 r.2)]) (v := .tup [.agg [aSs .any a.tracks, aBs .any a.accept, .hs 3 a.accept.length 0 a.accept.length 1], .int .i64 0]) ⟨(by kernel_rfl), (by kernel_rfl), trivial⟩ (by kernel_rfl) (Ent.refl _ _ _) (by kernel_rfl) ⟨rfl, _, _, _, rfl⟩
  · rintro o H' ⟨rfl, b0, b1, b2, rfl⟩
    refine ⟨_, rfl, .tup (.cons (.agg (.cons (.refl _) (.cons (.refl _) (.cons ?_ .nil)))) (.cons (.refl _) .nil))⟩
    show Rd _ _ (aRs .any (unR a a.accept.length))
    have hl := unR_length a a.accept.length
    rw [aRs, hl]
    exact Rd.whole rfl (by simp [hl])

end Tab

/- Lists of numbers as slices. -/
namespace Tab
open Go
set_option maxRecDepth 10000
set_option linter.unusedVariables false
set_option linter.unusedSimpArgs false
set_option linter.unusedSectionVars false

def iW (w : List Nat) : List AV := (w.map fun n : Nat => (n : Int)).map (.int .i64)
theorem iW_snoc (w : List Nat) (a : Nat) : iW (w ++ [a]) = iW w ++ [.int .i64 (a : Int)] := by simp [iW]
theorem iW_length (w : List Nat) : (iW w).length = w.length := by simp [iW]
theorem iW_rn (f w) : rns f (iW w) = iW w := ints_rn f .i64 _
theorem iW_bel (n w) : bels n (iW w) := by rw [iW, bels_map]; intro x _; simp [AV.bel]
theorem iW_closed (w : List Nat) : closeds (iW w) := aIs_closed .any (w.map fun n : Nat => (n : Int))
theorem iW_set (M : List Nat) (q v : Nat) : (iW M).set q (.int .i64 (v : Nat)) = iW (M.set q v) := by
  simp [iW, List.map_set]

end Tab

/- tabardref11: half, same, Cubes, Tracks, Row, Pack. -/
namespace Tab
open Go Go.Proofs
set_option maxRecDepth 10000
set_option linter.unusedVariables false
set_option linter.unusedSimpArgs false
set_option linter.unusedSectionVars false

theorem r11_half (k : SK) (r : List Int) (h d : Nat) (hr : r.length = 2 * h) (hl : h < 2^40) (hd : d ≤ 1) : Pure Try.prog 121 [aIs k r, .int .i64 d] (aIs .any ((r.drop (d * h)).take h)) := by
  have hw : IntKind.wrap .i64 ((r.length : Int).tdiv 2) = (h : Int) := by
    rw [show (r.length : Int) = 2 * (h : Int) by omega, Int.mul_tdiv_cancel_left _ (by decide), IntWalk.i64_in _ (by omega)]
  have hdh : d * h ≤ h := by rcases (show d = 0 ∨ d = 1 by omega) with rfl | rfl <;> omega
  have hmul : IntKind.wrap .i64 ((d : Int) * (h : Int)) = ((d * h : Nat) : Int) := by rw [IntWalk.i64_in _ (by rw [← Int.natCast_mul]; omega)]; simp
  have hlt : ∀ i, i < h → d * h + i < r.length := fun i hi => by omega
  generalize d * h = o at *
  refine Pure.of_sw 28 Try.func121 rfl Try.ntmps121 (by kernel_rfl) (Nat.le_of_ble_eq_true (by kernel_rfl)) (by simp [closeds, AV.closed, aSs_closed, aIs_closed, aBs_closed, aRs_closed, aDen_closed]) (by simp [AV.closed, closeds, aSs_closed, aIs_closed, aBs_closed, aRs_closed, aDen_closed]) ?_; refine SW.of_vc ?_
  repeat first | refine opsStep ?_ | refine codeStep ?_ | refine drawStep ?_
  refine loopE_of (ι := {i : Nat // i ≤ h}) (fun i => (fr [(0, aIs k r), (1, .int .i64 d), (5, .hs 0 i.1 0 i.1 1), (6, .int .i64 h), (7, .int .i64 i.1)], [.cells i.1 (((r.drop o).take i.1).map (.int .i64))])) (fun i => h - i.1) ⟨0, by omega⟩
    (((Ent.fr' (l := [(0, aIs k r), (1, .int .i64 d), (5, .sl .nil 0 []), (6, .int .i64 h), (7, .int .i64 (0 : Nat))]) (H' := []) ⟨(by kernel_rfl), (by kernel_rfl), (by kernel_rfl), congrArg (AV.int .i64) hw, (by kernel_rfl), trivial⟩ (by kernel_rfl)).trans (Ent.nil 5 1 rfl)).trans (Ent.fr' ⟨(by kernel_rfl), (by kernel_rfl), (by kernel_rfl), (by kernel_rfl), (by kernel_rfl), trivial⟩ (by kernel_rfl))) ?_
  rintro ⟨i, hi⟩
  repeat first | refine opsStep ?_ | refine codeStep ?_ | refine drawStep ?_
  refine decB_dec (fun g => ?_) (fun g => ?_)
  · have hih : i < h := by have := g; simp at this; omega
    have hio := hlt i hih
    have hadd : IntKind.wrap .i64 (IntKind.wrap .i64 ((d : Int) * (h : Int)) + (i : Int)) = ((o + i : Nat) : Int) := by rw [hmul, IntWalk.i64_in _ (by omega)]; simp
    have hsn : (r.drop o).take (i + 1) = (r.drop o).take i ++ [r[o + i]] := by
      rw [List.take_add_one, List.getElem?_drop, List.getElem?_eq_getElem hio]; rfl
    have hln : ((r.drop o).take i).length = i := by simp; omega
    generalize (r.drop o).take i = l at *
    repeat first | refine opsStep ?_ | refine codeStep ?_ | refine drawStep ?_
    refine guardE_of (by rw [hadd]; simp; omega) ?_
    repeat first | refine opsStep ?_ | refine codeStep ?_ | refine drawStep ?_
    refine optE_of (c := .int .i64 r[o + i]) (by rw [hadd, Int.toNat_natCast]; simp [Value.cells, hio]) ?_
    repeat first | refine opsStep ?_ | refine codeStep ?_ | refine drawStep ?_
    refine guardE_of ⟨rfl, by simp [hln]⟩ ?_
    repeat first | refine opsStep ?_ | refine codeStep ?_ | refine drawStep ?_
    refine guardE_of rfl ?_
    repeat first | refine opsStep ?_ | refine codeStep ?_ | refine drawStep ?_
    refine guardE_of ⟨by omega, by show (i + 1) * 8 ≤ 140737488355328; omega⟩ ?_
    repeat first | refine opsStep ?_ | refine codeStep ?_ | refine drawStep ?_
    refine ⟨⟨i + 1, by omega⟩, (by show h - (i + 1) < h - i; omega), Ent.frD (X := [.cells 0 [.int .i64 r[o + i]]]) ⟨(by kernel_rfl), (by kernel_rfl), (by kernel_rfl), (by kernel_rfl), inc_slot (i := i) (by omega), trivial⟩ ?_ (Nat.le_of_ble_eq_true (by kernel_rfl)) (by first | (simp [frBel, blksBel, Blk.bel, AV.bel, bels, bels_append, bels_map, aSs_bel, aIs_bel, aBs_bel, aRs_bel, aDen_bel, cells_bel]; done) | (simp only [List.drop_zero, ← List.map_take, ← List.map_drop, List.map_map, frBel, blksBel, Blk.bel, AV.bel, bels, bels_append, bels_map, aSs_bel, aIs_bel, aBs_bel, aRs_bel, aDen_bel, cells_bel]; simp [AV.bel, aSs_bel, aIs_bel, aBs_bel, aRs_bel, aDen_bel, cells_bel])) ?_⟩
    · refine Eq.trans (b := [Blk.cells (i + 1) (((l.map (AV.int .i64)).drop 0).take (i * 1) ++ [.int .i64 r[o + i]]), .cells 0 [.int .i64 r[o + i]]]) (by kernel_rfl) ?_
      show _ = [Blk.cells (i + 1) (((r.drop o).take (i + 1)).map (.int .i64)), .cells 0 [.int .i64 r[o + i]]]
      rw [hsn, List.drop_zero, List.take_of_length_le (by simp [hln]), List.map_append]
      rfl
    · exact ⟨bels_map.2 fun x _ => by simp [AV.bel], trivial⟩
  · have hih : i = h := by have := g; simp at this; omega
    subst hih
    have hln : ((r.drop o).take i).length = i := by
      have h1 : o + i ≤ r.length := by
        by_cases h0 : i = 0
        · subst h0; omega
        · have := hlt (i - 1) (by omega); omega
      simp; omega
    have er : aIs .any ((r.drop o).take i) = .sl .any i (((r.drop o).take i).map (.int .i64)) := by rw [aIs, hln]
    rw [er]
    repeat first | refine opsStep ?_ | refine codeStep ?_ | refine drawStep ?_
    exact finFrz 4 (b := 0) (g := i) (es := 1) (by kernel_rfl) (by kernel_rfl) (by rw [List.length_map, hln, Nat.mul_one]) (by kernel_rfl)

theorem r11_same (k k' : SK) (a b : List Int) (hl : a.length = b.length) (ha : a.length < 2^60) : Pure Try.prog 122 [aIs k a, aIs k' b] (.bool (decide (a = b))) := by
  refine Pure.of_sw 21 Try.func122 rfl Try.ntmps122 (by kernel_rfl) (Nat.le_of_ble_eq_true (by kernel_rfl)) (by simp [closeds, AV.closed, aSs_closed, aIs_closed, aBs_closed, aRs_closed, aDen_closed]) (by simp [AV.closed, closeds, aSs_closed, aIs_closed, aBs_closed, aRs_closed, aDen_closed]) ?_; refine SW.of_vc ?_
  repeat first | refine opsStep ?_ | refine codeStep ?_ | refine drawStep ?_
  refine loopE_of (ι := {i : Nat // i ≤ a.length ∧ a.take i = b.take i}) (fun i => (fr [(0, aIs k a), (1, aIs k' b), (5, .int .i64 i.1)], [])) (fun i => a.length - i.1) ⟨0, by omega, by simp⟩ (Ent.fr' ⟨(by kernel_rfl), (by kernel_rfl), (by kernel_rfl), trivial⟩ (by kernel_rfl)) ?_
  rintro ⟨i, hi, hpre⟩
  repeat first | refine opsStep ?_ | refine codeStep ?_ | refine drawStep ?_
  refine decB_split (fun h => ?_) (fun h => ?_)
  · have hia : i < a.length := by simpa using h
    repeat first | refine opsStep ?_ | refine codeStep ?_ | refine drawStep ?_
    refine SW.drawn rfl (by kernel_rfl) ?_
    repeat first | refine opsStep ?_ | refine codeStep ?_ | refine drawStep ?_
    refine guardE_of (by simp; omega) ?_
    repeat first | refine opsStep ?_ | refine codeStep ?_ | refine drawStep ?_
    refine optE_of (c := .int .i64 a[i]) (by simp [Value.cells, hia]) ?_
    repeat first | refine opsStep ?_ | refine codeStep ?_ | refine drawStep ?_
    refine guardE_of (by simp; omega) ?_
    repeat first | refine opsStep ?_ | refine codeStep ?_ | refine drawStep ?_
    refine optE_of (c := .int .i64 b[i]) (by simp [Value.cells, hl ▸ hia]) ?_
    repeat first | refine opsStep ?_ | refine codeStep ?_ | refine drawStep ?_
    refine ⟨by kernel_rfl, ?_⟩
    repeat first | refine opsStep ?_ | refine codeStep ?_ | refine drawStep ?_
    refine decB_split (fun h => ?_) (fun h => ?_)
    · repeat first | refine opsStep ?_ | refine codeStep ?_ | refine drawStep ?_
      exact finB rfl (by simp at h; simp; rintro rfl; exact h rfl)
    · repeat first | refine opsStep ?_ | refine codeStep ?_ | refine drawStep ?_
      refine ⟨⟨i + 1, by omega, ?_⟩, (by show a.length - (i + 1) < a.length - i; omega), Ent.fr' ⟨(by kernel_rfl), (by kernel_rfl), inc_slot (i := i) (by omega), trivial⟩ (by kernel_rfl)⟩
      rw [List.take_succ_eq_append_getElem hia, List.take_succ_eq_append_getElem (hl ▸ hia), hpre]
      simp at h; rw [h]
  · repeat first | refine opsStep ?_ | refine codeStep ?_ | refine drawStep ?_
    have : i = a.length := by simp at h; omega
    exact finB rfl (by subst this; rw [List.take_length, hl, List.take_length] at hpre; simpa using hpre)

theorem add_pow {m k : Nat} (hm : m ≤ 1000) (hk : k ≤ 6) : AV.int .i64 (IntKind.wrap .i64 ((m : Int) + ((2 ^ k : Nat) : Int))) = AV.int .i64 ((m + 2 ^ k : Nat) : Int) := by
  have hb : 2 ^ k ≤ 2 ^ 6 := Nat.pow_le_pow_right (by omega) hk
  generalize 2 ^ k = q at *
  rw [IntWalk.i64_in _ (by omega)]; simp

theorem r11_Cubes : ∀ (K : Nat), K ≤ 6 → ∀ (kk : SK) (r : List Int) (m b : Nat), r.length = 2 ^ K → m + 64 * K ≤ 1000 → b + 64 * K ≤ 1000 →
    PureNew Try.prog 94 [aIs kk r, .int .i64 m, .int .i64 b] (cubR K r m b).length 3 (cc3 (cubR K r m b))
  | 0, _, kk, r, m, b, hr, _, _ => by
    obtain ⟨x, rfl⟩ : ∃ x, r = [x] := by
      match r, hr with
      | [x], _ => exact ⟨x, rfl⟩
    refine ⟨by simp [closeds, aIs_closed, AV.closed], cc3_closed _, ?_⟩
    refine ACall.of_sw 50 Try.func94 rfl Try.ntmps94 (by kernel_rfl) (Nat.le_of_ble_eq_true (by kernel_rfl)) ?_; refine SW.of_vc ?_
    repeat first | refine opsStep ?_ | refine codeStep ?_ | refine drawStep ?_
    exact finR (l := [(6, .hs 0 0 0 1 3)]) (H₁ := [.cells 0 [.int .i64 (m : Int), .int .i64 (b : Int), .int .i64 x]]) (v := .hs 0 0 0 1 3) ⟨(by kernel_rfl), trivial⟩ (by kernel_rfl) (Ent.refl _ _ _) (by kernel_rfl) ⟨0, rfl, rfl⟩
  | K + 1, hK, kk, r, m, b, hr, hm, hb => by
    have hp : 2 ^ (K + 1) = 2 ^ K + 2 ^ K := by rw [Nat.pow_succ]; omega
    have hq : 2 ^ K ≤ 2 ^ 6 := Nat.pow_le_pow_right (by omega) (by omega)
    have hpos : 0 < 2 ^ K := Nat.two_pow_pos _
    have om := add_pow (m := m) (k := K) (by omega) (by omega)
    have ob := add_pow (m := b) (k := K) (by omega) (by omega)
    have hl0 : (r.take (2 ^ K)).length = 2 ^ K := by simp; omega
    have hl1 : (r.drop (2 ^ K)).length = 2 ^ K := by simp; omega
    have i0 := r11_Cubes K (by omega) .any (r.take (2 ^ K)) m b hl0 (by omega) (by omega)
    have i1 := r11_Cubes K (by omega) .any (r.take (2 ^ K)) (m + 2 ^ K) b hl0 (by omega) (by omega)
    have i2 := r11_Cubes K (by omega) .any (r.drop (2 ^ K)) (m + 2 ^ K) (b + 2 ^ K) hl1 (by omega) (by omega)
    have c1 := cubR_len K (r.take (2 ^ K)) (m + 2 ^ K) b
    have c2 := cubR_len K (r.drop (2 ^ K)) (m + 2 ^ K) (b + 2 ^ K)
    rw [← om] at i1 i2
    rw [← ob] at i2
    have hh0 := r11_half kk r (2 ^ K) 0 (by omega) (by omega) (by omega)
    have hh1 := r11_half kk r (2 ^ K) 1 (by omega) (by omega) (by omega)
    rw [Nat.zero_mul, List.drop_zero] at hh0
    rw [Nat.one_mul, List.take_of_length_le (by omega)] at hh1
    have hEq := r11_same .any .any (r.take (2 ^ K)) (r.drop (2 ^ K)) (by omega) (by omega)
    have hcub : cubR (K + 1) r m b = if r.take (2 ^ K) = r.drop (2 ^ K) then cubR K (r.take (2 ^ K)) m b else cubR K (r.take (2 ^ K)) (m + 2 ^ K) b ++ cubR K (r.drop (2 ^ K)) (m + 2 ^ K) (b + 2 ^ K) := rfl
    have hc1 := cc3_length (cubR K (r.take (2 ^ K)) (m + 2 ^ K) b)
    have hc2 := cc3_length (cubR K (r.drop (2 ^ K)) (m + 2 ^ K) (b + 2 ^ K))
    generalize cubR (K + 1) r m b = C at *
    generalize cubR K (r.take (2 ^ K)) (m + 2 ^ K) b = C1 at *
    generalize cubR K (r.drop (2 ^ K)) (m + 2 ^ K) (b + 2 ^ K) = C2 at *
    generalize cubR K (r.take (2 ^ K)) m b = C0 at *
    generalize r.take (2 ^ K) = lo at *
    generalize r.drop (2 ^ K) = hi at *
    generalize 2 ^ K = h at *
    refine ⟨by simp [closeds, aIs_closed, AV.closed], cc3_closed _, ?_⟩
    refine ACall.of_sw 50 Try.func94 rfl Try.ntmps94 (by kernel_rfl) (Nat.le_of_ble_eq_true (by kernel_rfl)) ?_; refine SW.of_vc ?_
    repeat first | refine opsStep ?_ | refine codeStep ?_ | refine drawStep ?_
    refine decB_dec (fun h1 => ?_) (fun h1 => ?_)
    · exact absurd h1 (by omega)
    repeat first | refine opsStep ?_ | refine codeStep ?_ | refine drawStep ?_
    refine callP hh0 ?_
    repeat first | refine opsStep ?_ | refine codeStep ?_ | refine drawStep ?_
    refine callP hh1 ?_
    repeat first | refine opsStep ?_ | refine codeStep ?_ | refine drawStep ?_
    refine callP hEq ?_
    repeat first | refine opsStep ?_ | refine codeStep ?_ | refine drawStep ?_
    refine decB_dec (fun heq => ?_) (fun heq => ?_)
    · repeat first | refine opsStep ?_ | refine codeStep ?_ | refine drawStep ?_
      refine callN i0 ?_
      repeat first | refine opsStep ?_ | refine codeStep ?_ | refine drawStep ?_
      refine finR (l := [(6, .hs 0 0 0 C0.length 3)]) (H₁ := [.cells 0 (cc3 C0)]) (v := .hs 0 0 0 C0.length 3) ⟨(by kernel_rfl), trivial⟩ (by kernel_rfl) (Ent.refl _ _ _) (by kernel_rfl) ?_
      rw [hcub, if_pos heq]
      exact ⟨0, rfl, rfl⟩
    · iterate 3 refine codeStep ?_
      iterate 4 refine opsStep ?_
      refine VCode.ent (Ent.fr' (l := [(1, .int .i64 m), (2, .int .i64 b), (7, aIs .any lo), (8, aIs .any hi), (9, .int .i64 h)]) (H' := []) ⟨(by kernel_rfl), (by kernel_rfl), (by kernel_rfl), (by kernel_rfl), Eq.trans (b := .int .i64 (lo.length : Nat)) (by kernel_rfl) (by rw [hl0]), trivial⟩ (by kernel_rfl)) ?_
      repeat first | refine opsStep ?_ | refine codeStep ?_ | refine drawStep ?_
      refine callN i1 ?_
      repeat first | refine opsStep ?_ | refine codeStep ?_ | refine drawStep ?_
      refine callN i2 ?_
      repeat first | refine opsStep ?_ | refine codeStep ?_ | refine drawStep ?_
      refine guardE_of ⟨rfl, by show 0 + C1.length * 3 ≤ (cc3 C1).length; omega⟩ ?_
      repeat first | refine opsStep ?_ | refine codeStep ?_ | refine drawStep ?_
      refine guardE_of rfl ?_
      repeat first | refine opsStep ?_ | refine codeStep ?_ | refine drawStep ?_
      refine guardE_of ⟨rfl, by show 0 + C2.length * 3 ≤ (cc3 C2).length; omega⟩ ?_
      repeat first | refine opsStep ?_ | refine codeStep ?_ | refine drawStep ?_
      refine guardE_of ⟨by omega, by show (C1.length + C2.length) * 24 ≤ 140737488355328; omega⟩ ?_
      repeat first | refine opsStep ?_ | refine codeStep ?_ | refine drawStep ?_
      refine finR (l := [(6, .hs 0 1 0 (C1.length + C2.length) 3)]) (H₁ := [.cells 1 (cc3 C1 ++ cc3 C2)] ++ [.cells 0 (cc3 C2)]) (v := .hs 0 1 0 (C1.length + C2.length) 3) ⟨(by kernel_rfl), trivial⟩ (Eq.trans (b := [.cells 1 (((cc3 C1).drop 0).take (C1.length * 3) ++ ((cc3 C2).drop 0).take (C2.length * 3)), .cells 0 (cc3 C2)]) (by kernel_rfl) ?_) (Ent.drop (Nat.le_of_ble_eq_true (by kernel_rfl)) (by first | (simp [frBel, blksBel, Blk.bel, AV.bel, bels, bels_append, bels_map, aSs_bel, aIs_bel, aBs_bel, aRs_bel, aDen_bel, cells_bel]; done) | (simp only [List.drop_zero, ← List.map_take, ← List.map_drop, List.map_map, frBel, blksBel, Blk.bel, AV.bel, bels, bels_append, bels_map, aSs_bel, aIs_bel, aBs_bel, aRs_bel, aDen_bel, cells_bel]; simp [AV.bel, aSs_bel, aIs_bel, aBs_bel, aRs_bel, aDen_bel, cells_bel])) ?_) (by kernel_rfl) ?_
      · rw [List.drop_zero, List.drop_zero, List.take_of_length_le (by omega), List.take_of_length_le (by omega)]; rfl
      · exact ⟨bels_append.2 ⟨closeds_bel _ (cc3_closed _), closeds_bel _ (cc3_closed _)⟩, trivial⟩
      · rw [hcub, if_neg heq, List.length_append, cc3_append]
        exact ⟨1, rfl, rfl⟩

end Tab

/- tabardref11: Row, Pack; tabardref12.Pack. -/
namespace Tab
open Go Go.Proofs
set_option maxRecDepth 10000
set_option linter.unusedVariables false
set_option linter.unusedSimpArgs false
set_option linter.unusedSectionVars false

theorem r11_Tracks (K : Nat) (hK : K ≤ 6) : Pure Try.prog 170 [.int .i64 (2 ^ K : Nat)] (.int .i64 K) := by
  have hq : 2 ^ K ≤ 2 ^ 6 := Nat.pow_le_pow_right (by omega) hK
  have hne : ∀ k, k < K → 2 ^ k < 2 ^ K := fun k h => Nat.pow_lt_pow_right (by omega) h
  refine Pure.of_sw 15 Try.func170 rfl Try.ntmps170 (by kernel_rfl) (Nat.le_of_ble_eq_true (by kernel_rfl)) (by simp [closeds, AV.closed, aSs_closed, aIs_closed, aBs_closed, aRs_closed, aDen_closed]) (by simp [AV.closed, closeds, aSs_closed, aIs_closed, aBs_closed, aRs_closed, aDen_closed]) ?_; refine SW.of_vc ?_
  repeat first | refine opsStep ?_ | refine codeStep ?_ | refine drawStep ?_
  refine loopE_of (ι := {k : Nat // k ≤ K}) (fun k => (fr [(0, .int .i64 (2 ^ K : Nat)), (3, .int .i64 (2 ^ k.1 : Nat)), (4, .int .i64 k.1)], [])) (fun k => K - k.1) ⟨0, by omega⟩ (Ent.fr' ⟨(by kernel_rfl), (by kernel_rfl), (by kernel_rfl), trivial⟩ (by kernel_rfl)) ?_
  rintro ⟨k, hk⟩
  repeat first | refine opsStep ?_ | refine codeStep ?_ | refine drawStep ?_
  refine decB_dec (fun h => ?_) (fun h => ?_)
  · repeat first | refine opsStep ?_ | refine codeStep ?_ | refine drawStep ?_
    by_cases e : k = K
    · subst e
      refine decB_dec (fun h2 => ?_) (fun h2 => ?_)
      · repeat first | refine opsStep ?_ | refine codeStep ?_ | refine drawStep ?_
        exact finE_of (by kernel_rfl)
      · exact absurd rfl h2
    · have hlt := hne k (by omega)
      refine decB_dec (fun h2 => ?_) (fun h2 => ?_)
      · exact absurd (show 2 ^ k = 2 ^ K from Int.ofNat_inj.1 h2) (by omega)
      · repeat first | refine opsStep ?_ | refine codeStep ?_ | refine drawStep ?_
        refine ⟨⟨k + 1, by omega⟩, (by show K - (k + 1) < K - k; omega), Ent.fr' ⟨(by kernel_rfl), ?_, inc_slot (i := k) (by omega), trivial⟩ (by kernel_rfl)⟩
        show AV.int .i64 (IntKind.wrap .i64 (((2 ^ k : Nat) : Int) * 2)) = AV.int .i64 ((2 ^ (k + 1) : Nat) : Int)
        have e2 : 2 ^ (k + 1) = 2 ^ k * 2 := Nat.pow_succ 2 k
        rw [e2]
        generalize 2 ^ k = x at *
        rw [IntWalk.i64_in _ (by omega)]; simp
  · exact absurd (show ¬ (k : Int) ≤ 6 from h) (by omega)

theorem r11_Row (k : SK) (r : List Int) (K : Nat) (hK : K ≤ 6) (hl : r.length = 2 ^ K) (hp : ∀ x ∈ r, 0 ≤ x) : Pure Try.prog 153 [aIs k r] (.bool true) := by
  have hT := r11_Tracks K hK
  rw [← hl] at hT
  have hq : 2 ^ K ≤ 2 ^ 6 := Nat.pow_le_pow_right (by omega) hK
  refine Pure.of_sw 19 Try.func153 rfl Try.ntmps153 (by kernel_rfl) (Nat.le_of_ble_eq_true (by kernel_rfl)) (by simp [closeds, AV.closed, aSs_closed, aIs_closed, aBs_closed, aRs_closed, aDen_closed]) (by simp [AV.closed, closeds, aSs_closed, aIs_closed, aBs_closed, aRs_closed, aDen_closed]) ?_; refine SW.of_vc ?_
  repeat first | refine opsStep ?_ | refine codeStep ?_ | refine drawStep ?_
  refine callP hT ?_
  repeat first | refine opsStep ?_ | refine codeStep ?_ | refine drawStep ?_
  refine loopE_of (ι := {i : Nat // i ≤ r.length}) (fun i => (fr [(0, aIs k r), (3, .int .i64 i.1)], [])) (fun i => r.length - i.1) ⟨0, by omega⟩ (Ent.fr' ⟨(by kernel_rfl), (by kernel_rfl), trivial⟩ (by kernel_rfl)) ?_
  rintro ⟨i, hi⟩
  repeat first | refine opsStep ?_ | refine codeStep ?_ | refine drawStep ?_
  refine decB_dec (fun g => ?_) (fun g => ?_)
  · have hia : i < r.length := by have := g; simp at this; omega
    have h0 := hp _ (List.getElem_mem hia)
    repeat first | refine opsStep ?_ | refine codeStep ?_ | refine drawStep ?_
    refine guardE_of (by simp; omega) ?_
    repeat first | refine opsStep ?_ | refine codeStep ?_ | refine drawStep ?_
    refine optE_of (c := .int .i64 r[i]) (by simp [Value.cells, hia]) ?_
    repeat first | refine opsStep ?_ | refine codeStep ?_ | refine drawStep ?_
    refine decB_dec (fun h2 => ?_) (fun h2 => ?_)
    · exact absurd h2 (by omega)
    repeat first | refine opsStep ?_ | refine codeStep ?_ | refine drawStep ?_
    refine ⟨⟨i + 1, by omega⟩, (by show r.length - (i + 1) < r.length - i; omega), Ent.fr' ⟨(by kernel_rfl), inc_slot (i := i) (by omega), trivial⟩ (by kernel_rfl)⟩
  · repeat first | refine opsStep ?_ | refine codeStep ?_ | refine drawStep ?_
    exact finB (b' := true) (by kernel_rfl) rfl
theorem r11_Pack (k : SK) (r : List Int) (K : Nat) (hK : K ≤ 6) (hl : r.length = 2 ^ K) (hp : ∀ x ∈ r, 0 ≤ x) : Pure Try.prog 119 [aIs k r] (.tup [aCs .any (cubR K r 0 0), .int .i64 0]) := by
  have hr := r11_Row k r K hK hl hp
  have hc := (r11_Cubes K hK k r 0 0 hl (by omega) (by omega)).pure (cc3_length _).symm
  have hcl := aCs_closed .any (cubR K r 0 0)
  rw [aCs] at hcl ⊢
  generalize cubR K r 0 0 = C at *
  refine Pure.of_sw 9 Try.func119 rfl Try.ntmps119 (by kernel_rfl) (Nat.le_of_ble_eq_true (by kernel_rfl)) (by simp [closeds, aIs_closed]) (by simp only [AV.closed, closeds, and_true]; exact hcl) ?_; refine SW.of_vc ?_
  repeat first | refine opsStep ?_ | refine codeStep ?_ | refine drawStep ?_
  refine callP hr ?_
  repeat first | refine opsStep ?_ | refine codeStep ?_ | refine drawStep ?_
  refine callP hc ?_
  repeat first | refine opsStep ?_ | refine codeStep ?_ | refine drawStep ?_
  exact finE_of (by kernel_rfl)

def packC (d : Den) (q : Nat) : List Cb := (d.rows.take q).flatMap fun r => cubR d.tracks.length r 0 0
def packS (d : Den) (q : Nat) : List Int := (List.range (q + 1)).map fun i => ((packC d i).length : Int)
def packA (d : Den) : Aut := ⟨.any, d.tracks, .any, d.accept, .any, packS d d.next.length, .any, packC d d.next.length⟩
theorem packS_length (d q) : (packS d q).length = q + 1 := by simp [packS]
theorem packS_succ (d q) : packS d (q + 1) = packS d q ++ [((packC d (q + 1)).length : Int)] := by rw [packS, List.range_succ, List.map_append]; rfl
theorem packC_succ {d : Den} {q : Nat} (h : q < d.rows.length) : packC d (q + 1) = packC d q ++ cubR d.tracks.length d.rows[q] 0 0 := by
  rw [packC, List.take_succ_eq_append_getElem h, List.flatMap_append]; simp [packC]
theorem packC_len {d : Den} (h : ∀ r ∈ d.rows, (cubR d.tracks.length r 0 0).length ≤ 32) : ∀ q, (packC d q).length ≤ 32 * q
  | 0 => by simp [packC]
  | q + 1 => by
    by_cases hq : q < d.rows.length
    · rw [packC_succ hq, List.length_append]
      have h1 := packC_len h q
      have h2 := h _ (List.getElem_mem hq)
      omega
    · have : packC d (q + 1) = packC d q := by rw [packC, packC, List.take_of_length_le (by omega), List.take_of_length_le (by omega)]
      rw [this]
      have h1 := packC_len h q
      omega

theorem r12_Pack (d : Den) (hd : DenOk d) (hr : rightS d = true) (h32 : ∀ r ∈ d.rows, (cubR d.tracks.length r 0 0).length ≤ 32) : Pure Try.prog 91 [aDen d] (.tup [aAut (packA d), .int .i64 0]) := by
  have d1 := hd.tracks
  have d2 := hd.accept
  obtain ⟨ht, hn, hrows⟩ := rightS_parts hr
  obtain ⟨k6, _, _, k256⟩ := tracksS_parts ht
  have hrl : d.rows.length = d.next.length := by simp [Den.rows]
  have hn256 : d.next.length ≤ 256 := by rw [hn]; omega
  refine Pure.of_read (by simp [closeds, aDen_closed]) (by simp [AV.closed, closeds, aAut_closed]) (R := fun o H' => o = .ret (.tup [.agg [aSs .any d.tracks, aBs .any d.accept, .hs 4 d.next.length 0 (d.next.length + 1) 1, .hs 6 d.next.length 0 (packC d d.next.length).length 3], .int .i64 0]) ∧ ∃ b0 b1 b2 b3 b5, H' = [b0, b1, b2, b3, .cells d.next.length ((packS d d.next.length).map (.int .i64)), b5, .cells d.next.length (cc3 (packC d d.next.length))]) ?_ ?_
  rotate_left
  · rintro o H' ⟨rfl, b0, b1, b2, b3, b5, rfl⟩
    refine ⟨_, rfl, .tup (.cons (.agg (.cons (.refl _) (.cons (.refl _) (.cons ?_ (.cons ?_ .nil))))) (.cons (.refl _) .nil))⟩
    · show Rd _ _ (aIs .any (packS d d.next.length))
      rw [aIs, packS_length]
      exact Rd.whole rfl (by simp [packS_length])
    · exact Rd.whole rfl (cc3_length _).symm
  refine ACall.of_sw 52 Try.func91 rfl Try.ntmps91 (by kernel_rfl) (Nat.le_of_ble_eq_true (by kernel_rfl)) ?_; refine SW.of_vc ?_
  repeat first | refine opsStep ?_ | refine codeStep ?_ | refine drawStep ?_
  refine SW.drawn rfl (by kernel_rfl) ?_
  repeat first | refine opsStep ?_ | refine codeStep ?_ | refine drawStep ?_
  refine guardE_of (by simp [Value.cells]) ?_
  refine guardE_of ⟨by omega, by show (0 + d.tracks.length) * 16 ≤ 140737488355328; omega⟩ ?_
  repeat first | refine opsStep ?_ | refine codeStep ?_ | refine drawStep ?_
  refine guardE_of (by simp [Value.cells]) ?_
  refine guardE_of ⟨by omega, by show (0 + d.accept.length) * 1 ≤ 140737488355328; omega⟩ ?_
  repeat first | refine opsStep ?_ | refine codeStep ?_ | refine drawStep ?_
  refine ⟨by kernel_rfl, ?_⟩
  repeat first | refine opsStep ?_ | refine codeStep ?_ | refine drawStep ?_
  have hinit : ∀ (nt : Fr) (s : Slots) (H : List Blk), nt.k = 0 → frOk s [(1, .ref 0 0 0), (2, .ref 1 0 0), (4, .ref 5 0 0), (5, .int .i64 (0 : Nat))] →
      H = [.cells 0 d.cells, .cells 0 [.sl .nil 0 [], .sl .nil 0 [], .sl .nil 0 [], .sl .nil 0 []], .cells 1 (d.tracks.map .str), .cells 1 (d.accept.map .bool), .cells 0 [.int .i64 0], .cells 0 [.hs 2 1 0 (0 + d.tracks.length) 1, .hs 3 1 0 (0 + d.accept.length) 1, .hs 4 0 0 1 1, .sl .nil 0 []]] →
      Ent nt s H (fr [(1, .ref 0 0 0), (2, .ref 1 0 0), (4, .ref 5 0 0), (5, .int .i64 (0 : Nat))]) [.cells 0 d.cells, .cells 0 [.sl .nil 0 [], .sl .nil 0 [], .sl .nil 0 [], .sl .nil 0 []], .fro 1 (d.tracks.map .str), .fro 1 (d.accept.map .bool), .cells (0) ((packS d 0).map (.int .i64)), .cells 0 [aSs .any d.tracks, aBs .any d.accept, .hs 4 (0) 0 ((0) + 1) 1, .hs 6 (0) 0 (packC d 0).length 3], Blk.cells (0) (cc3 (packC d 0))] := by
    intro nt s H hk hf hH
    subst hH
    rw [Nat.zero_add, Nat.zero_add]
    exact ((((Ent.fr hf).trans (Ent.freezeCell 5 0 (b := 2) rfl rfl rfl (by omega) (by simp))).trans (Ent.freezeCell 5 1 (b := 3) rfl rfl rfl (by omega) (by simp))).trans (Ent.nilCell 5 3 3 rfl rfl)).to (by kernel_rfl)
  refine loopE_of (ι := {q : Nat // q ≤ d.next.length}) (fun q => (fr [(1, .ref 0 0 0), (2, .ref 1 0 0), (4, .ref 5 0 0), (5, .int .i64 q.1)], [.cells 0 d.cells, .cells 0 [.sl .nil 0 [], .sl .nil 0 [], .sl .nil 0 [], .sl .nil 0 []], .fro 1 (d.tracks.map .str), .fro 1 (d.accept.map .bool), .cells (q.1) ((packS d q.1).map (.int .i64)), .cells 0 [aSs .any d.tracks, aBs .any d.accept, .hs 4 (q.1) 0 ((q.1) + 1) 1, .hs 6 (q.1) 0 (packC d q.1).length 3], Blk.cells (q.1) (cc3 (packC d q.1))])) (fun q => d.next.length - q.1) ⟨0, by omega⟩ (hinit _ _ _ rfl ⟨(by kernel_rfl), (by kernel_rfl), (by kernel_rfl), (by kernel_rfl), trivial⟩ (by kernel_rfl)) ?_
  rintro ⟨q, hq⟩
  repeat first | refine opsStep ?_ | refine codeStep ?_ | refine drawStep ?_
  refine decB_dec (fun h => ?_) (fun h => ?_)
  · have hqa : q < d.next.length := by have := h; simp at this; omega
    have hqr : q < d.rows.length := by omega
    have ga : d.rows[q] = (d.next[q]).2 := by simp [Den.rows]
    obtain ⟨l1, l2⟩ := rowOk_parts (hrows _ (List.getElem_mem hqa))
    have hpk := r11_Pack (d.next[q]).1 (d.next[q]).2 d.tracks.length k6 l1 fun x hx => (l2 x hx).1
    have hC32 := h32 _ (List.getElem_mem hqr)
    have hA := packC_len h32 q
    have hs := packS_succ d q
    have hc := packC_succ hqr
    have hsl := packS_length d q
    rw [hc, List.length_append] at hs
    rw [ga] at hC32 hc hs
    have hcl := cc3_length (packC d q)
    generalize packC d q = A at *
    generalize packS d q = S at *
    generalize cubR d.tracks.length (d.next[q]).2 0 0 = C at *
    have hcc := cc3_length C
    repeat first | refine opsStep ?_ | refine codeStep ?_ | refine drawStep ?_
    refine guardE_of (by simp; omega) ?_
    repeat first | refine opsStep ?_ | refine codeStep ?_ | refine drawStep ?_
    refine optE_of (c := aIs (d.next[q]).1 (d.next[q]).2) (by simp [Value.cells, hqa]) ?_
    repeat first | refine opsStep ?_ | refine codeStep ?_ | refine drawStep ?_
    refine callP hpk ?_
    repeat first | refine opsStep ?_ | refine codeStep ?_ | refine drawStep ?_
    refine decB_dec (fun h33 => ?_) (fun h33 => ?_)
    · exact absurd h33 (by omega)
    repeat first | refine opsStep ?_ | refine codeStep ?_ | refine drawStep ?_
    refine guardE_of ⟨rfl, by show 0 + A.length * 3 ≤ (cc3 A).length; omega⟩ ?_
    repeat first | refine opsStep ?_ | refine codeStep ?_ | refine drawStep ?_
    refine guardE_of (by show (cc3 C).length = C.length * 3; exact hcc) ?_
    repeat first | refine opsStep ?_ | refine codeStep ?_ | refine drawStep ?_
    refine guardE_of ⟨by omega, by show (A.length + C.length) * 24 ≤ 140737488355328; omega⟩ ?_
    repeat first | refine opsStep ?_ | refine codeStep ?_ | refine drawStep ?_
    refine guardE_of ⟨rfl, by show 0 + (q + 1) * 1 ≤ (S.map (AV.int .i64)).length; simp [hsl]⟩ ?_
    repeat first | refine opsStep ?_ | refine codeStep ?_ | refine drawStep ?_
    refine guardE_of rfl ?_
    repeat first | refine opsStep ?_ | refine codeStep ?_ | refine drawStep ?_
    refine guardE_of ⟨by show q + 1 + 1 ≤ 9223372036854775807; omega, by show (q + 1 + 1) * 8 ≤ 140737488355328; omega⟩ ?_
    repeat first | refine opsStep ?_ | refine codeStep ?_ | refine drawStep ?_
    refine ⟨⟨q + 1, by omega⟩, (by show d.next.length - (q + 1) < d.next.length - q; omega), Ent.frD (X := [.cells 0 [.int .i64 (A.length + C.length : Nat)]]) ⟨(by kernel_rfl), (by kernel_rfl), (by kernel_rfl), inc_slot (i := q) (by omega), trivial⟩ ?_ (Nat.le_of_ble_eq_true (by kernel_rfl)) (by first | (simp [frBel, blksBel, Blk.bel, AV.bel, bels, bels_append, bels_map, aSs_bel, aIs_bel, aBs_bel, aRs_bel, aDen_bel, cells_bel]; done) | (simp only [List.drop_zero, ← List.map_take, ← List.map_drop, List.map_map, frBel, blksBel, Blk.bel, AV.bel, bels, bels_append, bels_map, aSs_bel, aIs_bel, aBs_bel, aRs_bel, aDen_bel, cells_bel]; simp [AV.bel, aSs_bel, aIs_bel, aBs_bel, aRs_bel, aDen_bel, cells_bel])) ?_⟩
    · refine Eq.trans (b := [.cells 0 d.cells, .cells 0 [.sl .nil 0 [], .sl .nil 0 [], .sl .nil 0 [], .sl .nil 0 []], .fro 1 (d.tracks.map .str), .fro 1 (d.accept.map .bool), .cells (q + 1) (((S.map (.int .i64)).drop 0).take ((q + 1) * 1) ++ [.int .i64 (A.length + C.length : Nat)]), .cells 0 [aSs .any d.tracks, aBs .any d.accept, .hs 4 (q + 1) 0 (q + 1 + 1) 1, .hs 6 (q + 1) 0 (A.length + C.length) 3], Blk.cells (q + 1) (((cc3 A).drop 0).take (A.length * 3) ++ ((cc3 C))), .cells 0 [.int .i64 (A.length + C.length : Nat)]]) (by kernel_rfl) ?_
      show _ = [.cells 0 d.cells, .cells 0 [.sl .nil 0 [], .sl .nil 0 [], .sl .nil 0 [], .sl .nil 0 []], .fro 1 (d.tracks.map .str), .fro 1 (d.accept.map .bool), .cells ((q + 1)) ((packS d (q + 1)).map (.int .i64)), .cells 0 [aSs .any d.tracks, aBs .any d.accept, .hs 4 ((q + 1)) 0 (((q + 1)) + 1) 1, .hs 6 ((q + 1)) 0 (packC d (q + 1)).length 3], Blk.cells ((q + 1)) (cc3 (packC d (q + 1)))] ++ [.cells 0 [.int .i64 (A.length + C.length : Nat)]]
      rw [hs, hc, cc3_append, List.length_append, List.drop_zero, List.drop_zero, List.take_of_length_le (by simp [hsl]), List.take_of_length_le (by omega), List.map_append]
      rfl
    · simp [blksBel, Blk.bel, bels, AV.bel, Den.cells, bels_map, aSs_bel, aBs_bel, aRs_bel, closeds_bel _ (cc3_closed _)]
  · have hqa : q = d.next.length := by have := h; simp at this; omega
    subst hqa
    repeat first | refine opsStep ?_ | refine codeStep ?_ | refine drawStep ?_
    exact finR (l := [(2, .ref 1 0 0), (3, .int .i64 0)]) (H₁ := [.cells 0 d.cells, .cells 0 [aSs .any d.tracks, aBs .any d.accept, .hs 4 d.next.length 0 (d.next.length + 1) 1, .hs 6 d.next.length 0 (packC d d.next.length).length 3], .fro 1 (d.tracks.map .str), .fro 1 (d.accept.map .bool), .cells d.next.length ((packS d d.next.length).map (.int .i64)), .cells 0 [aSs .any d.tracks, aBs .any d.accept, .hs 4 d.next.length 0 (d.next.length + 1) 1, .hs 6 d.next.length 0 (packC d d.next.length).length 3], Blk.cells d.next.length (cc3 (packC d d.next.length))]) (v := .tup [.agg [aSs .any d.tracks, aBs .any d.accept, .hs 4 d.next.length 0 (d.next.length + 1) 1, .hs 6 d.next.length 0 (packC d d.next.length).length 3], .int .i64 0]) ⟨(by kernel_rfl), (by kernel_rfl), trivial⟩ (by kernel_rfl) (Ent.refl _ _ _) (by kernel_rfl) ⟨rfl, _, _, _, _, _, rfl⟩

end Tab

/- The constant tables of tabardlaw20 and tabardlaw21. -/
namespace Tab
open Go Go.Proofs
set_option maxRecDepth 10000
set_option linter.unusedVariables false
set_option linter.unusedSimpArgs false
set_option linter.unusedSectionVars false

def dF : Den := ⟨.any, [[120]], .any, [false, false, false, false, true], .any, [(.any, [1, 2]), (.any, [2, 3]), (.any, [2, 2]), (.any, [4, 2]), (.any, [4, 2])]⟩
def dT : Den := ⟨.any, [[120]], .any, [false, true], .any, [(.any, [1, 1]), (.any, [1, 1])]⟩
def tbF : Aut := packA dF
def tbT : Aut := packA dT
theorem dF_ok : DenOk dF := ⟨by decide, by decide, by decide, by decide, by decide⟩
theorem dT_ok : DenOk dT := ⟨by decide, by decide, by decide, by decide, by decide⟩
theorem dF_right : rightS dF = true := by kernel_rfl
theorem dT_right : rightS dT = true := by kernel_rfl
theorem pk_F : Pure Try.prog 91 [aDen dF] (.tup [aAut tbF, .int .i64 0]) := r12_Pack dF dF_ok dF_right fun r _ => by
  have := (cubR_len dF.tracks.length r 0 0).1
  have e : 2 ^ dF.tracks.length = 2 := rfl
  omega
theorem pk_T : Pure Try.prog 91 [aDen dT] (.tup [aAut tbT, .int .i64 0]) := r12_Pack dT dT_ok dT_right fun r _ => by
  have := (cubR_len dT.tracks.length r 0 0).1
  have e : 2 ^ dT.tracks.length = 2 := rfl
  omega
theorem tbF_check : checkS tbF = true := by kernel_rfl
theorem tbT_check : checkS tbT = true := by kernel_rfl
theorem tbF_den : unpD tbF = dF := by rw [unpD_ok tbF_check]; kernel_rfl
theorem tbT_den : unpD tbT = dT := by rw [unpD_ok tbT_check]; kernel_rfl
theorem pack_ok {d : Den} (hd : DenOk d) (hl : d.next.length ≤ 1000) (ho : ∀ r ∈ d.rows, ∀ x ∈ r, okI x) (h6 : d.tracks.length ≤ 6) (h32 : ∀ r ∈ d.rows, (cubR d.tracks.length r 0 0).length ≤ 32) : AutOk (packA d) where
  tracks := hd.tracks
  names := hd.names
  accept := hd.accept
  starts := by show (packS d d.next.length).length * 8 ≤ _; rw [packS_length]; omega
  arena := by show (packC d d.next.length).length * 24 ≤ _; have := packC_len h32 d.next.length; omega
  cubes := by
    intro c hc
    obtain ⟨r, hr, hc⟩ := List.mem_flatMap.1 hc
    exact cubR_ok _ h6 r 0 0 (ho r (List.mem_of_mem_take hr)) (by omega) (by omega) c hc
theorem tbF_ok : AutOk tbF := pack_ok dF_ok (by decide) (by unfold okI; decide) (by decide) fun r _ => by
  have := (cubR_len dF.tracks.length r 0 0).1
  have e : 2 ^ dF.tracks.length = 2 := rfl
  omega
theorem tbT_ok : AutOk tbT := pack_ok dT_ok (by decide) (by unfold okI; decide) (by decide) fun r _ => by
  have := (cubR_len dT.tracks.length r 0 0).1
  have e : 2 ^ dT.tracks.length = 2 := rfl
  omega

end Tab

/- tabardref12.Copy. -/
namespace Tab
open Go Go.Proofs
set_option maxRecDepth 10000
set_option linter.unusedVariables false
set_option linter.unusedSimpArgs false
set_option linter.unusedSectionVars false

def copyA (a : Aut) : Aut := ⟨.any, a.tracks, .any, a.accept, .any, a.starts, .any, a.arena⟩
theorem copyA_ok {a : Aut} (h : AutOk a) : AutOk (copyA a) := ⟨h.1, h.2, h.3, h.4, h.5, h.6⟩
theorem copyA_check (a : Aut) : checkS (copyA a) = checkS a := rfl
theorem copyA_unp (a : Aut) : unpD (copyA a) = unpD a ∧ unpE (copyA a) = unpE a := by
  constructor
  · rw [unpD, unpD]; rfl
  · rw [unpE, unpE]; rfl
set_option maxHeartbeats 1000000 in
theorem r12_Copy (a : Aut) (ha : AutOk a) : Pure Try.prog 11 [aAut a] (aAut (copyA a)) := by
  have d1 := ha.tracks
  have d2 := ha.accept
  have d3 := ha.starts
  have d4 := ha.arena
  have hcc := cc3_length a.arena
  refine Pure.of_read (by simp [closeds, aAut_closed]) (aAut_closed _) (R := fun o H' => o = .ret (.agg [.hs 2 1 0 a.tracks.length 1, .hs 3 1 0 a.accept.length 1, .hs 4 1 0 a.starts.length 1, .hs 5 1 0 a.arena.length 3]) ∧ ∃ b0 b1, H' = [b0, b1, .cells 1 (a.tracks.map .str), .cells 1 (a.accept.map .bool), .cells 1 (a.starts.map (.int .i64)), .cells 1 (cc3 a.arena)]) ?_ ?_
  rotate_left
  · rintro o H' ⟨rfl, b0, b1, rfl⟩
    exact ⟨_, rfl, .agg (.cons (Rd.whole rfl (by simp [copyA])) (.cons (Rd.whole rfl (by simp [copyA])) (.cons (Rd.whole rfl (by simp [copyA])) (.cons (Rd.whole rfl hcc.symm) .nil))))⟩
  refine ACall.of_sw 20 Try.func11 rfl Try.ntmps11 (by kernel_rfl) (Nat.le_of_ble_eq_true (by kernel_rfl)) ?_; refine SW.of_vc ?_
  repeat first | refine opsStep ?_ | refine codeStep ?_ | refine drawStep ?_
  refine SW.drawn rfl (by kernel_rfl) ?_
  repeat first | refine opsStep ?_ | refine codeStep ?_ | refine drawStep ?_
  refine guardE_of (by simp [Value.cells]) ?_
  refine guardE_of ⟨by omega, by show (0 + a.tracks.length) * 16 ≤ 140737488355328; omega⟩ ?_
  repeat first | refine opsStep ?_ | refine codeStep ?_ | refine drawStep ?_
  refine guardE_of (by simp [Value.cells]) ?_
  refine guardE_of ⟨by omega, by show (0 + a.accept.length) * 1 ≤ 140737488355328; omega⟩ ?_
  repeat first | refine opsStep ?_ | refine codeStep ?_ | refine drawStep ?_
  refine guardE_of (by simp [Value.cells]) ?_
  refine guardE_of ⟨by omega, by show (0 + a.starts.length) * 8 ≤ 140737488355328; omega⟩ ?_
  repeat first | refine opsStep ?_ | refine codeStep ?_ | refine drawStep ?_
  refine guardE_of (by show (cc3 a.arena).length = a.arena.length * 3; exact hcc) ?_
  refine guardE_of ⟨by omega, by show (0 + a.arena.length) * 24 ≤ 140737488355328; omega⟩ ?_
  repeat first | refine opsStep ?_ | refine codeStep ?_ | refine drawStep ?_
  refine ⟨by kernel_rfl, ?_⟩
  repeat first | refine opsStep ?_ | refine codeStep ?_ | refine drawStep ?_
  exact finR (l := [(2, .ref 1 0 0)]) (H₁ := [.cells 0 a.cells, .cells 0 [.hs 2 1 0 a.tracks.length 1, .hs 3 1 0 a.accept.length 1, .hs 4 1 0 a.starts.length 1, .hs 5 1 0 a.arena.length 3], .cells 1 (a.tracks.map .str), .cells 1 (a.accept.map .bool), .cells 1 (a.starts.map (.int .i64)), .cells 1 (cc3 a.arena)]) (v := .agg [.hs 2 1 0 a.tracks.length 1, .hs 3 1 0 a.accept.length 1, .hs 4 1 0 a.starts.length 1, .hs 5 1 0 a.arena.length 3]) ⟨(by kernel_rfl), trivial⟩ (Eq.trans (b := [.cells 0 a.cells, .cells 0 [.hs 2 1 0 (0 + a.tracks.length) 1, .hs 3 1 0 (0 + a.accept.length) 1, .hs 4 1 0 (0 + a.starts.length) 1, .hs 5 1 0 (0 + a.arena.length) 3], .cells 1 (a.tracks.map .str), .cells 1 (a.accept.map .bool), .cells 1 (a.starts.map (.int .i64)), .cells 1 (cc3 a.arena)]) (by kernel_rfl) (by simp only [Nat.zero_add])) (Ent.refl _ _ _) (by kernel_rfl) ⟨rfl, _, _, rfl⟩

end Tab
