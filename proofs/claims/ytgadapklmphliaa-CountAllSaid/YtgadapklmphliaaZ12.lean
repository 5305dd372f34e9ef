/- Lemmas for this claim: part 12. No condition. -/
import Derived.Test.YtgadapklmphliaaZ10
import Derived.Test.YtgadapklmphliaaZ11
/- tabardref11.Right; tabardref12.Unpack, Same. -/
namespace Tab
open Go Go.Proofs
set_option maxRecDepth 10000
set_option linter.unusedVariables false
set_option linter.unusedSimpArgs false
set_option linter.unusedSectionVars false

theorem r11_Right (kc : SK) (cs : List Cb) (k n : Nat) (hk : k ≤ 6) (hl : cs.length < 2^40) (ho : ∀ c ∈ cs, okC c) : Pure Try.prog 50 [aCs kc cs, .int .i64 k, .int .i64 n] (.bool (cubesOk cs k && (rowC cs k).all fun x => decide (x < n))) := by
  have hu := r11_Unpack kc cs k hk hl ho
  have hq : 2 ^ k ≤ 2 ^ 6 := Nat.pow_le_pow_right (by omega) (by omega)
  have hrl := rowC_length cs k
  cases hc : cubesOk cs k with
  | false =>
    rw [rowU_bad hc] at hu
    refine Pure.of_sw 30 Try.func50 rfl Try.ntmps50 (by kernel_rfl) (Nat.le_of_ble_eq_true (by kernel_rfl)) (by simp [closeds, AV.closed, aSs_closed, aIs_closed, aBs_closed, aRs_closed, aDen_closed, aCs_closed, aAut_closed]) (by simp [AV.closed, closeds, aSs_closed, aIs_closed, aBs_closed, aRs_closed, aDen_closed, aCs_closed, aAut_closed]) ?_; refine SW.of_vc ?_
    repeat first | refine opsStep ?_ | refine codeStep ?_ | refine drawStep ?_
    refine callP hu ?_
    repeat first | refine opsStep ?_ | refine codeStep ?_ | refine drawStep ?_
    exact finB (b' := false) (by kernel_rfl) (by simp)
  | true =>
    rw [rowU_ok hc] at hu
    generalize rowC cs k = r at *
    refine Pure.of_sw 30 Try.func50 rfl Try.ntmps50 (by kernel_rfl) (Nat.le_of_ble_eq_true (by kernel_rfl)) (by simp [closeds, AV.closed, aSs_closed, aIs_closed, aBs_closed, aRs_closed, aDen_closed, aCs_closed, aAut_closed]) (by simp [AV.closed, closeds, aSs_closed, aIs_closed, aBs_closed, aRs_closed, aDen_closed, aCs_closed, aAut_closed]) ?_; refine SW.of_vc ?_
    repeat first | refine opsStep ?_ | refine codeStep ?_ | refine drawStep ?_
    refine callP hu ?_
    repeat first | refine opsStep ?_ | refine codeStep ?_ | refine drawStep ?_
    refine loopE_of (ι := {i : Nat // i ≤ r.length ∧ ∀ x ∈ r.take i, x < (n : Int)}) (fun i => (fr [(2, .int .i64 n), (7, aIs .any r), (9, .int .i64 i.1)], [])) (fun i => r.length - i.1) ⟨0, by omega, by simp⟩ (Ent.fr' ⟨(by kernel_rfl), (by kernel_rfl), (by kernel_rfl), trivial⟩ (by kernel_rfl)) ?_
    rintro ⟨i, hi, hpre⟩
    repeat first | refine opsStep ?_ | refine codeStep ?_ | refine drawStep ?_
    refine decB_dec (fun h => ?_) (fun h => ?_)
    · have hia : i < r.length := by have := h; simp at this; omega
      repeat first | refine opsStep ?_ | refine codeStep ?_ | refine drawStep ?_
      refine guardE_of (by simp; omega) ?_
      repeat first | refine opsStep ?_ | refine codeStep ?_ | refine drawStep ?_
      refine optE_of (c := .int .i64 r[i]) (by simp [Value.cells, hia]) ?_
      repeat first | refine opsStep ?_ | refine codeStep ?_ | refine drawStep ?_
      refine decB_dec (fun h2 => ?_) (fun h2 => ?_)
      · have h2 : r[i] ≥ (n : Int) := h2
        repeat first | refine opsStep ?_ | refine codeStep ?_ | refine drawStep ?_
        refine finB (b' := false) (by kernel_rfl) ?_
        rw [Bool.true_and]
        refine (Bool.eq_false_iff.2 fun hh => ?_).symm
        have := List.all_eq_true.1 hh _ (List.getElem_mem hia)
        simp at this; omega
      · have h2 : ¬ r[i] ≥ (n : Int) := h2
        repeat first | refine opsStep ?_ | refine codeStep ?_ | refine drawStep ?_
        refine ⟨⟨i + 1, by omega, fun x hx => ?_⟩, (by show r.length - (i + 1) < r.length - i; omega), Ent.fr' ⟨(by kernel_rfl), (by kernel_rfl), inc_slot (i := i) (by omega), trivial⟩ (by kernel_rfl)⟩
        rw [List.take_succ_eq_append_getElem hia] at hx
        rcases List.mem_append.1 hx with hx | hx
        · exact hpre x hx
        · simp at hx; omega
    · have hie : i = r.length := by have := h; simp at this; omega
      subst hie
      rw [List.take_length] at hpre
      repeat first | refine opsStep ?_ | refine codeStep ?_ | refine drawStep ?_
      exact finB (b' := true) (by kernel_rfl) (by rw [Bool.true_and]; exact (List.all_eq_true.2 fun x hx => by simpa using hpre x hx).symm)

theorem r12_Unpack (a : Aut) (ha : AutOk a) : Pure Try.prog 17 [aAut a] (.tup [aDen (unpD a), .bool (checkS a)]) := by
  have h1 := ha.tracks
  have h2 := ha.accept
  have h3 := ha.starts
  have h4 := ha.arena
  have hT := r12_Frame a.tk a.tracks a.accept.length (by omega) (fun s hs => by have := ha.names s hs; omega)
  have hfb : frameS a = false → checkS a = false := fun h => by rw [checkS, h]; rfl
  have hrb : ∀ q, q < a.accept.length → rowOkS a q = false → checkS a = false := fun q hq h => by
    rw [checkS, ← Bool.not_eq_true, Bool.and_eq_true, List.all_eq_true]
    rintro ⟨_, k⟩
    have := k q (List.mem_range.2 hq)
    rw [h] at this; simp at this
  have hgood : frameS a = true → (∀ i, i < a.accept.length → rowOkS a i = true) → checkS a = true := fun h1 h2 => by
    rw [checkS, h1, Bool.true_and, List.all_eq_true]
    intro i hi
    exact h2 i (List.mem_range.1 hi)
  have hval : ∀ c, checkS a = c → unpD a = if c = true then ⟨.any, a.tracks, .any, a.accept, .any, unR a a.accept.length⟩ else den0 := fun c h => by
    subst h
    by_cases hc : checkS a = true
    · rw [if_pos hc, unpD_ok hc]; rfl
    · rw [if_neg hc, unpD_bad (by simpa using hc)]
  generalize hck : checkS a = ck at *
  have hval := hval ck rfl
  rw [hval]
  have hw : IntKind.wrap .i64 ((a.accept.length : Int) + 1) = ((a.accept.length + 1 : Nat) : Int) := by rw [IntWalk.i64_in _ (by omega)]; simp
  refine Pure.of_read (by simp [closeds, aAut_closed]) (by split <;> simp [AV.closed, closeds, aDen_closed]) (R := fun o H' => (ck = false ∧ o = .ret (.tup [aDen den0, .bool false])) ∨ (ck = true ∧ o = .ret (.tup [.agg [aSs .any a.tracks, aBs .any a.accept, .hs 5 a.accept.length 0 a.accept.length 1], .bool true]) ∧ ∃ b0 b1 b2 b3 b4, H' = [b0, b1, b2, b3, b4, .cells a.accept.length ((unR a a.accept.length).map fun r => aIs r.1 r.2)])) ?_ ?_
  rotate_left
  · rintro o H' (⟨h, rfl⟩ | ⟨h, rfl, b0, b1, b2, b3, b4, rfl⟩)
    · exact ⟨_, rfl, by rw [h]; exact .refl _⟩
    · refine ⟨_, rfl, ?_⟩
      rw [h]
      refine .tup (.cons (.agg (.cons (.refl _) (.cons (.refl _) (.cons ?_ .nil)))) (.cons (.refl _) .nil))
      show Rd _ _ (aRs .any (unR a a.accept.length))
      have hl := unR_length a a.accept.length
      rw [aRs, hl]
      exact Rd.whole rfl (by simp [hl])
  refine ACall.of_sw 120 Try.func17 rfl Try.ntmps17 (by kernel_rfl) (Nat.le_of_ble_eq_true (by kernel_rfl)) ?_; refine SW.of_vc ?_
  repeat first | refine opsStep ?_ | refine codeStep ?_ | refine drawStep ?_
  refine SW.drawn rfl (by kernel_rfl) ?_
  repeat first | refine opsStep ?_ | refine codeStep ?_ | refine drawStep ?_
  refine .inl ⟨_, _, [], hT, RdsN_refl _, .inr rfl, none_need, ?_⟩
  cases ht : tracksS a.tracks a.accept.length with
  | false =>
    repeat first | refine opsStep ?_ | refine codeStep ?_ | refine drawStep ?_
    refine ⟨by kernel_rfl, ?_⟩
    repeat first | refine opsStep ?_ | refine codeStep ?_ | refine drawStep ?_
    exact finR (l := [(2, .ref 1 0 0), (3, .bool false)]) (H₁ := [.cells 0 a.cells, .cells 0 [.sl .nil 0 [], .sl .nil 0 [], .sl .nil 0 []]]) (v := .tup [aDen den0, .bool false]) ⟨(by kernel_rfl), (by kernel_rfl), trivial⟩ (by kernel_rfl) (Ent.refl _ _ _) (by kernel_rfl) (.inl ⟨hfb (by rw [frameS, ht]; rfl), rfl⟩)
  | true =>
    have k6 := (tracksS_parts ht).1
    have kp := (tracksS_parts ht).2.2.1
    have k256 := (tracksS_parts ht).2.2.2
    repeat first | refine opsStep ?_ | refine codeStep ?_ | refine drawStep ?_
    refine decB_dec (fun hl => ?_) (fun hl => ?_)
    · repeat first | refine opsStep ?_ | refine codeStep ?_ | refine drawStep ?_
      refine ⟨by kernel_rfl, ?_⟩
      repeat first | refine opsStep ?_ | refine codeStep ?_ | refine drawStep ?_
      exact finR (l := [(2, .ref 1 0 0), (3, .bool false)]) (H₁ := [.cells 0 a.cells, .cells 0 [.sl .nil 0 [], .sl .nil 0 [], .sl .nil 0 []]]) (v := .tup [aDen den0, .bool false]) ⟨(by kernel_rfl), (by kernel_rfl), trivial⟩ (by kernel_rfl) (Ent.refl _ _ _) (by kernel_rfl) (.inl ⟨hfb (by rw [frameS, decide_eq_false (show ¬ a.starts.length = a.accept.length + 1 by rw [hw] at hl; omega)]; simp), rfl⟩)
    have hl : a.starts.length = a.accept.length + 1 := by rw [hw] at hl; omega
    obtain ⟨z0, hz0⟩ : ∃ z, a.starts[0]? = some z := ⟨_, List.getElem?_eq_getElem (show 0 < a.starts.length by omega)⟩
    obtain ⟨zn, hzn⟩ : ∃ z, a.starts[a.accept.length]? = some z := ⟨_, List.getElem?_eq_getElem (show a.accept.length < a.starts.length by omega)⟩
    have g0 : a.starts.getD 0 0 = z0 := by rw [List.getD_eq_getElem?_getD, hz0]; rfl
    have gn : a.starts.getD a.accept.length 0 = zn := by rw [List.getD_eq_getElem?_getD, hzn]; rfl
    repeat first | refine opsStep ?_ | refine codeStep ?_ | refine drawStep ?_
    refine guardE_of (by simp; omega) ?_
    repeat first | refine opsStep ?_ | refine codeStep ?_ | refine drawStep ?_
    refine optE_of (c := .int .i64 z0) (by simp [Value.cells, hz0]) ?_
    repeat first | refine opsStep ?_ | refine codeStep ?_ | refine drawStep ?_
    refine decB_dec (fun h0 => ?_) (fun h0 => ?_)
    · repeat first | refine opsStep ?_ | refine codeStep ?_ | refine drawStep ?_
      refine ⟨by kernel_rfl, ?_⟩
      repeat first | refine opsStep ?_ | refine codeStep ?_ | refine drawStep ?_
      exact finR (l := [(2, .ref 1 0 0), (3, .bool false)]) (H₁ := [.cells 0 a.cells, .cells 0 [.sl .nil 0 [], .sl .nil 0 [], .sl .nil 0 []]]) (v := .tup [aDen den0, .bool false]) ⟨(by kernel_rfl), (by kernel_rfl), trivial⟩ (by kernel_rfl) (Ent.refl _ _ _) (by kernel_rfl) (.inl ⟨hfb (by rw [frameS, g0, decide_eq_false h0]; simp), rfl⟩)
    have h0 : z0 = 0 := Decidable.of_not_not h0
    repeat first | refine opsStep ?_ | refine codeStep ?_ | refine drawStep ?_
    refine guardE_of (by simp; omega) ?_
    repeat first | refine opsStep ?_ | refine codeStep ?_ | refine drawStep ?_
    refine optE_of (c := .int .i64 zn) (by simp [Value.cells, hzn]) ?_
    repeat first | refine opsStep ?_ | refine codeStep ?_ | refine drawStep ?_
    refine ⟨by kernel_rfl, ?_⟩
    repeat first | refine opsStep ?_ | refine codeStep ?_ | refine drawStep ?_
    refine decB_dec (fun hn => ?_) (fun hn => ?_)
    · skip
      repeat first | refine opsStep ?_ | refine codeStep ?_ | refine drawStep ?_
      exact finR (l := [(2, .ref 1 0 0), (3, .bool false)]) (H₁ := [.cells 0 a.cells, .cells 0 [.sl .nil 0 [], .sl .nil 0 [], .sl .nil 0 []]]) (v := .tup [aDen den0, .bool false]) ⟨(by kernel_rfl), (by kernel_rfl), trivial⟩ (by kernel_rfl) (Ent.refl _ _ _) (by kernel_rfl) (.inl ⟨hfb (by rw [frameS, gn, decide_eq_false hn]; simp), rfl⟩)
    have hn : zn = a.arena.length := Decidable.of_not_not hn
    repeat first | refine opsStep ?_ | refine codeStep ?_ | refine drawStep ?_
    refine loopE_of (ι := {q : Nat // q ≤ a.accept.length ∧ ∀ i, i < q → ∀ h : i + 1 < a.starts.length, a.starts[i] ≤ a.starts[i + 1]})
      (fun q => (fr [(1, .ref 0 0 0), (2, .ref 1 0 0), (4, .int .i64 a.accept.length), (5, .int .i64 q.1)], [.cells 0 a.cells, .cells 0 [.sl .nil 0 [], .sl .nil 0 [], .sl .nil 0 []]])) (fun q => a.accept.length - q.1) ⟨0, by omega, fun i h => by omega⟩ (Ent.fr' ⟨(by kernel_rfl), (by kernel_rfl), (by kernel_rfl), (by kernel_rfl), trivial⟩ (by kernel_rfl)) ?_
    rintro ⟨q, hq, hpre⟩
    repeat first | refine opsStep ?_ | refine codeStep ?_ | refine drawStep ?_
    refine decB_dec (fun hqn => ?_) (fun hqn => ?_)
    · have hqa : q < a.accept.length := by have := hqn; simp at this; omega
      have hw2 : IntKind.wrap .i64 ((q : Int) + 1) = ((q + 1 : Nat) : Int) := by rw [IntWalk.i64_in _ (by omega)]; simp
      have hs1 : q < a.starts.length := by omega
      have hs2 : q + 1 < a.starts.length := by omega
      repeat first | refine opsStep ?_ | refine codeStep ?_ | refine drawStep ?_
      refine SW.drawn rfl (by kernel_rfl) ?_
      repeat first | refine opsStep ?_ | refine codeStep ?_ | refine drawStep ?_
      refine guardE_of (by simp; omega) ?_
      repeat first | refine opsStep ?_ | refine codeStep ?_ | refine drawStep ?_
      refine optE_of (c := .int .i64 a.starts[q]) (by simp [Value.cells, hs1]) ?_
      repeat first | refine opsStep ?_ | refine codeStep ?_ | refine drawStep ?_
      refine guardE_of (by rw [hw2]; simp; omega) ?_
      repeat first | refine opsStep ?_ | refine codeStep ?_ | refine drawStep ?_
      refine optE_of (c := .int .i64 a.starts[q + 1]) (by rw [hw2, Int.toNat_natCast]; simp [Value.cells, hs2]) ?_
      repeat first | refine opsStep ?_ | refine codeStep ?_ | refine drawStep ?_
      refine ⟨by kernel_rfl, ?_⟩
      repeat first | refine opsStep ?_ | refine codeStep ?_ | refine drawStep ?_
      refine decB_dec (fun hgt => ?_) (fun hgt => ?_)
      · have hgt : a.starts[q] > a.starts[q + 1] := hgt
        repeat first | refine opsStep ?_ | refine codeStep ?_ | refine drawStep ?_
        exact finR (l := [(2, .ref 1 0 0), (3, .bool false)]) (H₁ := [.cells 0 a.cells, .cells 0 [.sl .nil 0 [], .sl .nil 0 [], .sl .nil 0 []]]) (v := .tup [aDen den0, .bool false]) ⟨(by kernel_rfl), (by kernel_rfl), trivial⟩ (by kernel_rfl) (Ent.refl _ _ _) (by kernel_rfl) (.inl ⟨hfb (by
                  cases hso : sortedI a.starts with
                  | false => rw [frameS, hso]; simp
                  | true => have := sorted_get hso q hs2; omega), rfl⟩)
      have hgt : ¬ a.starts[q] > a.starts[q + 1] := hgt
      repeat first | refine opsStep ?_ | refine codeStep ?_ | refine drawStep ?_
      refine ⟨⟨q + 1, by omega, fun i hi h => ?_⟩, (by show a.accept.length - (q + 1) < a.accept.length - q; omega), Ent.fr' ⟨(by kernel_rfl), (by kernel_rfl), (by kernel_rfl), inc_slot (i := q) (by omega), trivial⟩ (by kernel_rfl)⟩
      by_cases e : i = q
      · subst e; omega
      · exact hpre i (by omega) h
    have hqa : q = a.accept.length := by have := hqn; simp at this; omega
    subst hqa
    have hso : sortedI a.starts = true := sorted_of fun i h => hpre i (by omega) h
    have hf : FrameOk a := ⟨ht, hl, by rw [g0, h0], by rw [gn, hn], hso⟩
    repeat first | refine opsStep ?_ | refine codeStep ?_ | refine drawStep ?_
    refine SW.drawn rfl (by kernel_rfl) ?_
    repeat first | refine opsStep ?_ | refine codeStep ?_ | refine drawStep ?_
    refine guardE_of (by simp [Value.cells]) ?_
    refine guardE_of ⟨by omega, by show (0 + a.tracks.length) * 16 ≤ 140737488355328; omega⟩ ?_
    repeat first | refine opsStep ?_ | refine codeStep ?_ | refine drawStep ?_
    refine guardE_of (by simp [Value.cells]) ?_
    refine guardE_of ⟨by omega, by show (0 + a.accept.length) * 1 ≤ 140737488355328; omega⟩ ?_
    repeat first | refine opsStep ?_ | refine codeStep ?_ | refine drawStep ?_
    refine ⟨by kernel_rfl, ?_⟩
    repeat first | refine opsStep ?_ | refine codeStep ?_ | refine drawStep ?_
    have hinit : ∀ (nt : Fr) (s : Slots) (H : List Blk), nt.k = 0 → frOk s [(1, .ref 0 0 0), (2, .ref 1 0 0), (4, .int .i64 a.accept.length), (6, .ref 4 0 0), (7, .int .i64 (0 : Nat))] →
        H = [.cells 0 a.cells, .cells 0 [.sl .nil 0 [], .sl .nil 0 [], .sl .nil 0 []], .cells 1 (a.tracks.map .str), .cells 1 (a.accept.map .bool), .cells 0 [.hs 2 1 0 (0 + a.tracks.length) 1, .hs 3 1 0 (0 + a.accept.length) 1, .sl .nil 0 []]] →
        Ent nt s H (fr [(1, .ref 0 0 0), (2, .ref 1 0 0), (4, .int .i64 a.accept.length), (6, .ref 4 0 0), (7, .int .i64 (0 : Nat))]) [.cells 0 a.cells, .cells 0 [.sl .nil 0 [], .sl .nil 0 [], .sl .nil 0 []], .fro 1 (a.tracks.map .str), .fro 1 (a.accept.map .bool), .cells 0 [aSs .any a.tracks, aBs .any a.accept, .hs 5 (0) 0 (0) 1], Blk.cells (0) ((unR a 0).map fun r => aIs r.1 r.2)] := by
      intro nt s H hk hf hH
      subst hH
      rw [Nat.zero_add, Nat.zero_add]
      exact ((((Ent.fr hf).trans (Ent.freezeCell 4 0 (b := 2) rfl rfl rfl (by omega) (by simp))).trans (Ent.freezeCell 4 1 (b := 3) rfl rfl rfl (by omega) (by simp))).trans (Ent.nilCell 4 2 1 rfl rfl)).to (by kernel_rfl)
    refine loopE_of (ι := {q : Nat // q ≤ a.accept.length ∧ ∀ i, i < q → rowOkS a i = true}) (fun q => (fr [(1, .ref 0 0 0), (2, .ref 1 0 0), (4, .int .i64 a.accept.length), (6, .ref 4 0 0), (7, .int .i64 q.1)], [.cells 0 a.cells, .cells 0 [.sl .nil 0 [], .sl .nil 0 [], .sl .nil 0 []], .fro 1 (a.tracks.map .str), .fro 1 (a.accept.map .bool), .cells 0 [aSs .any a.tracks, aBs .any a.accept, .hs 5 (q.1) 0 (q.1) 1], Blk.cells (q.1) ((unR a q.1).map fun r => aIs r.1 r.2)])) (fun q => a.accept.length - q.1) ⟨0, by omega, fun i h => by omega⟩ (hinit _ _ _ rfl ⟨(by kernel_rfl), (by kernel_rfl), (by kernel_rfl), (by kernel_rfl), (by kernel_rfl), trivial⟩ (by kernel_rfl)) ?_
    clear hinit hpre hq hqn
    rintro ⟨q, hq, hpre⟩
    repeat first | refine opsStep ?_ | refine codeStep ?_ | refine drawStep ?_
    refine decB_dec (fun hqn => ?_) (fun hqn => ?_)
    · have hqa : q < a.accept.length := by have := hqn; simp at this; omega
      obtain ⟨p1, _⟩ := hf.get (q := q) (by omega)
      obtain ⟨p3, p4⟩ := hf.get (q := q + 1) (by omega)
      have hle := hf.le hqa
      have l1 := (List.getElem?_eq_some_iff.1 p1).1
      have l2 := (List.getElem?_eq_some_iff.1 p3).1
      have hw2 : IntKind.wrap .i64 ((q : Int) + 1) = ((q + 1 : Nat) : Int) := by rw [IntWalk.i64_in _ (by omega)]; simp
      have hrow : aCs a.ck.cut (a.row q) = .sl a.ck.cut ((a.st (q + 1) : Int).toNat - (a.st q : Int).toNat) (((cc3 a.arena).drop ((a.st q : Int).toNat * 3)).take (((a.st (q + 1) : Int).toNat - (a.st q : Int).toNat) * 3)) := by
        rw [Int.toNat_natCast, Int.toNat_natCast, cc3_drop, cc3_take, aCs, Aut.row]
        congr 1
        simp; omega
      have hcl : (a.row q).length = (a.st (q + 1) : Int).toNat - (a.st q : Int).toNat := by simp [Aut.row]; omega
      have hRt := fun h => r11_Right a.ck.cut (a.row q) a.tracks.length a.accept.length k6 h fun c hc => ha.cubes c (row_mem c hc)
      have hUn := fun h => r11_Unpack a.ck.cut (a.row q) a.tracks.length k6 h fun c hc => ha.cubes c (row_mem c hc)
      have hrowS : rowOkS a q = (decide ((a.row q).length ≤ 32) && (cubesOk (a.row q) a.tracks.length && (rowC (a.row q) a.tracks.length).all fun x => decide (x < a.accept.length))) := by rw [rowOkS, Bool.and_assoc]
      have hs := unR_succ a q
      have hlu := unR_length a q
      have hrb := hrb q hqa
      rw [hrow] at hRt hUn
      rw [hcl] at hRt hUn hrowS
      generalize a.row q = cs at *
      generalize unR a q = rs at *
      generalize hx : a.st q = x at *
      generalize hy : a.st (q + 1) = y at *
      repeat first | refine opsStep ?_ | refine codeStep ?_ | refine drawStep ?_
      refine SW.drawn rfl (by kernel_rfl) ?_
      repeat first | refine opsStep ?_ | refine codeStep ?_ | refine drawStep ?_
      refine guardE_of (by simp; omega) ?_
      repeat first | refine opsStep ?_ | refine codeStep ?_ | refine drawStep ?_
      refine optE_of (c := .int .i64 (x : Nat)) (by simp [Value.cells, p1]) ?_
      repeat first | refine opsStep ?_ | refine codeStep ?_ | refine drawStep ?_
      refine guardE_of (by rw [hw2]; simp; omega) ?_
      repeat first | refine opsStep ?_ | refine codeStep ?_ | refine drawStep ?_
      refine optE_of (c := .int .i64 (y : Nat)) (by rw [hw2, Int.toNat_natCast]; simp [Value.cells, p3]) ?_
      repeat first | refine opsStep ?_ | refine codeStep ?_ | refine drawStep ?_
      refine guardE_of (by simp; omega) ?_
      repeat first | refine opsStep ?_ | refine codeStep ?_ | refine drawStep ?_
      refine ⟨by kernel_rfl, ?_⟩
      repeat first | refine opsStep ?_ | refine codeStep ?_ | refine drawStep ?_
      refine decB_dec (fun h32 => ?_) (fun h32 => ?_)
      · have h32 : (((y : Int).toNat - (x : Int).toNat : Nat) : Int) > 32 := h32
        repeat first | refine opsStep ?_ | refine codeStep ?_ | refine drawStep ?_
        exact finR (l := [(2, .ref 1 0 0), (3, .bool false)]) (H₁ := [.cells 0 a.cells, .cells 0 [.sl .nil 0 [], .sl .nil 0 [], .sl .nil 0 []], .fro 1 (a.tracks.map .str), .fro 1 (a.accept.map .bool), .cells 0 [aSs .any a.tracks, aBs .any a.accept, .hs 5 (q) 0 (q) 1], Blk.cells (q) ((rs).map fun r => aIs r.1 r.2)]) (v := .tup [aDen den0, .bool false]) ⟨(by kernel_rfl), (by kernel_rfl), trivial⟩ (by kernel_rfl) (Ent.refl _ _ _) (by kernel_rfl) (.inl ⟨hrb (by rw [hrowS, decide_eq_false (by omega)]; rfl), rfl⟩)
      have h32 : (y : Int).toNat - (x : Int).toNat ≤ 32 := by
        have h32 : ¬ (((y : Int).toNat - (x : Int).toNat : Nat) : Int) > 32 := h32
        omega
      have hRt2 := hRt (by omega)
      have hUn2 := hUn (by omega)
      rw [decide_eq_true h32, Bool.true_and] at hrowS
      rw [← hrowS] at hRt2
      cases hb : rowOkS a q with
      | false =>
        rw [hb] at hRt2
        repeat first | refine opsStep ?_ | refine codeStep ?_ | refine drawStep ?_
        refine callP hRt2 ?_
        repeat first | refine opsStep ?_ | refine codeStep ?_ | refine drawStep ?_
        exact finR (l := [(2, .ref 1 0 0), (3, .bool false)]) (H₁ := [.cells 0 a.cells, .cells 0 [.sl .nil 0 [], .sl .nil 0 [], .sl .nil 0 []], .fro 1 (a.tracks.map .str), .fro 1 (a.accept.map .bool), .cells 0 [aSs .any a.tracks, aBs .any a.accept, .hs 5 (q) 0 (q) 1], Blk.cells (q) ((rs).map fun r => aIs r.1 r.2)]) (v := .tup [aDen den0, .bool false]) ⟨(by kernel_rfl), (by kernel_rfl), trivial⟩ (by kernel_rfl) (Ent.refl _ _ _) (by kernel_rfl) (.inl ⟨hrb hb, rfl⟩)
      | true =>
        rw [hb] at hRt2 hrowS
        have hcu := (Bool.and_eq_true_iff.1 hrowS.symm).1
        rw [rowU_ok hcu] at hUn2
        generalize rowC cs a.tracks.length = r at *
        repeat first | refine opsStep ?_ | refine codeStep ?_ | refine drawStep ?_
        refine callP hRt2 ?_
        repeat first | refine opsStep ?_ | refine codeStep ?_ | refine drawStep ?_
        refine callP hUn2 ?_
        repeat first | refine opsStep ?_ | refine codeStep ?_ | refine drawStep ?_
        refine guardE_of ⟨rfl, by simp [hlu]⟩ ?_
        repeat first | refine opsStep ?_ | refine codeStep ?_ | refine drawStep ?_
        refine guardE_of rfl ?_
        repeat first | refine opsStep ?_ | refine codeStep ?_ | refine drawStep ?_
        refine guardE_of ⟨by omega, by show (q + 1) * 24 ≤ 140737488355328; omega⟩ ?_
        repeat first | refine opsStep ?_ | refine codeStep ?_ | refine drawStep ?_
        refine ⟨⟨q + 1, by omega, fun i hi => ?_⟩, (by show a.accept.length - (q + 1) < a.accept.length - q; omega), Ent.frD (X := [.cells 0 [aIs .any r]]) ⟨(by kernel_rfl), (by kernel_rfl), (by kernel_rfl), (by kernel_rfl), inc_slot (i := q) (by omega), trivial⟩ ?_ (Nat.le_of_ble_eq_true (by kernel_rfl)) (by first | (simp [frBel, blksBel, Blk.bel, AV.bel, bels, bels_append, bels_map, aSs_bel, aIs_bel, aBs_bel, aRs_bel, aDen_bel, cells_bel]; done) | (simp only [List.drop_zero, ← List.map_take, ← List.map_drop, List.map_map, frBel, blksBel, Blk.bel, AV.bel, bels, bels_append, bels_map, aSs_bel, aIs_bel, aBs_bel, aRs_bel, aDen_bel, cells_bel]; simp [AV.bel, aSs_bel, aIs_bel, aBs_bel, aRs_bel, aDen_bel, cells_bel])) ?_⟩
        · by_cases e : i = q
          · subst e; exact hb
          · exact hpre i (by omega)
        · refine Eq.trans (b := [.cells 0 a.cells, .cells 0 [.sl .nil 0 [], .sl .nil 0 [], .sl .nil 0 []], .fro 1 (a.tracks.map .str), .fro 1 (a.accept.map .bool), .cells 0 [aSs .any a.tracks, aBs .any a.accept, .hs 5 (q + 1) 0 (q + 1) 1], Blk.cells (q + 1) (((((rs).map fun r => aIs r.1 r.2)).drop 0).take (q * 1) ++ [aIs .any r]), .cells 0 [aIs .any r]]) (by kernel_rfl) ?_
          show _ = [.cells 0 a.cells, .cells 0 [.sl .nil 0 [], .sl .nil 0 [], .sl .nil 0 []], .fro 1 (a.tracks.map .str), .fro 1 (a.accept.map .bool), .cells 0 [aSs .any a.tracks, aBs .any a.accept, .hs 5 ((q + 1)) 0 ((q + 1)) 1], Blk.cells ((q + 1)) ((unR a (q + 1)).map fun r => aIs r.1 r.2)] ++ [.cells 0 [aIs .any r]]
          rw [hs, List.drop_zero, List.take_of_length_le (by simp [hlu]), List.map_append]
          rfl
        · simp [blksBel, Blk.bel, bels, AV.bel, Aut.cells, bels_map, aSs_bel, aBs_bel, aIs_bel]
    · have hqa : q = a.accept.length := by have := hqn; simp at this; omega
      subst hqa
      repeat first | refine opsStep ?_ | refine codeStep ?_ | refine drawStep ?_
      exact finR (l := [(2, .ref 1 0 0), (3, .bool true)]) (H₁ := [.cells 0 a.cells, .cells 0 [aSs .any a.tracks, aBs .any a.accept, .hs 5 a.accept.length 0 a.accept.length 1], .fro 1 (a.tracks.map .str), .fro 1 (a.accept.map .bool), .cells 0 [aSs .any a.tracks, aBs .any a.accept, .hs 5 a.accept.length 0 a.accept.length 1], Blk.cells a.accept.length ((unR a a.accept.length).map fun r => aIs r.1 r.2)]) (v := .tup [.agg [aSs .any a.tracks, aBs .any a.accept, .hs 5 a.accept.length 0 a.accept.length 1], .bool true]) ⟨(by kernel_rfl), (by kernel_rfl), trivial⟩ (by kernel_rfl) (Ent.refl _ _ _) (by kernel_rfl) (.inr ⟨hgood (frameS_iff.2 hf) hpre, rfl, _, _, _, _, _, rfl⟩)

end Tab

/- The constant tables of tabardlaw20 and tabardlaw21. -/
namespace Tab
open Go Go.Proofs
set_option maxRecDepth 10000
set_option linter.unusedVariables false
set_option linter.unusedSimpArgs false
set_option linter.unusedSectionVars false

def dF : Den := ⟨.any, [[120]], .any, [false, false, false, false, true], .any, [(.any, [1, 2]), (.any, [2, 3]), (.any, [2, 2]), (.any, [4, 2]), (.any, [4, 2])]⟩
def dT : Den := ⟨.any, [[120]], .any, [false, true], .any, [(.any, [1, 1]), (.any, [1, 1])]⟩
def tbF : Aut := packA dF
def tbT : Aut := packA dT
theorem dF_ok : DenOk dF := ⟨by decide, by decide, by decide, by decide, by decide⟩
theorem dT_ok : DenOk dT := ⟨by decide, by decide, by decide, by decide, by decide⟩
theorem dF_right : rightS dF = true := by kernel_rfl
theorem dT_right : rightS dT = true := by kernel_rfl
theorem pk_F : Pure Try.prog 91 [aDen dF] (.tup [aAut tbF, .int .i64 0]) := r12_Pack dF dF_ok dF_right fun r _ => by
  have := (cubR_len dF.tracks.length r 0 0).1
  have e : 2 ^ dF.tracks.length = 2 := rfl
  omega
theorem pk_T : Pure Try.prog 91 [aDen dT] (.tup [aAut tbT, .int .i64 0]) := r12_Pack dT dT_ok dT_right fun r _ => by
  have := (cubR_len dT.tracks.length r 0 0).1
  have e : 2 ^ dT.tracks.length = 2 := rfl
  omega
theorem tbF_check : checkS tbF = true := by kernel_rfl
theorem tbT_check : checkS tbT = true := by kernel_rfl
theorem tbF_den : unpD tbF = dF := by rw [unpD_ok tbF_check]; kernel_rfl
theorem tbT_den : unpD tbT = dT := by rw [unpD_ok tbT_check]; kernel_rfl
theorem pack_ok {d : Den} (hd : DenOk d) (hl : d.next.length ≤ 1000) (ho : ∀ r ∈ d.rows, ∀ x ∈ r, okI x) (h6 : d.tracks.length ≤ 6) (h32 : ∀ r ∈ d.rows, (cubR d.tracks.length r 0 0).length ≤ 32) : AutOk (packA d) where
  tracks := hd.tracks
  names := hd.names
  accept := hd.accept
  starts := by show (packS d d.next.length).length * 8 ≤ _; rw [packS_length]; omega
  arena := by show (packC d d.next.length).length * 24 ≤ _; have := packC_len h32 d.next.length; omega
  cubes := by
    intro c hc
    obtain ⟨r, hr, hc⟩ := List.mem_flatMap.1 hc
    exact cubR_ok _ h6 r 0 0 (ho r (List.mem_of_mem_take hr)) (by omega) (by omega) c hc
theorem tbF_ok : AutOk tbF := pack_ok dF_ok (by decide) (by unfold okI; decide) (by decide) fun r _ => by
  have := (cubR_len dF.tracks.length r 0 0).1
  have e : 2 ^ dF.tracks.length = 2 := rfl
  omega
theorem tbT_ok : AutOk tbT := pack_ok dT_ok (by decide) (by unfold okI; decide) (by decide) fun r _ => by
  have := (cubR_len dT.tracks.length r 0 0).1
  have e : 2 ^ dT.tracks.length = 2 := rfl
  omega

end Tab

/- tabardref12.Copy. -/
namespace Tab
open Go Go.Proofs
set_option maxRecDepth 10000
set_option linter.unusedVariables false
set_option linter.unusedSimpArgs false
set_option linter.unusedSectionVars false

def copyA (a : Aut) : Aut := ⟨.any, a.tracks, .any, a.accept, .any, a.starts, .any, a.arena⟩
theorem copyA_ok {a : Aut} (h : AutOk a) : AutOk (copyA a) := ⟨h.1, h.2, h.3, h.4, h.5, h.6⟩
theorem copyA_check (a : Aut) : checkS (copyA a) = checkS a := rfl
theorem copyA_unp (a : Aut) : unpD (copyA a) = unpD a ∧ unpE (copyA a) = unpE a := by
  constructor
  · rw [unpD, unpD]; rfl
  · rw [unpE, unpE]; rfl
set_option maxHeartbeats 1000000 in
theorem r12_Copy (a : Aut) (ha : AutOk a) : Pure Try.prog 11 [aAut a] (aAut (copyA a)) := by
  have d1 := ha.tracks
  have d2 := ha.accept
  have d3 := ha.starts
  have d4 := ha.arena
  have hcc := cc3_length a.arena
  refine Pure.of_read (by simp [closeds, aAut_closed]) (aAut_closed _) (R := fun o H' => o = .ret (.agg [.hs 2 1 0 a.tracks.length 1, .hs 3 1 0 a.accept.length 1, .hs 4 1 0 a.starts.length 1, .hs 5 1 0 a.arena.length 3]) ∧ ∃ b0 b1, H' = [b0, b1, .cells 1 (a.tracks.map .str), .cells 1 (a.accept.map .bool), .cells 1 (a.starts.map (.int .i64)), .cells 1 (cc3 a.arena)]) ?_ ?_
  rotate_left
  · rintro o H' ⟨rfl, b0, b1, rfl⟩
    exact ⟨_, rfl, .agg (.cons (Rd.whole rfl (by simp [copyA])) (.cons (Rd.whole rfl (by simp [copyA])) (.cons (Rd.whole rfl (by simp [copyA])) (.cons (Rd.whole rfl hcc.symm) .nil))))⟩
  refine ACall.of_sw 20 Try.func11 rfl Try.ntmps11 (by kernel_rfl) (Nat.le_of_ble_eq_true (by kernel_rfl)) ?_; refine SW.of_vc ?_
  repeat first | refine opsStep ?_ | refine codeStep ?_ | refine drawStep ?_
  refine SW.drawn rfl (by kernel_rfl) ?_
  repeat first | refine opsStep ?_ | refine codeStep ?_ | refine drawStep ?_
  refine guardE_of (by simp [Value.cells]) ?_
  refine guardE_of ⟨by omega, by show (0 + a.tracks.length) * 16 ≤ 140737488355328; omega⟩ ?_
  repeat first | refine opsStep ?_ | refine codeStep ?_ | refine drawStep ?_
  refine guardE_of (by simp [Value.cells]) ?_
  refine guardE_of ⟨by omega, by show (0 + a.accept.length) * 1 ≤ 140737488355328; omega⟩ ?_
  repeat first | refine opsStep ?_ | refine codeStep ?_ | refine drawStep ?_
  refine guardE_of (by simp [Value.cells]) ?_
  refine guardE_of ⟨by omega, by show (0 + a.starts.length) * 8 ≤ 140737488355328; omega⟩ ?_
  repeat first | refine opsStep ?_ | refine codeStep ?_ | refine drawStep ?_
  refine guardE_of (by show (cc3 a.arena).length = a.arena.length * 3; exact hcc) ?_
  refine guardE_of ⟨by omega, by show (0 + a.arena.length) * 24 ≤ 140737488355328; omega⟩ ?_
  repeat first | refine opsStep ?_ | refine codeStep ?_ | refine drawStep ?_
  refine ⟨by kernel_rfl, ?_⟩
  repeat first | refine opsStep ?_ | refine codeStep ?_ | refine drawStep ?_
  exact finR (l := [(2, .ref 1 0 0)]) (H₁ := [.cells 0 a.cells, .cells 0 [.hs 2 1 0 a.tracks.length 1, .hs 3 1 0 a.accept.length 1, .hs 4 1 0 a.starts.length 1, .hs 5 1 0 a.arena.length 3], .cells 1 (a.tracks.map .str), .cells 1 (a.accept.map .bool), .cells 1 (a.starts.map (.int .i64)), .cells 1 (cc3 a.arena)]) (v := .agg [.hs 2 1 0 a.tracks.length 1, .hs 3 1 0 a.accept.length 1, .hs 4 1 0 a.starts.length 1, .hs 5 1 0 a.arena.length 3]) ⟨(by kernel_rfl), trivial⟩ (Eq.trans (b := [.cells 0 a.cells, .cells 0 [.hs 2 1 0 (0 + a.tracks.length) 1, .hs 3 1 0 (0 + a.accept.length) 1, .hs 4 1 0 (0 + a.starts.length) 1, .hs 5 1 0 (0 + a.arena.length) 3], .cells 1 (a.tracks.map .str), .cells 1 (a.accept.map .bool), .cells 1 (a.starts.map (.int .i64)), .cells 1 (cc3 a.arena)]) (by kernel_rfl) (by simp only [Nat.zero_add])) (Ent.refl _ _ _) (by kernel_rfl) ⟨rfl, _, _, rfl⟩

end Tab

/- tabardref12.Same of a copy. -/
namespace Tab
open Go Go.Proofs
set_option maxRecDepth 10000
set_option linter.unusedVariables false
set_option linter.unusedSimpArgs false
set_option linter.unusedSectionVars false

theorem r12_SameC (a : Aut) (ha : AutOk a) : Pure Try.prog 16 [aAut (copyA a), aAut a] (.bool true) := by
  have d1 := ha.tracks
  have d2 := ha.accept
  have d3 := ha.starts
  have d4 := ha.arena
  have h1 := r12_texts .any a.tk a.tracks a.tracks (by omega) (by omega)
  have h2 := r12_flags .any a.ak a.accept a.accept (by omega) (by omega)
  have h3 := r12_ints .any a.sk a.starts a.starts (by omega) (by omega)
  rw [decide_eq_true rfl] at h1 h2 h3
  refine Pure.of_sw 55 Try.func16 rfl Try.ntmps16 (by kernel_rfl) (Nat.le_of_ble_eq_true (by kernel_rfl)) (by simp [closeds, AV.closed, aSs_closed, aIs_closed, aBs_closed, aRs_closed, aDen_closed, aCs_closed, aAut_closed]) (by simp [AV.closed, closeds, aSs_closed, aIs_closed, aBs_closed, aRs_closed, aDen_closed, aCs_closed, aAut_closed]) ?_; refine SW.of_vc ?_
  repeat first | refine opsStep ?_ | refine codeStep ?_ | refine drawStep ?_
  refine callP h1 ?_
  repeat first | refine opsStep ?_ | refine codeStep ?_ | refine drawStep ?_
  refine callP h2 ?_
  repeat first | refine opsStep ?_ | refine codeStep ?_ | refine drawStep ?_
  refine callP h3 ?_
  repeat first | refine opsStep ?_ | refine codeStep ?_ | refine drawStep ?_
  refine decB_false (decide_eq_false fun h => h rfl) ?_
  repeat first | refine opsStep ?_ | refine codeStep ?_ | refine drawStep ?_
  refine loopE_of (ι := {i : Nat // i ≤ a.arena.length}) (fun i => (fr [(2, .ref 0 0 0), (3, .ref 1 0 0), (5, .int .i64 i.1)], [.cells 0 (copyA a).cells, .cells 0 a.cells])) (fun i => a.arena.length - i.1) ⟨0, by omega⟩ (Ent.fr' ⟨(by kernel_rfl), (by kernel_rfl), (by kernel_rfl), trivial⟩ (by kernel_rfl)) ?_
  rintro ⟨i, hi⟩
  repeat first | refine opsStep ?_ | refine codeStep ?_ | refine drawStep ?_
  refine decB_dec (fun h => ?_) (fun h => ?_)
  · have hia : i < a.arena.length := by have := h; simp [copyA] at this; omega
    obtain ⟨g1, g2⟩ := cc3_get (List.getElem?_eq_getElem hia)
    have he : EqlE Try.prog 92 (((cc3 a.arena).drop (i * 3)).take 3) (((cc3 a.arena).drop (i * 3)).take 3) true := by
      rw [g1]
      have := eqlC (ha.cubes _ (List.getElem_mem hia)) (ha.cubes _ (List.getElem_mem hia))
      rwa [decide_eq_true rfl] at this
    repeat first | refine opsStep ?_ | refine codeStep ?_ | refine drawStep ?_
    refine SW.drawn rfl (by kernel_rfl) ?_
    repeat first | refine opsStep ?_ | refine codeStep ?_ | refine drawStep ?_
    refine guardE_of (by simp [copyA]; omega) ?_
    repeat first | refine opsStep ?_ | refine codeStep ?_ | refine drawStep ?_
    refine guardE_of g2 ?_
    repeat first | refine opsStep ?_ | refine codeStep ?_ | refine drawStep ?_
    refine guardE_of (by simp; omega) ?_
    repeat first | refine opsStep ?_ | refine codeStep ?_ | refine drawStep ?_
    refine guardE_of g2 ?_
    repeat first | refine opsStep ?_ | refine codeStep ?_ | refine drawStep ?_
    refine ⟨_, he, ?_⟩
    repeat first | refine opsStep ?_ | refine codeStep ?_ | refine drawStep ?_
    refine ⟨by kernel_rfl, ?_⟩
    repeat first | refine opsStep ?_ | refine codeStep ?_ | refine drawStep ?_
    refine ⟨⟨i + 1, by omega⟩, (by show a.arena.length - (i + 1) < a.arena.length - i; omega), Ent.fr' ⟨(by kernel_rfl), (by kernel_rfl), inc_slot (i := i) (by omega), trivial⟩ (by kernel_rfl)⟩
  · repeat first | refine opsStep ?_ | refine codeStep ?_ | refine drawStep ?_
    exact finB (b' := true) (by kernel_rfl) rfl

end Tab
