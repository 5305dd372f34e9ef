/- Names, lists of names. -/
import Derived.Test.YthdpblbclgpnjaaGd
import Derived.Test.YthdpblbclgpnjaaFa
namespace Tab
open Go Go.Proofs
set_option maxRecDepth 10000
set_option linter.unusedVariables false
set_option linter.unusedSimpArgs false
set_option linter.unusedSectionVars false

def nmFrom (s : List UInt8) : Nat → Nat → Nat → Option Nat
  | 0, _, n => some n
  | f + 1, p, n => if p < s.length then (if ((decide (p = 0) && !startR (dec s p).1) || !restR (dec s p).1) = true then none else nmFrom s f (p + (dec s p).2) (n + 1)) else some n

def nameS (s : List UInt8) : Bool := match nmFrom s (s.length + 1) 0 0 with
  | none => false
  | some n => decide (0 < n) && decide (n ≤ 16) && !resS s

theorem dec_width (s : List UInt8) (p : Nat) : 1 ≤ (dec s p).2 ∧ (dec s p).2 ≤ 4 := by
  rw [dec_def]
  simp only []
  repeat' split
  all_goals simp

def NmInv (s : List UInt8) (x : Nat × Nat × Nat) : Prop :=
  nmFrom s (s.length + 1) 0 0 = nmFrom s x.2.2 x.1 x.2.1 ∧ s.length < x.1 + x.2.2 ∧ x.2.1 ≤ x.1 ∧ x.1 ≤ s.length + 3 ∧ (x.2.1 = 0 ↔ x.1 = 0)

theorem NmInv.step {s : List UInt8} {p n f : Nat} (h : NmInv s (p, n, f)) (hp : p < s.length) (hg : ((decide (p = 0) && !startR (dec s p).1) || !restR (dec s p).1) = false) : NmInv s (p + (dec s p).2, n + 1, f - 1) := by
  obtain ⟨h1, h2, h3, h4, h5⟩ := h
  have hw := dec_width s p
  simp only at h1 h2 h3 h4 h5
  refine ⟨?_, by simp only; omega, by simp only; omega, by simp only; omega, by simp only; omega⟩
  obtain ⟨f, rfl⟩ : ∃ k, f = k + 1 := ⟨f - 1, by omega⟩
  rw [h1, nmFrom, if_pos hp, if_neg (by rw [hg]; simp)]
  rfl
theorem NmInv.bad {s : List UInt8} {p n f : Nat} (h : NmInv s (p, n, f)) (hp : p < s.length) (hg : ((decide (p = 0) && !startR (dec s p).1) || !restR (dec s p).1) = true) : nameS s = false := by
  obtain ⟨h1, h2, h3, h4, h5⟩ := h
  simp only at h1 h2 h3 h4 h5
  obtain ⟨f, rfl⟩ : ∃ k, f = k + 1 := ⟨f - 1, by omega⟩
  have e : nmFrom s (f + 1) p n = none := by rw [nmFrom, if_pos hp, if_pos hg]
  rw [e] at h1
  simp [nameS, h1]
theorem NmInv.done {s : List UInt8} {p n f : Nat} (h : NmInv s (p, n, f)) (hp : ¬ p < s.length) : nameS s = (decide (0 < n) && decide (n ≤ 16) && !resS s) := by
  obtain ⟨h1, h2, h3, h4, h5⟩ := h
  simp only at h1 h2 h3 h4 h5
  have : nmFrom s f p n = some n := by
    cases f with
    | zero => rfl
    | succ f => rw [nmFrom, if_neg hp]
  rw [this] at h1
  simp [nameS, h1]

theorem glyph_Name (s : List UInt8) (hl : s.length < 2^62) : Pure Try.prog 20 [.str s] (.bool (nameS s)) := by
  refine Pure.of_sw 37 Try.func20 rfl Try.ntmps20 (by kernel_rfl) (Nat.le_of_ble_eq_true (by kernel_rfl)) (by simp [closeds, AV.closed, aSs_closed, aIs_closed, aBs_closed, aRs_closed, aDen_closed]) (by simp [AV.closed, closeds, aSs_closed, aIs_closed, aBs_closed, aRs_closed, aDen_closed]) ?_; refine SW.of_vc ?_
  repeat first | refine opsStep ?_ | refine codeStep ?_ | refine drawStep ?_
  refine loopE_of (ι := {x : Nat × Nat × Nat // NmInv s x}) (fun x => (fr [(0, .str s), (3, .int .i64 x.1.2.1), (7, .ref 0 0 0)], [.siter s x.1.1])) (fun x => s.length + 4 - x.1.1)
    ⟨(0, 0, s.length + 1), rfl, by simp, by simp, by simp, by simp⟩ (Ent.fr' ⟨(by kernel_rfl), (by kernel_rfl), (by kernel_rfl), trivial⟩ (by kernel_rfl)) ?_
  rintro ⟨⟨p, n, f⟩, hinv⟩
  have hw := dec_width s p
  have hinv' := hinv
  obtain ⟨-, -, hnp, hps, hn0⟩ := hinv'
  simp only at hnp hps hn0
  repeat first | refine opsStep ?_ | refine codeStep ?_ | refine drawStep ?_
  refine decB_dec (fun hp => ?_) (fun hp => ?_)
  · repeat first | refine opsStep ?_ | refine codeStep ?_ | refine drawStep ?_
    refine decB_split (fun h => ?_) (fun h => ?_)
    · repeat first | refine opsStep ?_ | refine codeStep ?_ | refine drawStep ?_
      refine callP (glyph_Start _) ?_
      repeat first | refine opsStep ?_ | refine codeStep ?_ | refine drawStep ?_
      refine decB_split (fun h => ?_) (fun h => ?_)
      · repeat first | refine opsStep ?_ | refine codeStep ?_ | refine drawStep ?_
        exact finB rfl (by rw [hinv.bad hp (by simp_all)])
      · repeat first | refine opsStep ?_ | refine codeStep ?_ | refine drawStep ?_
        refine callP (glyph_Rest _) ?_
        repeat first | refine opsStep ?_ | refine codeStep ?_ | refine drawStep ?_
        refine decB_split (fun h => ?_) (fun h => ?_)
        · repeat first | refine opsStep ?_ | refine codeStep ?_ | refine drawStep ?_
          exact finB rfl (by rw [hinv.bad hp (by simp_all)])
        · repeat first | refine opsStep ?_ | refine codeStep ?_ | refine drawStep ?_
          refine ⟨⟨(p + (dec s p).2, n + 1, f - 1), hinv.step hp (by simp_all)⟩, (by show s.length + 4 - (p + (dec s p).2) < s.length + 4 - p; have : p < s.length := hp; omega), Ent.fr' ⟨(by kernel_rfl), inc_slot (i := n) (by omega), (by kernel_rfl), trivial⟩ (by kernel_rfl)⟩
    · repeat first | refine opsStep ?_ | refine codeStep ?_ | refine drawStep ?_
      refine callP (glyph_Rest _) ?_
      repeat first | refine opsStep ?_ | refine codeStep ?_ | refine drawStep ?_
      refine decB_split (fun h => ?_) (fun h => ?_)
      · repeat first | refine opsStep ?_ | refine codeStep ?_ | refine drawStep ?_
        exact finB rfl (by rw [hinv.bad hp (by simp_all)])
      · repeat first | refine opsStep ?_ | refine codeStep ?_ | refine drawStep ?_
        refine ⟨⟨(p + (dec s p).2, n + 1, f - 1), hinv.step hp (by simp_all)⟩, (by show s.length + 4 - (p + (dec s p).2) < s.length + 4 - p; have : p < s.length := hp; omega), Ent.fr' ⟨(by kernel_rfl), inc_slot (i := n) (by omega), (by kernel_rfl), trivial⟩ (by kernel_rfl)⟩
  · repeat first | refine opsStep ?_ | refine codeStep ?_ | refine drawStep ?_
    refine decB_dec (fun h1 => ?_) (fun h1 => ?_)
    · repeat first | refine opsStep ?_ | refine codeStep ?_ | refine drawStep ?_
      refine decB_dec (fun h2 => ?_) (fun h2 => ?_)
      · repeat first | refine opsStep ?_ | refine codeStep ?_ | refine drawStep ?_
        refine callP (glyph_Reserved _) ?_
        repeat first | refine opsStep ?_ | refine codeStep ?_ | refine drawStep ?_
        exact finB rfl (by rw [hinv.done hp, decide_eq_true (show 0 < n by simp at h1; omega), decide_eq_true (show n ≤ 16 by simp at h2; omega)]; simp)
      · repeat first | refine opsStep ?_ | refine codeStep ?_ | refine drawStep ?_
        exact finB rfl (by rw [hinv.done hp, decide_eq_true (show 0 < n by simp at h1; omega), decide_eq_false (show ¬ n ≤ 16 by simp at h2; omega)]; simp)
    · repeat first | refine opsStep ?_ | refine codeStep ?_ | refine drawStep ?_
      exact finB rfl (by rw [hinv.done hp, decide_eq_false (show ¬ 0 < n by simp at h1; omega)]; simp)

theorem r04_Name (s : List UInt8) (hl : s.length < 2^62) : Pure Try.prog 47 [.str s] (.bool (nameS s)) := by
  refine Pure.of_sw 51 Try.func47 rfl Try.ntmps47 (by kernel_rfl) (Nat.le_of_ble_eq_true (by kernel_rfl)) (by simp [closeds, AV.closed, aSs_closed, aIs_closed, aBs_closed, aRs_closed, aDen_closed]) (by simp [AV.closed, closeds, aSs_closed, aIs_closed, aBs_closed, aRs_closed, aDen_closed]) ?_; refine SW.of_vc ?_
  repeat first | refine opsStep ?_ | refine codeStep ?_ | refine drawStep ?_
  refine loopE_of (ι := {x : Nat × Nat × Nat // NmInv s x}) (fun x => (fr [(0, .str s), (3, .int .i64 x.1.2.1), (4, .int .i64 x.1.1)], [])) (fun x => s.length + 4 - x.1.1)
    ⟨(0, 0, s.length + 1), rfl, by simp, by simp, by simp, by simp⟩ (Ent.fr' ⟨(by kernel_rfl), (by kernel_rfl), (by kernel_rfl), trivial⟩ (by kernel_rfl)) ?_
  rintro ⟨⟨p, n, f⟩, hinv⟩
  have hw := dec_width s p
  have hinv' := hinv
  obtain ⟨-, -, hnp, hps, hn0⟩ := hinv'
  simp only at hnp hps hn0
  repeat first | refine opsStep ?_ | refine codeStep ?_ | refine drawStep ?_
  refine decB_dec (fun hp0 => ?_) (fun hp0 => ?_)
  · have hp : p < s.length := by simpa using hp0
    repeat first | refine opsStep ?_ | refine codeStep ?_ | refine drawStep ?_
    refine callP (r04_Read s p hp hl) ?_
    have hbad : okd s p = false → nameS s = false := fun e => hinv.bad hp (by
      have e : dec s p = (65533, 1) := by rw [okd_eq] at e; simpa using e
      rw [e]; have : restR 65533 = false := by unfold restR startR; simp
      simp only [show ((65533, 1) : Nat × Nat).1 = 65533 from rfl]; rw [show ((65533 : Nat) : Int) = 65533 from rfl, this]; simp)
    repeat first | refine opsStep ?_ | refine codeStep ?_ | refine drawStep ?_
    refine decB_split (fun h => ?_) (fun h => ?_)
    · repeat first | refine opsStep ?_ | refine codeStep ?_ | refine drawStep ?_
      exact finB rfl (by rw [hbad (by simp_all)])
    · repeat first | refine opsStep ?_ | refine codeStep ?_ | refine drawStep ?_
      refine decB_split (fun h => ?_) (fun h => ?_)
      · repeat first | refine opsStep ?_ | refine codeStep ?_ | refine drawStep ?_
        refine callP (r04_Start _) ?_
        repeat first | refine opsStep ?_ | refine codeStep ?_ | refine drawStep ?_
        refine decB_split (fun h => ?_) (fun h => ?_)
        · repeat first | refine opsStep ?_ | refine codeStep ?_ | refine drawStep ?_
          exact finB rfl (by rw [hinv.bad hp (by simp_all)])
        · repeat first | refine opsStep ?_ | refine codeStep ?_ | refine drawStep ?_
          refine callP (r04_Rest _) ?_
          repeat first | refine opsStep ?_ | refine codeStep ?_ | refine drawStep ?_
          refine decB_split (fun h => ?_) (fun h => ?_)
          · repeat first | refine opsStep ?_ | refine codeStep ?_ | refine drawStep ?_
            exact finB rfl (by rw [hinv.bad hp (by simp_all)])
          · repeat first | refine opsStep ?_ | refine codeStep ?_ | refine drawStep ?_
            refine ⟨⟨(p + (dec s p).2, n + 1, f - 1), hinv.step hp (by simp_all)⟩, (by show s.length + 4 - (p + (dec s p).2) < s.length + 4 - p; omega), Ent.fr' ⟨(by kernel_rfl), inc_slot (i := n) (by omega), (congrArg (AV.int .i64) ((IntWalk.i64_in ((p : Int) + (dec s p).2) (by omega)).trans (Int.natCast_add _ _).symm) : _), trivial⟩ (by kernel_rfl)⟩
      · repeat first | refine opsStep ?_ | refine codeStep ?_ | refine drawStep ?_
        refine callP (r04_Rest _) ?_
        repeat first | refine opsStep ?_ | refine codeStep ?_ | refine drawStep ?_
        refine decB_split (fun h => ?_) (fun h => ?_)
        · repeat first | refine opsStep ?_ | refine codeStep ?_ | refine drawStep ?_
          exact finB rfl (by rw [hinv.bad hp (by simp_all)])
        · repeat first | refine opsStep ?_ | refine codeStep ?_ | refine drawStep ?_
          refine ⟨⟨(p + (dec s p).2, n + 1, f - 1), hinv.step hp (by simp_all)⟩, (by show s.length + 4 - (p + (dec s p).2) < s.length + 4 - p; omega), Ent.fr' ⟨(by kernel_rfl), inc_slot (i := n) (by omega), (congrArg (AV.int .i64) ((IntWalk.i64_in ((p : Int) + (dec s p).2) (by omega)).trans (Int.natCast_add _ _).symm) : _), trivial⟩ (by kernel_rfl)⟩
  · have hp : ¬ p < s.length := by simpa using hp0
    repeat first | refine opsStep ?_ | refine codeStep ?_ | refine drawStep ?_
    refine decB_dec (fun h1 => ?_) (fun h1 => ?_)
    · repeat first | refine opsStep ?_ | refine codeStep ?_ | refine drawStep ?_
      refine decB_dec (fun h2 => ?_) (fun h2 => ?_)
      · repeat first | refine opsStep ?_ | refine codeStep ?_ | refine drawStep ?_
        refine callP (r04_Reserved _) ?_
        repeat first | refine opsStep ?_ | refine codeStep ?_ | refine drawStep ?_
        exact finB rfl (by rw [hinv.done hp, decide_eq_true (show 0 < n by simp at h1; omega), decide_eq_true (show n ≤ 16 by simp at h2; omega)]; simp)
      · repeat first | refine opsStep ?_ | refine codeStep ?_ | refine drawStep ?_
        exact finB rfl (by rw [hinv.done hp, decide_eq_true (show 0 < n by simp at h1; omega), decide_eq_false (show ¬ n ≤ 16 by simp at h2; omega)]; simp)
    · repeat first | refine opsStep ?_ | refine codeStep ?_ | refine drawStep ?_
      exact finB rfl (by rw [hinv.done hp, decide_eq_false (show ¬ 0 < n by simp at h1; omega)]; simp)
attribute [irreducible] nameS
end Tab
