/- Texts in order; the library's sort of short lists. -/
import Derived.Test.YthdpblbclgpnjaaLi
import Derived.Test.YthdpblbclgpnjaaRen
namespace Tab
open Go Go.Proofs
set_option maxRecDepth 10000
set_option linter.unusedVariables false
set_option linter.unusedSimpArgs false
set_option linter.unusedSectionVars false

abbrev less (a b : List UInt8) : Bool := Op.bytesLess a b
theorem less_irrefl : ∀ (a : List UInt8), less a a = false
  | [] => rfl
  | a :: x => by have := less_irrefl x; simp [less, Op.bytesLess] at this ⊢; exact this
theorem less_trans : ∀ {a b c : List UInt8}, less a b = true → less b c = true → less a c = true
  | _, [], _, h, _ => by simp [less, Op.bytesLess] at h
  | _, _ :: _, [], _, h => by simp [less, Op.bytesLess] at h
  | [], _ :: _, _ :: _, _, _ => rfl
  | a :: x, b :: y, c :: z, h1, h2 => by
    simp only [less, Op.bytesLess, Bool.or_eq_true, Bool.and_eq_true, decide_eq_true_eq, beq_iff_eq] at h1 h2 ⊢
    rcases h1 with h1 | ⟨rfl, h1⟩
    · rcases h2 with h2 | ⟨rfl, h2⟩
      · exact .inl (UInt8.lt_trans h1 h2)
      · exact .inl h1
    · rcases h2 with h2 | ⟨rfl, h2⟩
      · exact .inl h2
      · exact .inr ⟨rfl, less_trans h1 h2⟩
theorem less_asymm {a b : List UInt8} (h : less a b = true) : less b a = false := by
  cases e : less b a with
  | false => rfl
  | true => have := less_trans h e; rw [less_irrefl] at this; exact absurd this (by simp)
theorem less_total : ∀ {a b : List UInt8}, less a b = false → less b a = false → a = b
  | [], [], _, _ => rfl
  | [], _ :: _, h, _ => by simp [less, Op.bytesLess] at h
  | _ :: _, [], _, h => by simp [less, Op.bytesLess] at h
  | a :: x, b :: y, h1, h2 => by
    simp only [less, Op.bytesLess, Bool.or_eq_false_iff, Bool.and_eq_false_iff, decide_eq_false_iff_not, beq_eq_false_iff_ne] at h1 h2
    have e : a = b := UInt8.le_antisymm (UInt8.not_lt.1 h2.1) (UInt8.not_lt.1 h1.1)
    subst e
    rw [less_total (h1.2.resolve_left (by simp)) (h2.2.resolve_left (by simp))]

theorem cmp_isNaN (s : List UInt8) : Pure Try.prog 74 [.str s] (.bool false) := by
  refine Pure.of_sw 6 Try.func74 rfl Try.ntmps74 (by kernel_rfl) (Nat.le_of_ble_eq_true (by kernel_rfl)) (by simp [closeds, AV.closed, aSs_closed, aIs_closed, aBs_closed, aRs_closed, aDen_closed]) (by simp [AV.closed, closeds, aSs_closed, aIs_closed, aBs_closed, aRs_closed, aDen_closed]) ?_; refine SW.of_vc ?_
  repeat first | refine opsStep ?_ | refine codeStep ?_ | refine drawStep ?_
  exact finB (b' := decide (s ≠ s)) (by kernel_rfl) (by simp)
theorem cmp_Less (a b : List UInt8) : Pure Try.prog 64 [.str a, .str b] (.bool (less a b)) := by
  refine Pure.of_sw 17 Try.func64 rfl Try.ntmps64 (by kernel_rfl) (Nat.le_of_ble_eq_true (by kernel_rfl)) (by simp [closeds, AV.closed, aSs_closed, aIs_closed, aBs_closed, aRs_closed, aDen_closed]) (by simp [AV.closed, closeds, aSs_closed, aIs_closed, aBs_closed, aRs_closed, aDen_closed]) ?_; refine SW.of_vc ?_
  repeat first | refine opsStep ?_ | refine codeStep ?_ | refine drawStep ?_
  refine callP (cmp_isNaN a) ?_
  repeat first | refine opsStep ?_ | refine codeStep ?_ | refine drawStep ?_
  exact finB (b' := less a b) (by kernel_rfl) rfl

theorem over_length' {cs xs : List AV} {o : Nat} (h : o + xs.length ≤ cs.length) : (over cs o xs).length = cs.length := by simp [over]; omega

def lt2 (r : List (List UInt8)) (a b : Nat) : Bool := less (r.getD a []) (r.getD b [])
/-- The first i are in order. -/
def SrtTo (r : List (List UInt8)) (i : Nat) : Prop := ∀ m, m + 1 < i → lt2 r (m + 1) m = false
def SrtAt (r : List (List UInt8)) (i j : Nat) : Prop := (∀ m, m < i → m + 1 ≠ j → lt2 r (m + 1) m = false) ∧ (0 < j → j < i → lt2 r (j + 1) (j - 1) = false)
def swp (r : List (List UInt8)) (j : Nat) : List (List UInt8) := (r.set j (r.getD (j - 1) [])).set (j - 1) (r.getD j [])

theorem swp_get {r : List (List UInt8)} {j m : Nat} (hj : 0 < j) (hl : j < r.length) : (swp r j).getD m [] = if m = j then r.getD (j - 1) [] else if m = j - 1 then r.getD j [] else r.getD m [] := by
  simp only [swp, List.getD_eq_getElem?_getD, List.getElem?_set, List.length_set]
  by_cases h1 : m = j
  · subst h1
    rw [if_pos rfl, if_neg (by omega), if_pos rfl, if_pos hl]
    rfl
  · rw [if_neg h1]
    by_cases h2 : m = j - 1
    · rw [if_pos h2, if_pos h2.symm, if_pos (by omega)]
      rfl
    · rw [if_neg h2, if_neg (fun e => h2 e.symm), if_neg (fun e => h1 e.symm)]
theorem swp_length (r j) : (swp r j).length = r.length := by simp [swp]
theorem swp_perm {r : List (List UInt8)} {j : Nat} (hj : 0 < j) (hl : j < r.length) : (swp r j).Perm r := by
  have e : swp r j = (r.set j r[j - 1]).set (j - 1) r[j] := by simp [swp, List.getD_eq_getElem?_getD, hl, show j - 1 < r.length by omega]
  rw [e]
  exact List.set_set_perm hl (by omega)
theorem swp_at {r : List (List UInt8)} {i j : Nat} (hj : 0 < j) (hl : j < r.length) (hji : j ≤ i) (h : SrtAt r i j) (hlt : lt2 r j (j - 1) = true) : SrtAt (swp r j) i (j - 1) := by
  obtain ⟨h1, h2⟩ := h
  refine ⟨fun m hm hne => ?_, fun hj0 hj1 => ?_⟩
  · simp only [lt2, swp_get hj hl]
    by_cases e1 : m = j
    · subst e1
      rw [if_neg (by omega), if_neg (by omega), if_pos rfl]
      exact h2 hj (by omega)
    · by_cases e2 : m + 1 = j
      · subst e2
        rw [if_pos rfl, if_neg (by omega), if_pos (by simp)]
        exact less_asymm hlt
      · rw [if_neg e2, if_neg (by omega), if_neg e1, if_neg (by omega)]
        exact h1 m hm (by omega)
  · simp only [lt2, swp_get hj hl]
    rw [if_pos (by omega), if_neg (by omega), if_neg (by omega)]
    have := h1 (j - 2) (by omega) (by omega)
    rw [lt2, show j - 2 + 1 = j - 1 by omega] at this
    rw [show j - 1 - 1 = j - 2 by omega]
    exact this

theorem insSort (l : List (List UInt8)) (hl : l.length < 2^40) : ACall Try.prog 58 [.hs 0 0 0 l.length 1, .int .i64 0, .int .i64 l.length] [.cells 0 (l.map .str)]
    fun o H' => o = .ret (.tup []) ∧ ∃ r, r.Perm l ∧ SrtTo r l.length ∧ H' = [.cells 0 (r.map .str)] := by
  refine ACall.of_sw 49 Try.func58 rfl Try.ntmps58 (by kernel_rfl) (Nat.le_of_ble_eq_true (by kernel_rfl)) ?_; refine SW.of_vc ?_
  repeat first | refine opsStep ?_ | refine codeStep ?_ | refine drawStep ?_
  refine loopE_of (ι := {x : Nat × List (List UInt8) // 0 < x.1 ∧ x.1 ≤ l.length + 1 ∧ x.2.Perm l ∧ SrtTo x.2 x.1}) (fun x => (fr [(0, .hs 0 0 0 l.length 1), (1, .int .i64 0), (2, .int .i64 l.length), (6, .int .i64 x.1.1)], [.cells 0 (x.1.2.map .str)])) (fun x => l.length + 1 - x.1.1)
    ⟨(1, l), by simp, by simp, List.Perm.refl _, fun m hm => by simp at hm⟩ (Ent.fr' ⟨(by kernel_rfl), (by kernel_rfl), (by kernel_rfl), (by kernel_rfl), trivial⟩ (by kernel_rfl)) ?_
  rintro ⟨⟨i, r⟩, hi0, hi, hp, hs⟩
  simp only at hi0 hi hp hs
  have hrl := hp.length_eq
  repeat first | refine opsStep ?_ | refine codeStep ?_ | refine drawStep ?_
  refine decB_dec (fun h => ?_) (fun h => ?_)
  · have hia : i < l.length := by have := h; simp at this; omega
    repeat first | refine opsStep ?_ | refine codeStep ?_ | refine drawStep ?_
    refine loopE_of (ι := {x : Nat × List (List UInt8) // x.1 ≤ i ∧ x.2.Perm l ∧ SrtAt x.2 i x.1}) (fun x => (fr [(0, .hs 0 0 0 l.length 1), (1, .int .i64 0), (2, .int .i64 l.length), (6, .int .i64 i), (7, .int .i64 x.1.1)], [.cells 0 (x.1.2.map .str)])) (fun x => x.1.1)
      ⟨(i, r), Nat.le_refl _, hp, fun m hm hne => hs m (by omega), fun _ h => by simp at h⟩ (Ent.fr' ⟨(by kernel_rfl), (by kernel_rfl), (by kernel_rfl), (by kernel_rfl), (by kernel_rfl), trivial⟩ (by kernel_rfl)) ?_
    rintro ⟨⟨j, r⟩, hj, hp, hs⟩
    simp only at hj hp hs
    have hrl := hp.length_eq
    repeat first | refine opsStep ?_ | refine codeStep ?_ | refine drawStep ?_
    refine SW.drawn rfl (by kernel_rfl) ?_
    repeat first | refine opsStep ?_ | refine codeStep ?_ | refine drawStep ?_
    refine decB_dec (fun e => ?_) (fun e => ?_)
    · have hj0 : 0 < j := by have := e; simp at this; omega
      have hjl : j < r.length := by omega
      have g1 : r.getD j [] = r[j] := by simp [List.getD_eq_getElem?_getD, hjl]
      have g2 : r.getD (j - 1) [] = r[j - 1] := by simp [List.getD_eq_getElem?_getD, show j - 1 < r.length by omega]
      have hd : IntKind.wrap .i64 ((j : Int) - 1) = ((j - 1 : Nat) : Int) := by rw [IntWalk.i64_in _ (by omega)]; omega
      have a1 : (r.map AV.str)[0 + j * 1]? = some (.str (r.getD j [])) := by simp [hjl]
      have a2 : (r.map AV.str)[0 + (IntKind.wrap .i64 ((j : Int) - 1)).toNat * 1]? = some (.str (r.getD (j - 1) [])) := by
        rw [hd, g2, Int.toNat_natCast, Nat.zero_add, Nat.mul_one, List.getElem?_map, List.getElem?_eq_getElem (by omega)]; rfl
      repeat first | refine opsStep ?_ | refine codeStep ?_ | refine drawStep ?_
      refine guardE_of (by simp; omega) ?_
      repeat first | refine opsStep ?_ | refine codeStep ?_ | refine drawStep ?_
      refine optE_of a1 ?_
      repeat first | refine opsStep ?_ | refine codeStep ?_ | refine drawStep ?_
      refine guardE_of (by rw [hd]; simp; omega) ?_
      repeat first | refine opsStep ?_ | refine codeStep ?_ | refine drawStep ?_
      refine optE_of a2 ?_
      repeat first | refine opsStep ?_ | refine codeStep ?_ | refine drawStep ?_
      refine .inl ⟨_, _, [], (cmp_Less _ _), RdsN_refl _, .inr rfl, none_need, ?_⟩
      repeat first | refine opsStep ?_ | refine codeStep ?_ | refine drawStep ?_
      refine ⟨by kernel_rfl, ?_⟩
      repeat first | refine opsStep ?_ | refine codeStep ?_ | refine drawStep ?_
      refine decB_split (fun h => ?_) (fun h => ?_)
      · repeat first | refine opsStep ?_ | refine codeStep ?_ | refine drawStep ?_
        refine SW.drawn rfl (by kernel_rfl) ?_
        repeat first | refine opsStep ?_ | refine codeStep ?_ | refine drawStep ?_
        refine guardE_of (by rw [hd]; simp; omega) ?_
        repeat first | refine opsStep ?_ | refine codeStep ?_ | refine drawStep ?_
        refine optE_of a2 ?_
        repeat first | refine opsStep ?_ | refine codeStep ?_ | refine drawStep ?_
        refine guardE_of (by simp; omega) ?_
        repeat first | refine opsStep ?_ | refine codeStep ?_ | refine drawStep ?_
        refine optE_of a1 ?_
        repeat first | refine opsStep ?_ | refine codeStep ?_ | refine drawStep ?_
        refine guardE_of (by simp; omega) ?_
        repeat first | refine opsStep ?_ | refine codeStep ?_ | refine drawStep ?_
        have z1 : 0 + j * 1 + [AV.str (r.getD (j - 1) [])].length ≤ (r.map AV.str).length := by simp; omega
        refine guardE_of ⟨rfl, by decide, z1⟩ ?_
        repeat first | refine opsStep ?_ | refine codeStep ?_ | refine drawStep ?_
        refine guardE_of (by rw [hd]; simp; omega) ?_
        repeat first | refine opsStep ?_ | refine codeStep ?_ | refine drawStep ?_
        have z2 : 0 + (IntKind.wrap .i64 ((j : Int) - 1)).toNat * 1 + [AV.str (r.getD j [])].length ≤ (over (r.map AV.str) (0 + j * 1) [AV.str (r.getD (j - 1) [])]).length := by
          rw [over_length' z1, hd, Int.toNat_natCast, List.length_map]; show 0 + (j - 1) * 1 + 1 ≤ _; omega
        refine guardE_of ⟨rfl, by decide, z2⟩ ?_
        repeat first | refine opsStep ?_ | refine codeStep ?_ | refine drawStep ?_
        refine ⟨by kernel_rfl, ?_⟩
        repeat first | refine opsStep ?_ | refine codeStep ?_ | refine drawStep ?_
        refine ⟨⟨(j - 1, swp r j), by simp only; omega, (swp_perm hj0 hjl).trans hp, swp_at hj0 hjl hj hs h⟩, (by show j - 1 < j; omega), Ent.fr' ⟨(by kernel_rfl), (by kernel_rfl), (by kernel_rfl), (by kernel_rfl), dec_slot (i := j) hj0 (by omega), trivial⟩ ?_⟩
        refine Eq.trans (b := [Blk.cells 0 (over (over (r.map .str) (0 + j * 1) [.str (r.getD (j - 1) [])]) (0 + (IntKind.wrap .i64 ((j : Int) - 1)).toNat * 1) [.str (r.getD j [])])]) (by kernel_rfl) ?_
        rw [hd, Int.toNat_natCast]
        simp only [Nat.zero_add, Nat.mul_one]
        rw [over_one (cs := r.map .str) (by rw [List.length_map]; exact hjl), over_one (by rw [List.length_set, List.length_map]; omega), ← List.map_set, ← List.map_set]
        rfl
      · repeat first | refine opsStep ?_ | refine codeStep ?_ | refine drawStep ?_
        refine ⟨⟨(i + 1, r), by simp, by simp only; omega, hp, fun m hm => ?_⟩, (by show l.length + 1 - (i + 1) < l.length + 1 - i; omega), Ent.fr' ⟨(by kernel_rfl), (by kernel_rfl), (by kernel_rfl), inc_slot (i := i) (by omega), trivial⟩ (by kernel_rfl)⟩
        by_cases e1 : m + 1 = j
        · subst e1; exact h
        · exact hs.1 m (by omega) e1
    · repeat first | refine opsStep ?_ | refine codeStep ?_ | refine drawStep ?_
      refine ⟨by kernel_rfl, ?_⟩
      repeat first | refine opsStep ?_ | refine codeStep ?_ | refine drawStep ?_
      have hj0 : j = 0 := by have := e; simp at this; omega
      subst hj0
      refine ⟨⟨(i + 1, r), by simp, by simp only; omega, hp, fun m hm => hs.1 m (by omega) (by omega)⟩, (by show l.length + 1 - (i + 1) < l.length + 1 - i; omega), Ent.fr' ⟨(by kernel_rfl), (by kernel_rfl), (by kernel_rfl), inc_slot (i := i) (by omega), trivial⟩ (by kernel_rfl)⟩
  · repeat first | refine opsStep ?_ | refine codeStep ?_ | refine drawStep ?_
    refine finR (l := []) (v := .tup []) (H₁ := [.cells 0 (r.map .str)]) trivial (by kernel_rfl) (Ent.refl _ _ _) (by kernel_rfl) ?_
    have : l.length ≤ i := by have := h; simp at this; omega
    exact ⟨rfl, r, hp, fun m hm => hs m (by omega), rfl⟩

end Tab
