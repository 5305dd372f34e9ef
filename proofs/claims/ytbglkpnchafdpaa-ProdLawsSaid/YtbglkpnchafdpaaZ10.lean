/- Lemmas for this claim: part 10. No condition. -/
import Derived.Test.YtbglkpnchafdpaaZ8
import Derived.Test.YtbglkpnchafdpaaZ9
/- Texts in order; the library's sort of short lists. -/
namespace Tab
open Go Go.Proofs
set_option maxRecDepth 10000
set_option linter.unusedVariables false
set_option linter.unusedSimpArgs false
set_option linter.unusedSectionVars false

abbrev less (a b : List UInt8) : Bool := Op.bytesLess a b
theorem less_irrefl : ∀ (a : List UInt8), less a a = false
  | [] => rfl
  | a :: x => by have := less_irrefl x; simp [less, Op.bytesLess] at this ⊢; exact this
theorem less_trans : ∀ {a b c : List UInt8}, less a b = true → less b c = true → less a c = true
  | _, [], _, h, _ => by simp [less, Op.bytesLess] at h
  | _, _ :: _, [], _, h => by simp [less, Op.bytesLess] at h
  | [], _ :: _, _ :: _, _, _ => rfl
  | a :: x, b :: y, c :: z, h1, h2 => by
    simp only [less, Op.bytesLess, Bool.or_eq_true, Bool.and_eq_true, decide_eq_true_eq, beq_iff_eq] at h1 h2 ⊢
    rcases h1 with h1 | ⟨rfl, h1⟩
    · rcases h2 with h2 | ⟨rfl, h2⟩
      · exact .inl (UInt8.lt_trans h1 h2)
      · exact .inl h1
    · rcases h2 with h2 | ⟨rfl, h2⟩
      · exact .inl h2
      · exact .inr ⟨rfl, less_trans h1 h2⟩
theorem less_asymm {a b : List UInt8} (h : less a b = true) : less b a = false := by
  cases e : less b a with
  | false => rfl
  | true => have := less_trans h e; rw [less_irrefl] at this; exact absurd this (by simp)
theorem less_total : ∀ {a b : List UInt8}, less a b = false → less b a = false → a = b
  | [], [], _, _ => rfl
  | [], _ :: _, h, _ => by simp [less, Op.bytesLess] at h
  | _ :: _, [], _, h => by simp [less, Op.bytesLess] at h
  | a :: x, b :: y, h1, h2 => by
    simp only [less, Op.bytesLess, Bool.or_eq_false_iff, Bool.and_eq_false_iff, decide_eq_false_iff_not, beq_eq_false_iff_ne] at h1 h2
    have e : a = b := UInt8.le_antisymm (UInt8.not_lt.1 h2.1) (UInt8.not_lt.1 h1.1)
    subst e
    rw [less_total (h1.2.resolve_left (by simp)) (h2.2.resolve_left (by simp))]

theorem cmp_isNaN (s : List UInt8) : Pure Try.prog 105 [.str s] (.bool false) := by
  refine Pure.of_sw 6 Try.func105 rfl Try.ntmps105 (by kernel_rfl) (Nat.le_of_ble_eq_true (by kernel_rfl)) (by simp [closeds, AV.closed, aSs_closed, aIs_closed, aBs_closed, aRs_closed, aDen_closed]) (by simp [AV.closed, closeds, aSs_closed, aIs_closed, aBs_closed, aRs_closed, aDen_closed]) ?_; refine SW.of_vc ?_
  repeat first | refine opsStep ?_ | refine codeStep ?_ | refine drawStep ?_
  exact finB (b' := decide (s ≠ s)) (by kernel_rfl) (by simp)
theorem cmp_Less (a b : List UInt8) : Pure Try.prog 89 [.str a, .str b] (.bool (less a b)) := by
  refine Pure.of_sw 17 Try.func89 rfl Try.ntmps89 (by kernel_rfl) (Nat.le_of_ble_eq_true (by kernel_rfl)) (by simp [closeds, AV.closed, aSs_closed, aIs_closed, aBs_closed, aRs_closed, aDen_closed]) (by simp [AV.closed, closeds, aSs_closed, aIs_closed, aBs_closed, aRs_closed, aDen_closed]) ?_; refine SW.of_vc ?_
  repeat first | refine opsStep ?_ | refine codeStep ?_ | refine drawStep ?_
  refine callP (cmp_isNaN a) ?_
  repeat first | refine opsStep ?_ | refine codeStep ?_ | refine drawStep ?_
  exact finB (b' := less a b) (by kernel_rfl) rfl

theorem over_length' {cs xs : List AV} {o : Nat} (h : o + xs.length ≤ cs.length) : (over cs o xs).length = cs.length := by simp [over]; omega

def lt2 (r : List (List UInt8)) (a b : Nat) : Bool := less (r.getD a []) (r.getD b [])
/-- The first i are in order. -/
def SrtTo (r : List (List UInt8)) (i : Nat) : Prop := ∀ m, m + 1 < i → lt2 r (m + 1) m = false
def SrtAt (r : List (List UInt8)) (i j : Nat) : Prop := (∀ m, m < i → m + 1 ≠ j → lt2 r (m + 1) m = false) ∧ (0 < j → j < i → lt2 r (j + 1) (j - 1) = false)
def swp (r : List (List UInt8)) (j : Nat) : List (List UInt8) := (r.set j (r.getD (j - 1) [])).set (j - 1) (r.getD j [])

theorem swp_get {r : List (List UInt8)} {j m : Nat} (hj : 0 < j) (hl : j < r.length) : (swp r j).getD m [] = if m = j then r.getD (j - 1) [] else if m = j - 1 then r.getD j [] else r.getD m [] := by
  simp only [swp, List.getD_eq_getElem?_getD, List.getElem?_set, List.length_set]
  by_cases h1 : m = j
  · subst h1
    rw [if_pos rfl, if_neg (by omega), if_pos rfl, if_pos hl]
    rfl
  · rw [if_neg h1]
    by_cases h2 : m = j - 1
    · rw [if_pos h2, if_pos h2.symm, if_pos (by omega)]
      rfl
    · rw [if_neg h2, if_neg (fun e => h2 e.symm), if_neg (fun e => h1 e.symm)]
theorem swp_length (r j) : (swp r j).length = r.length := by simp [swp]
theorem swp_perm {r : List (List UInt8)} {j : Nat} (hj : 0 < j) (hl : j < r.length) : (swp r j).Perm r := by
  have e : swp r j = (r.set j r[j - 1]).set (j - 1) r[j] := by simp [swp, List.getD_eq_getElem?_getD, hl, show j - 1 < r.length by omega]
  rw [e]
  exact List.set_set_perm hl (by omega)
theorem swp_at {r : List (List UInt8)} {i j : Nat} (hj : 0 < j) (hl : j < r.length) (hji : j ≤ i) (h : SrtAt r i j) (hlt : lt2 r j (j - 1) = true) : SrtAt (swp r j) i (j - 1) := by
  obtain ⟨h1, h2⟩ := h
  refine ⟨fun m hm hne => ?_, fun hj0 hj1 => ?_⟩
  · simp only [lt2, swp_get hj hl]
    by_cases e1 : m = j
    · subst e1
      rw [if_neg (by omega), if_neg (by omega), if_pos rfl]
      exact h2 hj (by omega)
    · by_cases e2 : m + 1 = j
      · subst e2
        rw [if_pos rfl, if_neg (by omega), if_pos (by simp)]
        exact less_asymm hlt
      · rw [if_neg e2, if_neg (by omega), if_neg e1, if_neg (by omega)]
        exact h1 m hm (by omega)
  · simp only [lt2, swp_get hj hl]
    rw [if_pos (by omega), if_neg (by omega), if_neg (by omega)]
    have := h1 (j - 2) (by omega) (by omega)
    rw [lt2, show j - 2 + 1 = j - 1 by omega] at this
    rw [show j - 1 - 1 = j - 2 by omega]
    exact this

theorem insSort (l : List (List UInt8)) (hl : l.length < 2^40) : ACall Try.prog 83 [.hs 0 0 0 l.length 1, .int .i64 0, .int .i64 l.length] [.cells 0 (l.map .str)]
    fun o H' => o = .ret (.tup []) ∧ ∃ r, r.Perm l ∧ SrtTo r l.length ∧ H' = [.cells 0 (r.map .str)] := by
  refine ACall.of_sw 49 Try.func83 rfl Try.ntmps83 (by kernel_rfl) (Nat.le_of_ble_eq_true (by kernel_rfl)) ?_; refine SW.of_vc ?_
  repeat first | refine opsStep ?_ | refine codeStep ?_ | refine drawStep ?_
  refine loopE_of (ι := {x : Nat × List (List UInt8) // 0 < x.1 ∧ x.1 ≤ l.length + 1 ∧ x.2.Perm l ∧ SrtTo x.2 x.1}) (fun x => (fr [(0, .hs 0 0 0 l.length 1), (1, .int .i64 0), (2, .int .i64 l.length), (6, .int .i64 x.1.1)], [.cells 0 (x.1.2.map .str)])) (fun x => l.length + 1 - x.1.1)
    ⟨(1, l), by simp, by simp, List.Perm.refl _, fun m hm => by simp at hm⟩ (Ent.fr' ⟨(by kernel_rfl), (by kernel_rfl), (by kernel_rfl), (by kernel_rfl), trivial⟩ (by kernel_rfl)) ?_
  rintro ⟨⟨i, r⟩, hi0, hi, hp, hs⟩
  simp only at hi0 hi hp hs
  have hrl := hp.length_eq
  repeat first | refine opsStep ?_ | refine codeStep ?_ | refine drawStep ?_
  refine decB_dec (fun h => ?_) (fun h => ?_)
  · have hia : i < l.length := by have := h; simp at this; omega
    repeat first | refine opsStep ?_ | refine codeStep ?_ | refine drawStep ?_
    refine loopE_of (ι := {x : Nat × List (List UInt8) // x.1 ≤ i ∧ x.2.Perm l ∧ SrtAt x.2 i x.1}) (fun x => (fr [(0, .hs 0 0 0 l.length 1), (1, .int .i64 0), (2, .int .i64 l.length), (6, .int .i64 i), (7, .int .i64 x.1.1)], [.cells 0 (x.1.2.map .str)])) (fun x => x.1.1)
      ⟨(i, r), Nat.le_refl _, hp, fun m hm hne => hs m (by omega), fun _ h => by simp at h⟩ (Ent.fr' ⟨(by kernel_rfl), (by kernel_rfl), (by kernel_rfl), (by kernel_rfl), (by kernel_rfl), trivial⟩ (by kernel_rfl)) ?_
    rintro ⟨⟨j, r⟩, hj, hp, hs⟩
    simp only at hj hp hs
    have hrl := hp.length_eq
    repeat first | refine opsStep ?_ | refine codeStep ?_ | refine drawStep ?_
    refine SW.drawn rfl (by kernel_rfl) ?_
    repeat first | refine opsStep ?_ | refine codeStep ?_ | refine drawStep ?_
    refine decB_dec (fun e => ?_) (fun e => ?_)
    · have hj0 : 0 < j := by have := e; simp at this; omega
      have hjl : j < r.length := by omega
      have g1 : r.getD j [] = r[j] := by simp [List.getD_eq_getElem?_getD, hjl]
      have g2 : r.getD (j - 1) [] = r[j - 1] := by simp [List.getD_eq_getElem?_getD, show j - 1 < r.length by omega]
      have hd : IntKind.wrap .i64 ((j : Int) - 1) = ((j - 1 : Nat) : Int) := by rw [IntWalk.i64_in _ (by omega)]; omega
      have a1 : (r.map AV.str)[0 + j * 1]? = some (.str (r.getD j [])) := by simp [hjl]
      have a2 : (r.map AV.str)[0 + (IntKind.wrap .i64 ((j : Int) - 1)).toNat * 1]? = some (.str (r.getD (j - 1) [])) := by
        rw [hd, g2, Int.toNat_natCast, Nat.zero_add, Nat.mul_one, List.getElem?_map, List.getElem?_eq_getElem (by omega)]; rfl
      repeat first | refine opsStep ?_ | refine codeStep ?_ | refine drawStep ?_
      refine guardE_of (by simp; omega) ?_
      repeat first | refine opsStep ?_ | refine codeStep ?_ | refine drawStep ?_
      refine optE_of a1 ?_
      repeat first | refine opsStep ?_ | refine codeStep ?_ | refine drawStep ?_
      refine guardE_of (by rw [hd]; simp; omega) ?_
      repeat first | refine opsStep ?_ | refine codeStep ?_ | refine drawStep ?_
      refine optE_of a2 ?_
      repeat first | refine opsStep ?_ | refine codeStep ?_ | refine drawStep ?_
      refine .inl ⟨_, _, [], (cmp_Less _ _), RdsN_refl _, .inr rfl, none_need, ?_⟩
      repeat first | refine opsStep ?_ | refine codeStep ?_ | refine drawStep ?_
      refine ⟨by kernel_rfl, ?_⟩
      repeat first | refine opsStep ?_ | refine codeStep ?_ | refine drawStep ?_
      refine decB_split (fun h => ?_) (fun h => ?_)
      · repeat first | refine opsStep ?_ | refine codeStep ?_ | refine drawStep ?_
        refine SW.drawn rfl (by kernel_rfl) ?_
        repeat first | refine opsStep ?_ | refine codeStep ?_ | refine drawStep ?_
        refine guardE_of (by rw [hd]; simp; omega) ?_
        repeat first | refine opsStep ?_ | refine codeStep ?_ | refine drawStep ?_
        refine optE_of a2 ?_
        repeat first | refine opsStep ?_ | refine codeStep ?_ | refine drawStep ?_
        refine guardE_of (by simp; omega) ?_
        repeat first | refine opsStep ?_ | refine codeStep ?_ | refine drawStep ?_
        refine optE_of a1 ?_
        repeat first | refine opsStep ?_ | refine codeStep ?_ | refine drawStep ?_
        refine guardE_of (by simp; omega) ?_
        repeat first | refine opsStep ?_ | refine codeStep ?_ | refine drawStep ?_
        have z1 : 0 + j * 1 + [AV.str (r.getD (j - 1) [])].length ≤ (r.map AV.str).length := by simp; omega
        refine guardE_of ⟨rfl, by decide, z1⟩ ?_
        repeat first | refine opsStep ?_ | refine codeStep ?_ | refine drawStep ?_
        refine guardE_of (by rw [hd]; simp; omega) ?_
        repeat first | refine opsStep ?_ | refine codeStep ?_ | refine drawStep ?_
        have z2 : 0 + (IntKind.wrap .i64 ((j : Int) - 1)).toNat * 1 + [AV.str (r.getD j [])].length ≤ (over (r.map AV.str) (0 + j * 1) [AV.str (r.getD (j - 1) [])]).length := by
          rw [over_length' z1, hd, Int.toNat_natCast, List.length_map]; show 0 + (j - 1) * 1 + 1 ≤ _; omega
        refine guardE_of ⟨rfl, by decide, z2⟩ ?_
        repeat first | refine opsStep ?_ | refine codeStep ?_ | refine drawStep ?_
        refine ⟨by kernel_rfl, ?_⟩
        repeat first | refine opsStep ?_ | refine codeStep ?_ | refine drawStep ?_
        refine ⟨⟨(j - 1, swp r j), by simp only; omega, (swp_perm hj0 hjl).trans hp, swp_at hj0 hjl hj hs h⟩, (by show j - 1 < j; omega), Ent.fr' ⟨(by kernel_rfl), (by kernel_rfl), (by kernel_rfl), (by kernel_rfl), dec_slot (i := j) hj0 (by omega), trivial⟩ ?_⟩
        refine Eq.trans (b := [Blk.cells 0 (over (over (r.map .str) (0 + j * 1) [.str (r.getD (j - 1) [])]) (0 + (IntKind.wrap .i64 ((j : Int) - 1)).toNat * 1) [.str (r.getD j [])])]) (by kernel_rfl) ?_
        rw [hd, Int.toNat_natCast]
        simp only [Nat.zero_add, Nat.mul_one]
        rw [over_one (cs := r.map .str) (by rw [List.length_map]; exact hjl), over_one (by rw [List.length_set, List.length_map]; omega), ← List.map_set, ← List.map_set]
        rfl
      · repeat first | refine opsStep ?_ | refine codeStep ?_ | refine drawStep ?_
        refine ⟨⟨(i + 1, r), by simp, by simp only; omega, hp, fun m hm => ?_⟩, (by show l.length + 1 - (i + 1) < l.length + 1 - i; omega), Ent.fr' ⟨(by kernel_rfl), (by kernel_rfl), (by kernel_rfl), inc_slot (i := i) (by omega), trivial⟩ (by kernel_rfl)⟩
        by_cases e1 : m + 1 = j
        · subst e1; exact h
        · exact hs.1 m (by omega) e1
    · repeat first | refine opsStep ?_ | refine codeStep ?_ | refine drawStep ?_
      refine ⟨by kernel_rfl, ?_⟩
      repeat first | refine opsStep ?_ | refine codeStep ?_ | refine drawStep ?_
      have hj0 : j = 0 := by have := e; simp at this; omega
      subst hj0
      refine ⟨⟨(i + 1, r), by simp, by simp only; omega, hp, fun m hm => hs.1 m (by omega) (by omega)⟩, (by show l.length + 1 - (i + 1) < l.length + 1 - i; omega), Ent.fr' ⟨(by kernel_rfl), (by kernel_rfl), (by kernel_rfl), inc_slot (i := i) (by omega), trivial⟩ (by kernel_rfl)⟩
  · repeat first | refine opsStep ?_ | refine codeStep ?_ | refine drawStep ?_
    refine finR (l := []) (v := .tup []) (H₁ := [.cells 0 (r.map .str)]) trivial (by kernel_rfl) (Ent.refl _ _ _) (by kernel_rfl) ?_
    have : l.length ≤ i := by have := h; simp at this; omega
    exact ⟨rfl, r, hp, fun m hm => hs m (by omega), rfl⟩

end Tab

/- The library's sort, of short lists. -/
namespace Tab
open Go Go.Proofs
set_option maxRecDepth 10000
set_option linter.unusedVariables false
set_option linter.unusedSimpArgs false
set_option linter.unusedSectionVars false

theorem bits_Len64 (n : Nat) (hn : n < 256) (H : List Blk) : ACall Try.prog 93 [.int .u64 n] H fun o H' => (∃ v : Int, o = .ret (.int .i64 v)) ∧ H' = H := by
  refine ACall.of_sw 25 Try.func93 rfl Try.ntmps93 (by kernel_rfl) (Nat.le_of_ble_eq_true (by kernel_rfl)) ?_; refine SW.of_vc ?_
  repeat first | refine opsStep ?_ | refine codeStep ?_ | refine drawStep ?_
  refine decB_dec (fun h1 => ?_) (fun h1 => ?_)
  · omega
  repeat first | refine opsStep ?_ | refine codeStep ?_ | refine drawStep ?_
  refine decB_dec (fun h2 => ?_) (fun h2 => ?_)
  · omega
  repeat first | refine opsStep ?_ | refine codeStep ?_ | refine drawStep ?_
  refine decB_dec (fun h3 => ?_) (fun h3 => ?_)
  · omega
  repeat first | refine opsStep ?_ | refine codeStep ?_ | refine drawStep ?_
  have hw : IntKind.wrap .u8 (n : Int) = n := IntWalk.u8_in _ (by omega)
  refine guardE_of (p := isStr Try.prog 9 = true) (by kernel_rfl) ?_
  refine guardE_of (p := (0 : Int) ≤ IntKind.wrap .u8 n) (by rw [hw]; omega) ?_
  refine optE_of (List.getElem?_eq_getElem (by rw [hw]; exact Nat.lt_of_lt_of_le hn (Nat.le_of_ble_eq_true (by kernel_rfl)))) ?_
  repeat first | refine opsStep ?_ | refine codeStep ?_ | refine drawStep ?_
  refine finR (l := [(2, _)]) (H₁ := H) ⟨rfl, trivial⟩ rfl (Ent.refl _ _ _) rfl ?_
  exact ⟨⟨_, rfl⟩, rfl⟩

/-- A call that leaves the heap, whose answer is some number. -/
theorem callI {P : Program} {f : FuncId} {args : List AV} {H : List Blk} {X : Out → List Blk → Prop} (h : ACall P f args H fun o H' => (∃ v : Int, o = .ret (.int .i64 v)) ∧ H' = H) (k : ∀ v, X (.ret (.int .i64 v)) H) :
    ∃ R : Out → List Blk → Prop, ACall P f args H R ∧ ∀ o H', R o H' → X o H' := ⟨_, h, by rintro _ _ ⟨⟨v, rfl⟩, rfl⟩; exact k v⟩

theorem bits_Len (n : Nat) (hn : n < 256) (H : List Blk) : ACall Try.prog 72 [.int .u64 n] H fun o H' => (∃ v : Int, o = .ret (.int .i64 v)) ∧ H' = H := by
  refine ACall.of_sw 8 Try.func72 rfl Try.ntmps72 (by kernel_rfl) (Nat.le_of_ble_eq_true (by kernel_rfl)) ?_; refine SW.of_vc ?_
  repeat first | refine opsStep ?_ | refine codeStep ?_ | refine drawStep ?_
  refine callI (bits_Len64 n hn H) (fun v => ?_)
  repeat first | refine opsStep ?_ | refine codeStep ?_ | refine drawStep ?_
  refine finR (l := [(2, .int .i64 v)]) (v := .int .i64 v) (H₁ := H) ⟨(by kernel_rfl), trivial⟩ rfl (Ent.refl _ _ _) (by kernel_rfl) ?_
  exact ⟨⟨v, rfl⟩, rfl⟩

theorem pdqShort (l : List (List UInt8)) (hl : l.length ≤ 12) (lim : Int) : ACall Try.prog 71 [.hs 0 0 0 l.length 1, .int .i64 0, .int .i64 l.length, .int .i64 lim] [.cells 0 (l.map .str)]
    fun o H' => o = .ret (.tup []) ∧ ∃ r, r.Perm l ∧ SrtTo r l.length ∧ H' = [.cells 0 (r.map .str)] := by
  have hw : IntKind.wrap .i64 ((l.length : Int) - 0) = l.length := by rw [IntWalk.i64_in _ (by omega)]; omega
  refine ACall.of_sw 134 Try.func71 rfl Try.ntmps71 (by kernel_rfl) (Nat.le_of_ble_eq_true (by kernel_rfl)) ?_; refine SW.of_vc ?_
  repeat first | refine opsStep ?_ | refine codeStep ?_ | refine drawStep ?_
  refine loopE_of (ι := Unit) (fun _ => (fr [(0, .hs 0 0 0 l.length 1), (1, .int .i64 0), (2, .int .i64 l.length), (3, .int .i64 lim)], [.cells 0 (l.map .str)])) (fun _ => 0) () (Ent.fr' ⟨(by kernel_rfl), (by kernel_rfl), (by kernel_rfl), (by kernel_rfl), trivial⟩ (by kernel_rfl)) ?_
  intro _
  repeat first | refine opsStep ?_ | refine codeStep ?_ | refine drawStep ?_
  refine decB_dec (fun h => ?_) (fun h => ?_)
  · repeat first | refine opsStep ?_ | refine codeStep ?_ | refine drawStep ?_
    refine ⟨_, insSort l (by omega), ?_⟩
    rintro o H' ⟨rfl, r, h1, h2, rfl⟩
    repeat first | refine opsStep ?_ | refine codeStep ?_ | refine drawStep ?_
    refine finR (l := []) (v := .tup []) (H₁ := [.cells 0 (r.map .str)]) trivial (by kernel_rfl) (Ent.refl _ _ _) (by kernel_rfl) ?_
    exact ⟨rfl, r, h1, h2, rfl⟩
  · rw [hw] at h
    omega

theorem slices_Sort (l : List (List UInt8)) (hl : l.length ≤ 12) : ACall Try.prog 50 [.hs 0 0 0 l.length 1] [.cells 0 (l.map .str)]
    fun o H' => o = .ret (.tup []) ∧ ∃ r, r.Perm l ∧ SrtTo r l.length ∧ H' = [.cells 0 (r.map .str)] := by
  have hw : IntKind.wrap .u64 (l.length : Int) = l.length := IntWalk.u64_in _ (by omega)
  have hb := fun H => bits_Len l.length (by omega) H
  rw [← hw] at hb
  refine ACall.of_sw 11 Try.func50 rfl Try.ntmps50 (by kernel_rfl) (Nat.le_of_ble_eq_true (by kernel_rfl)) ?_; refine SW.of_vc ?_
  repeat first | refine opsStep ?_ | refine codeStep ?_ | refine drawStep ?_
  refine callI (hb _) (fun v => ?_)
  repeat first | refine opsStep ?_ | refine codeStep ?_ | refine drawStep ?_
  refine ⟨_, pdqShort l hl v, ?_⟩
  rintro o H' ⟨rfl, r, h1, h2, rfl⟩
  repeat first | refine opsStep ?_ | refine codeStep ?_ | refine drawStep ?_
  refine finR (l := []) (v := .tup []) (H₁ := [.cells 0 (r.map .str)]) trivial (by kernel_rfl) (Ent.refl _ _ _) (by kernel_rfl) ?_
  exact ⟨rfl, r, h1, h2, rfl⟩

end Tab

/- Lists put in order: the plain law. -/
namespace Tab
open Go Go.Proofs
set_option maxRecDepth 10000
set_option linter.unusedVariables false
set_option linter.unusedSimpArgs false
set_option linter.unusedSectionVars false

def putS (x : List UInt8) : List (List UInt8) → List (List UInt8)
  | [] => [x]
  | y :: l => if (less x y || x == y) = true then (if less x y = true then x :: y :: l else y :: l) else y :: putS x l
def togS (l : List (List UInt8)) : List (List UInt8) := l.foldl (fun acc x => putS x acc) []
def nonN (l : List (List UInt8)) : Bool := l.any fun s => !nameS s

theorem putS_mem {x y : List UInt8} : ∀ {l : List (List UInt8)}, y ∈ putS x l ↔ y = x ∨ y ∈ l
  | [] => by simp [putS]
  | z :: l => by
    rw [putS]
    split
    · rename_i h
      split
      · simp
      · rename_i h2
        have : x = z := by simpa [h2] using h
        subst this
        simp
    · simp only [List.mem_cons, putS_mem (l := l)]
      constructor
      · rintro (h | h | h)
        · exact .inr (.inl h)
        · exact .inl h
        · exact .inr (.inr h)
      · rintro (h | h | h)
        · exact .inr (.inl h)
        · exact .inl h
        · exact .inr (.inr h)
abbrev Strict (l : List (List UInt8)) : Prop := l.Pairwise fun a b => less a b = true
theorem putS_strict {x : List UInt8} : ∀ {l : List (List UInt8)}, Strict l → Strict (putS x l)
  | [], _ => by simp [putS, Strict]
  | z :: l, h => by
    obtain ⟨h1, h2⟩ := List.pairwise_cons.1 h
    rw [putS]
    split
    · split
      · rename_i h3
        refine List.pairwise_cons.2 ⟨fun a ha => ?_, h⟩
        rcases List.mem_cons.1 ha with rfl | ha
        · exact h3
        · exact less_trans h3 (h1 a ha)
      · exact h
    · rename_i h3
      refine List.pairwise_cons.2 ⟨fun a ha => ?_, putS_strict h2⟩
      rcases putS_mem.1 ha with rfl | ha
      · simp only [Bool.or_eq_true, beq_iff_eq, not_or, Bool.not_eq_true] at h3
        cases e : less z a with
        | true => rfl
        | false => exact absurd (less_total h3.1 e) h3.2
      · exact h1 a ha
theorem strict_not_mem {x z : List UInt8} {l : List (List UInt8)} (h : Strict (z :: l)) (hx : less x z = true) : x ∉ z :: l := by
  intro hm
  rcases List.mem_cons.1 hm with rfl | hm
  · rw [less_irrefl] at hx; simp at hx
  · have := (List.pairwise_cons.1 h).1 x hm
    have := less_trans hx this
    rw [less_irrefl] at this; simp at this
theorem putS_len {x : List UInt8} : ∀ {l : List (List UInt8)}, Strict l → (putS x l).length = l.length + if x ∈ l then 0 else 1
  | [], _ => by simp [putS]
  | z :: l, h => by
    obtain ⟨h1, h2⟩ := List.pairwise_cons.1 h
    rw [putS]
    split
    · rename_i h3
      split
      · rename_i h4
        rw [if_neg (strict_not_mem h h4)]; simp
      · rename_i h4
        have : x = z := by simpa [h4] using h3
        subst this
        simp
    · rename_i h3
      simp only [Bool.or_eq_true, beq_iff_eq, not_or, Bool.not_eq_true] at h3
      rw [List.length_cons, putS_len h2]
      have : (x ∈ z :: l) ↔ x ∈ l := by simp [h3.2]
      simp only [this, List.length_cons]
      omega

theorem fold_put : ∀ (l acc : List (List UInt8)), Strict acc → Strict (l.foldl (fun acc x => putS x acc) acc) ∧ (∀ y, y ∈ l.foldl (fun acc x => putS x acc) acc ↔ y ∈ l ∨ y ∈ acc) ∧
    (l.foldl (fun acc x => putS x acc) acc).length ≤ acc.length + l.length ∧ ((l.foldl (fun acc x => putS x acc) acc).length = acc.length + l.length ↔ l.Nodup ∧ ∀ x ∈ l, x ∉ acc)
  | [], acc, h => by simp [h]
  | x :: l, acc, h => by
    obtain ⟨h1, h2, h3, h4⟩ := fold_put l (putS x acc) (putS_strict h)
    have hl := putS_len (x := x) h
    refine ⟨h1, fun y => ?_, ?_, ?_⟩
    · simp only [List.foldl_cons, h2, putS_mem, List.mem_cons]
      constructor
      · rintro (h | h | h)
        · exact .inl (.inr h)
        · exact .inl (.inl h)
        · exact .inr h
      · rintro ((h | h) | h)
        · exact .inr (.inl h)
        · exact .inl h
        · exact .inr (.inr h)
    · simp only [List.foldl_cons, List.length_cons]
      split at hl <;> omega
    · simp only [List.foldl_cons, List.length_cons, List.nodup_cons, List.mem_cons, forall_eq_or_imp]
      by_cases hx : x ∈ acc
      · rw [if_pos hx] at hl
        refine ⟨fun h => by omega, fun h => absurd hx h.2.1⟩
      · rw [if_neg hx] at hl
        rw [show acc.length + (l.length + 1) = (putS x acc).length + l.length by omega, h4]
        constructor
        · rintro ⟨k1, k2⟩
          exact ⟨⟨fun hm => k2 x hm (putS_mem.2 (.inl rfl)), k1⟩, hx, fun y hy hya => k2 y hy (putS_mem.2 (.inr hya))⟩
        · rintro ⟨⟨k1, k2⟩, _, k3⟩
          refine ⟨k2, fun y hy hyp => ?_⟩
          rcases putS_mem.1 hyp with rfl | hyp
          · exact k1 hy
          · exact k3 y hy hyp
theorem tog_strict (l) : Strict (togS l) := (fold_put l [] List.Pairwise.nil).1
theorem tog_mem (l y) : y ∈ togS l ↔ y ∈ l := by have := (fold_put l [] List.Pairwise.nil).2.1 y; simpa [togS] using this
theorem tog_len (l) : (togS l).length ≤ l.length := by have := (fold_put l [] List.Pairwise.nil).2.2.1; simpa [togS] using this
theorem tog_len_iff (l) : (togS l).length = l.length ↔ l.Nodup := by have := (fold_put l [] List.Pairwise.nil).2.2.2; simpa [togS] using this

theorem strict_eq : ∀ {a b : List (List UInt8)}, Strict a → Strict b → (∀ x, x ∈ a ↔ x ∈ b) → a = b
  | [], [], _, _, _ => rfl
  | [], b :: _, _, _, h => by have := (h b).2 (by simp); simp at this
  | a :: _, [], _, _, h => by have := (h a).1 (by simp); simp at this
  | a :: l, b :: l', h1, h2, h => by
    obtain ⟨p1, q1⟩ := List.pairwise_cons.1 h1
    obtain ⟨p2, q2⟩ := List.pairwise_cons.1 h2
    have e : a = b := by
      rcases List.mem_cons.1 ((h a).1 (by simp)) with e | e
      · exact e
      · rcases List.mem_cons.1 ((h b).2 (by simp)) with e' | e'
        · exact e'.symm
        · have := less_trans (p1 b e') (p2 a e)
          rw [less_irrefl] at this; simp at this
    subst e
    have nm : ∀ {l : List (List UInt8)}, (∀ x ∈ l, less a x = true) → a ∉ l := fun hp hm => by have := hp a hm; rw [less_irrefl] at this; simp at this
    rw [strict_eq q1 q2 fun x => ?_]
    constructor
    · intro hx
      rcases List.mem_cons.1 ((h x).1 (List.mem_cons_of_mem _ hx)) with rfl | hx'
      · exact absurd hx (nm p1)
      · exact hx'
    · intro hx
      rcases List.mem_cons.1 ((h x).2 (List.mem_cons_of_mem _ hx)) with rfl | hx'
      · exact absurd hx (nm p2)
      · exact hx'

theorem rises_strict {r : List (List UInt8)} (h : risesS r = true) : Strict r := by
  have h0 := List.all_eq_true.1 h
  have adj : ∀ i, i + 1 < r.length → less (r.getD i []) (r.getD (i + 1) []) = true := fun i hi => by
    have := h0 (i + 1) (List.mem_range.2 hi)
    simp [badAt] at this
    exact this.2
  have key : ∀ d i, i + d + 1 < r.length → less (r.getD i []) (r.getD (i + d + 1) []) = true := by
    intro d
    induction d with
    | zero => intro i hi; exact adj i (by omega)
    | succ d ih => intro i hi; exact less_trans (ih i (by omega)) (adj (i + d + 1) (by omega))
  refine List.pairwise_iff_getElem.2 fun i j hi hj hij => ?_
  have := key (j - i - 1) i (by omega)
  rw [show i + (j - i - 1) + 1 = j by omega] at this
  simpa [List.getD_eq_getElem?_getD, hi, hj] using this
theorem strict_nodup {r : List (List UInt8)} (h : Strict r) : r.Nodup := by
  refine h.imp fun hl e => ?_
  subst e
  rw [less_irrefl] at hl; simp at hl

theorem sort_ok {l r : List (List UInt8)} (hp : r.Perm l) (h : risesS r = true) : l.Nodup ∧ togS l = r := by
  have hs := rises_strict h
  refine ⟨hp.nodup_iff.1 (strict_nodup hs), strict_eq (tog_strict l) hs fun x => ?_⟩
  rw [tog_mem, hp.mem_iff]
theorem sort_bad {l r : List (List UInt8)} (hp : r.Perm l) (hs : SrtTo r l.length) (h : risesS r = false) (hn : nonN l = false) : ¬ l.Nodup := by
  intro hd
  have hd := hp.nodup_iff.2 hd
  have hrl := hp.length_eq
  have : risesS r = true := rises_ok fun j hj => by
    have hnm : nameS (r.getD j []) = true := by
      have hm : r[j] ∈ l := hp.mem_iff.1 (List.getElem_mem hj)
      have := List.any_eq_false.1 hn _ hm
      simpa [List.getD_eq_getElem?_getD, hj] using this
    rw [badAt, hnm]
    simp only [Bool.not_true, Bool.false_or, Bool.and_eq_false_iff, decide_eq_false_iff_not, Bool.not_eq_false']
    by_cases h0 : 0 < j
    · refine .inr ?_
      have h1 := hs (j - 1) (by omega)
      rw [lt2, show j - 1 + 1 = j by omega] at h1
      cases e : Op.bytesLess (r.getD (j - 1) []) (r.getD j []) with
      | true => rfl
      | false =>
        have := less_total e h1
        simp only [List.getD_eq_getElem?_getD, List.getElem?_eq_getElem hj, List.getElem?_eq_getElem (show j - 1 < r.length by omega), Option.getD_some] at this
        exact absurd this (List.pairwise_iff_getElem.1 hd (j - 1) j (by omega) hj (by omega))
    · exact .inl h0
  rw [h] at this
  simp at this

@[irreducible] def sortE (l : List (List UInt8)) : Int := if nonN l = true then 6 else if (togS l).length = l.length then 0 else 5
@[irreducible] def sortR (l : List (List UInt8)) : List (List UInt8) := if nonN l = false ∧ (togS l).length = l.length then togS l else []

theorem sort_non {l} (h : nonN l = true) : sortE l = 6 ∧ sortR l = [] := by
  rw [sortE, sortR, if_pos h, if_neg (by simp [h])]; exact ⟨rfl, rfl⟩
theorem sort_dup {l} (h : nonN l = false) (h2 : ¬ (togS l).length = l.length) : sortE l = 5 ∧ sortR l = [] := by
  rw [sortE, sortR, if_neg (by simp [h]), if_neg h2, if_neg (by simp [h2])]; exact ⟨rfl, rfl⟩
theorem sort_fine {l} (h : nonN l = false) (h2 : (togS l).length = l.length) : sortE l = 0 ∧ sortR l = togS l := by
  rw [sortE, sortR, if_neg (by simp [h]), if_pos h2, if_pos ⟨h, h2⟩]; exact ⟨rfl, rfl⟩

theorem sort_zero {l} (h : sortE l = 0) : sortR l = togS l ∧ (togS l).length = l.length ∧ nonN l = false := by
  cases hn : nonN l with
  | true => rw [(sort_non hn).1] at h; omega
  | false =>
    by_cases h2 : (togS l).length = l.length
    · exact ⟨(sort_fine hn h2).2, h2, rfl⟩
    · rw [(sort_dup hn h2).1] at h; omega

end Tab

/- Lists put in order: the walks. -/
namespace Tab
open Go Go.Proofs
set_option maxRecDepth 10000
set_option linter.unusedVariables false
set_option linter.unusedSimpArgs false
set_option linter.unusedSectionVars false

end Tab

/- The document's names in order. -/
namespace Tab
open Go Go.Proofs
set_option maxRecDepth 10000
set_option linter.unusedVariables false
set_option linter.unusedSimpArgs false
set_option linter.unusedSectionVars false

/-- A round of 'put': what is there, and what is still to come. -/
def PutInv (x : List UInt8) (l : List (List UInt8)) (i : Nat) (dn : Bool) (out : List (List UInt8)) : Prop :=
  putS x l = out ++ (if dn = true then l.drop i else putS x (l.drop i)) ∧ out.length ≤ 2 * i

theorem r04_put (k : SK) (l : List (List UInt8)) (x : List UInt8) (hl : l.length < 2^20) : Pure Try.prog 68 [aSs k l, .str x] (aSs .any (putS x l)) := by
  refine Pure.of_sw 48 Try.func68 rfl Try.ntmps68 (by kernel_rfl) (Nat.le_of_ble_eq_true (by kernel_rfl)) (by simp [closeds, AV.closed, aSs_closed, aIs_closed, aBs_closed, aRs_closed, aDen_closed]) (by simp [AV.closed, closeds, aSs_closed, aIs_closed, aBs_closed, aRs_closed, aDen_closed]) ?_; refine SW.of_vc ?_
  repeat first | refine opsStep ?_ | refine codeStep ?_ | refine drawStep ?_
  refine loopE_of (ι := {q : Nat × Bool × List (List UInt8) // q.1 ≤ l.length ∧ PutInv x l q.1 q.2.1 q.2.2})
    (fun q => (fr [(0, aSs k l), (1, .str x), (5, .hs 0 q.1.2.2.length 0 q.1.2.2.length 1), (6, .bool q.1.2.1), (7, .int .i64 q.1.1)], [.cells q.1.2.2.length (q.1.2.2.map .str)])) (fun q => l.length - q.1.1)
    ⟨(0, false, []), by simp, by simp [PutInv]⟩ ?_ ?_
  · exact ((Ent.fr' (l := [(0, aSs k l), (1, .str x), (5, .sl .nil 0 []), (6, .bool false), (7, .int .i64 (0 : Nat))]) (H' := []) ⟨(by kernel_rfl), (by kernel_rfl), (by kernel_rfl), (by kernel_rfl), (by kernel_rfl), trivial⟩ (by kernel_rfl)).trans (Ent.nil 5 1 rfl)).trans (Ent.fr' ⟨(by kernel_rfl), (by kernel_rfl), (by kernel_rfl), (by kernel_rfl), (by kernel_rfl), trivial⟩ (by kernel_rfl))
  rintro ⟨⟨i, dn, out⟩, hi, hinv, hol⟩
  simp only at hi hinv hol
  repeat first | refine opsStep ?_ | refine codeStep ?_ | refine drawStep ?_
  refine decB_dec (fun h => ?_) (fun h => ?_)
  · have hia : i < l.length := by have := h; simp at this; omega
    have hdr : l.drop i = l[i] :: l.drop (i + 1) := List.drop_eq_getElem_cons hia
    have fin : ∀ (s : Slots) (H : List Blk) (dn' : Bool) (o : List (List UInt8)) (y : List UInt8), frOk s [(0, aSs k l), (1, .str x), (5, .hs 0 (o.length + 1) 0 (o.length + 1) 1), (6, .bool dn'), (7, .int .i64 (i + 1 : Nat))] →
        H.take 1 = [.cells (o.length + 1) (((o.map .str).drop 0).take (o.length * 1) ++ [.str y])] → Ent ⟨48, 0⟩ s H (fr [(0, aSs k l), (1, .str x), (5, .hs 0 (o ++ [y]).length 0 (o ++ [y]).length 1), (6, .bool dn'), (7, .int .i64 (i + 1 : Nat))]) [.cells (o ++ [y]).length ((o ++ [y]).map .str)] := fun s H dn' o y hf hH => by
      refine Ent.to (Ent.frT 1 ?_ hH (Nat.zero_le _) (by first | (simp [frBel, blksBel, Blk.bel, AV.bel, bels, bels_append, bels_map, aSs_bel, aIs_bel, aBs_bel, aRs_bel, aDen_bel, cells_bel]; done) | (simp only [List.drop_zero, ← List.map_take, ← List.map_drop, List.map_map, frBel, blksBel, Blk.bel, AV.bel, bels, bels_append, bels_map, aSs_bel, aIs_bel, aBs_bel, aRs_bel, aDen_bel, cells_bel]; simp [AV.bel, aSs_bel, aIs_bel, aBs_bel, aRs_bel, aDen_bel, cells_bel])) ?_) ?_
      · rw [List.length_append, List.length_singleton]; exact hf
      · exact ⟨bels_append.2 ⟨bels_td (bels_map.2 fun _ _ => trivial), trivial, trivial⟩, trivial⟩
      · rw [td_all (by simp)]; simp
    cases dn with
    | true =>
      rw [if_pos rfl, hdr] at hinv
      repeat first | refine opsStep ?_ | refine codeStep ?_ | refine drawStep ?_
      refine guardE_of (by simp; omega) ?_
      repeat first | refine opsStep ?_ | refine codeStep ?_ | refine drawStep ?_
      refine optE_of (c := .str l[i]) (by simp [Value.cells, hia]) ?_
      repeat first | refine opsStep ?_ | refine codeStep ?_ | refine drawStep ?_
      refine guardE_of ⟨rfl, by simp⟩ ?_
      refine guardE_of rfl ?_
      refine guardE_of ⟨by show out.length + 1 ≤ 9223372036854775807; omega, by show (out.length + 1) * 16 ≤ 140737488355328; omega⟩ ?_
      repeat first | refine opsStep ?_ | refine codeStep ?_ | refine drawStep ?_
      exact ⟨⟨(i + 1, true, out ++ [l[i]]), by simp only; omega, by simp only [if_true]; rw [hinv]; simp, by simp; omega⟩, (by show l.length - (i + 1) < l.length - i; omega), fin _ _ _ out l[i] ⟨(by kernel_rfl), (by kernel_rfl), (by kernel_rfl), (by kernel_rfl), inc_slot (i := i) (by omega), trivial⟩ (by kernel_rfl)⟩
    | false =>
      rw [if_neg (by simp), hdr, putS] at hinv
      repeat first | refine opsStep ?_ | refine codeStep ?_ | refine drawStep ?_
      refine guardE_of (by simp; omega) ?_
      repeat first | refine opsStep ?_ | refine codeStep ?_ | refine drawStep ?_
      refine optE_of (c := .str l[i]) (by simp [Value.cells, hia]) ?_
      repeat first | refine opsStep ?_ | refine codeStep ?_ | refine drawStep ?_
      refine decB_split (fun h => ?_) (fun h => ?_)
      · have h1 : (less x l[i] || x == l[i]) = true := h
        rw [if_pos h1] at hinv
        repeat first | refine opsStep ?_ | refine codeStep ?_ | refine drawStep ?_
        refine guardE_of (by simp; omega) ?_
        repeat first | refine opsStep ?_ | refine codeStep ?_ | refine drawStep ?_
        refine optE_of (c := .str l[i]) (by simp [Value.cells, hia]) ?_
        repeat first | refine opsStep ?_ | refine codeStep ?_ | refine drawStep ?_
        refine decB_split (fun h => ?_) (fun h => ?_)
        · have h2 : less x l[i] = true := h
          rw [if_pos h2] at hinv
          repeat first | refine opsStep ?_ | refine codeStep ?_ | refine drawStep ?_
          refine guardE_of ⟨rfl, by simp⟩ ?_
          refine guardE_of rfl ?_
          refine guardE_of ⟨by show out.length + 1 ≤ 9223372036854775807; omega, by show (out.length + 1) * 16 ≤ 140737488355328; omega⟩ ?_
          repeat first | refine opsStep ?_ | refine codeStep ?_ | refine drawStep ?_
          refine guardE_of (by simp; omega) ?_
          repeat first | refine opsStep ?_ | refine codeStep ?_ | refine drawStep ?_
          refine optE_of (c := .str l[i]) (by simp [Value.cells, hia]) ?_
          repeat first | refine opsStep ?_ | refine codeStep ?_ | refine drawStep ?_
          have hlen : (out ++ [x]).length = out.length + 1 := by simp
          refine guardE_of ⟨rfl, by simp⟩ ?_
          refine guardE_of rfl ?_
          refine guardE_of ⟨by show out.length + 1 + 1 ≤ 9223372036854775807; omega, by show (out.length + 1 + 1) * 16 ≤ 140737488355328; omega⟩ ?_
          repeat first | refine opsStep ?_ | refine codeStep ?_ | refine drawStep ?_
          refine ⟨⟨(i + 1, true, (out ++ [x]) ++ [l[i]]), by simp only; omega, by simp only [if_true]; rw [hinv]; simp, by simp; omega⟩, (by show l.length - (i + 1) < l.length - i; omega), fin _ _ _ (out ++ [x]) l[i] ⟨(by kernel_rfl), (by kernel_rfl), ?_, (by kernel_rfl), inc_slot (i := i) (by omega), trivial⟩ ?_⟩
          · exact Eq.trans (b := .hs 0 (out.length + 1 + 1) 0 (out.length + 1 + 1) 1) (by kernel_rfl) (by rw [hlen])
          · refine Eq.trans (b := [Blk.cells (out.length + 1 + 1) ((((((out.map AV.str).drop 0).take (out.length * 1)) ++ [AV.str x]).drop 0).take ((out.length + 1) * 1) ++ [.str l[i]])]) (by kernel_rfl) ?_
            rw [td_all (l := out.map AV.str) (by simp), hlen, List.map_append]
            rfl
        · have h2 : ¬ less x l[i] = true := by have : less x l[i] = false := h; simp [this]
          rw [if_neg h2] at hinv
          repeat first | refine opsStep ?_ | refine codeStep ?_ | refine drawStep ?_
          refine guardE_of (by simp; omega) ?_
          repeat first | refine opsStep ?_ | refine codeStep ?_ | refine drawStep ?_
          refine optE_of (c := .str l[i]) (by simp [Value.cells, hia]) ?_
          repeat first | refine opsStep ?_ | refine codeStep ?_ | refine drawStep ?_
          refine guardE_of ⟨rfl, by simp⟩ ?_
          refine guardE_of rfl ?_
          refine guardE_of ⟨by show out.length + 1 ≤ 9223372036854775807; omega, by show (out.length + 1) * 16 ≤ 140737488355328; omega⟩ ?_
          repeat first | refine opsStep ?_ | refine codeStep ?_ | refine drawStep ?_
          exact ⟨⟨(i + 1, true, out ++ [l[i]]), by simp only; omega, by simp only [if_true]; rw [hinv]; simp, by simp; omega⟩, (by show l.length - (i + 1) < l.length - i; omega), fin _ _ _ out l[i] ⟨(by kernel_rfl), (by kernel_rfl), (by kernel_rfl), (by kernel_rfl), inc_slot (i := i) (by omega), trivial⟩ (by kernel_rfl)⟩
      · have h1 : ¬ (less x l[i] || x == l[i]) = true := by have : (less x l[i] || x == l[i]) = false := h; rw [this]; simp
        rw [if_neg h1] at hinv
        repeat first | refine opsStep ?_ | refine codeStep ?_ | refine drawStep ?_
        refine guardE_of (by simp; omega) ?_
        repeat first | refine opsStep ?_ | refine codeStep ?_ | refine drawStep ?_
        refine optE_of (c := .str l[i]) (by simp [Value.cells, hia]) ?_
        repeat first | refine opsStep ?_ | refine codeStep ?_ | refine drawStep ?_
        refine guardE_of ⟨rfl, by simp⟩ ?_
        refine guardE_of rfl ?_
        refine guardE_of ⟨by show out.length + 1 ≤ 9223372036854775807; omega, by show (out.length + 1) * 16 ≤ 140737488355328; omega⟩ ?_
        repeat first | refine opsStep ?_ | refine codeStep ?_ | refine drawStep ?_
        exact ⟨⟨(i + 1, false, out ++ [l[i]]), by simp only; omega, by simp only [Bool.false_eq_true, if_false]; rw [hinv]; simp, by simp; omega⟩, (by show l.length - (i + 1) < l.length - i; omega), fin _ _ _ out l[i] ⟨(by kernel_rfl), (by kernel_rfl), (by kernel_rfl), (by kernel_rfl), inc_slot (i := i) (by omega), trivial⟩ (by kernel_rfl)⟩
  · have : i = l.length := by have := h; simp at this; omega
    subst this
    cases dn with
    | true =>
      rw [if_pos rfl, List.drop_length, List.append_nil] at hinv
      repeat first | refine opsStep ?_ | refine codeStep ?_ | refine drawStep ?_
      refine ⟨_, _, (Ent.fr' (l := [(4, .hs 0 out.length 0 out.length 1)]) (H' := [.cells out.length (out.map .str)]) ⟨(by kernel_rfl), trivial⟩ (by kernel_rfl)).trans (Ent.freeze (n := out.length) (cs := out.map .str) (es := 1) (g := out.length) (b := 0) 4 rfl rfl (by simp)), ?_⟩
      rw [hinv]
      kernel_rfl
    | false =>
      rw [if_neg (by simp), List.drop_length, putS] at hinv
      repeat first | refine opsStep ?_ | refine codeStep ?_ | refine drawStep ?_
      refine guardE_of ⟨rfl, by simp⟩ ?_
      refine guardE_of rfl ?_
      refine guardE_of ⟨by show out.length + 1 ≤ 9223372036854775807; omega, by show (out.length + 1) * 16 ≤ 140737488355328; omega⟩ ?_
      repeat first | refine opsStep ?_ | refine codeStep ?_ | refine drawStep ?_
      refine ⟨_, _, (Ent.fr' (l := [(4, .hs 0 (out.length + 1) 0 (out.length + 1) 1)]) (H' := [.cells (out.length + 1) (((out.map .str).drop 0).take (out.length * 1) ++ [.str x]), .cells 0 [.str x]]) ⟨(by kernel_rfl), trivial⟩ (by kernel_rfl)).trans (Ent.freeze (n := out.length + 1) (cs := ((out.map .str).drop 0).take (out.length * 1) ++ [.str x]) (es := 1) (g := out.length + 1) (b := 0) 4 rfl rfl (by simp)), ?_⟩
      rw [hinv, td_all (l := out.map AV.str) (by simp), aSs, List.length_append, List.map_append]
      kernel_rfl

theorem putS_le (x : List UInt8) : ∀ (l : List (List UInt8)), (putS x l).length ≤ l.length + 1
  | [] => by simp [putS]
  | z :: l => by
    have := putS_le x l
    rw [putS]
    split
    · split <;> simp
    · simp; exact this

theorem r04_Together (k : SK) (l : List (List UInt8)) (hl : l.length < 2^20) : Pure Try.prog 47 [aSs k l] (aSs .any (togS l)) := by
  refine Pure.of_sw 18 Try.func47 rfl Try.ntmps47 (by kernel_rfl) (Nat.le_of_ble_eq_true (by kernel_rfl)) (by simp [closeds, AV.closed, aSs_closed, aIs_closed, aBs_closed, aRs_closed, aDen_closed]) (by simp [AV.closed, closeds, aSs_closed, aIs_closed, aBs_closed, aRs_closed, aDen_closed]) ?_; refine SW.of_vc ?_
  repeat first | refine opsStep ?_ | refine codeStep ?_ | refine drawStep ?_
  refine loopE_of (ι := {q : Nat × List (List UInt8) // q.1 ≤ l.length ∧ togS (l.take q.1) = q.2}) (fun q => (fr [(0, aSs k l), (3, aSs .any q.1.2), (4, .int .i64 q.1.1)], [])) (fun q => l.length - q.1.1)
    ⟨(0, []), by simp, by simp [togS]⟩ ((Ent.fr' (l := [(0, aSs k l), (3, .sl .nil 0 []), (4, .int .i64 (0 : Nat))]) (H' := []) ⟨(by kernel_rfl), (by kernel_rfl), (by kernel_rfl), trivial⟩ (by kernel_rfl)).trans ((Ent.slotTo (y := .sl .any 0 []) 3 rfl (fun _ _ _ _ h => sl_any h)).trans (Ent.fr' ⟨(by kernel_rfl), (by kernel_rfl), (by kernel_rfl), trivial⟩ (by kernel_rfl)))) ?_
  rintro ⟨⟨i, out⟩, hi, hinv⟩
  simp only at hi hinv
  have hol : out.length ≤ l.length := by rw [← hinv]; have := tog_len (l.take i); simp at this; omega
  repeat first | refine opsStep ?_ | refine codeStep ?_ | refine drawStep ?_
  refine decB_dec (fun h => ?_) (fun h => ?_)
  · have hia : i < l.length := by have := h; simp at this; omega
    repeat first | refine opsStep ?_ | refine codeStep ?_ | refine drawStep ?_
    refine guardE_of (by simp; omega) ?_
    repeat first | refine opsStep ?_ | refine codeStep ?_ | refine drawStep ?_
    refine optE_of (c := .str l[i]) (by simp [Value.cells, hia]) ?_
    repeat first | refine opsStep ?_ | refine codeStep ?_ | refine drawStep ?_
    refine callP (r04_put .any out l[i] (by omega)) ?_
    repeat first | refine opsStep ?_ | refine codeStep ?_ | refine drawStep ?_
    refine ⟨⟨(i + 1, putS l[i] out), by simp only; omega, ?_⟩, (by show l.length - (i + 1) < l.length - i; omega), Ent.fr' ⟨(by kernel_rfl), (by kernel_rfl), inc_slot (i := i) (by omega), trivial⟩ (by kernel_rfl)⟩
    rw [List.take_succ_eq_append_getElem hia, togS, List.foldl_append, ← togS, hinv]
    rfl
  · repeat first | refine opsStep ?_ | refine codeStep ?_ | refine drawStep ?_
    have : i = l.length := by have := h; simp at this; omega
    subst this
    rw [List.take_length] at hinv
    exact finV (v' := aSs .any out) (by kernel_rfl) (by rw [hinv])

end Tab

/- The document's machine over more tracks. -/
namespace Tab
open Go Go.Proofs
set_option maxRecDepth 10000
set_option linter.unusedVariables false
set_option linter.unusedSimpArgs false
set_option linter.unusedSectionVars false

def dig (a p : Nat) : Int := ((a / 2 ^ p % 2 : Nat) : Int)
theorem digN_get : ∀ (n a p : Nat), p < n → (digN a n)[p]? = some (dig a p)
  | n + 1, a, 0, _ => by simp [digN, dig]
  | n + 1, a, p + 1, h => by
    rw [digN, List.getElem?_cons_succ, digN_get n (a / 2) p (by omega)]
    simp only [dig, Nat.pow_succ, Nat.div_div_eq_div_mul, Nat.mul_comm]
theorem letS_dig (a : Nat) : ∀ (pl : List Nat), letS (pl.map (dig a)) = (gatN a pl : Nat)
  | [] => rfl
  | p :: pl => by rw [List.map_cons, letS, letS_dig a pl, gatN, dig]; omega
theorem dig_bit (a p : Nat) : 0 ≤ dig a p ∧ dig a p ≤ 1 := by unfold dig; omega

theorem r15_over (kn kp : SK) (d : Den) (names called : List (List UInt8)) (hd : DenOk d) (hn : names.length ≤ 6) (hp : called.length ≤ 6) (hc : ∀ s ∈ called, s ∈ names) (hrow : ∀ r ∈ d.next, r.2.length = 2 ^ called.length) :
    Pure Try.prog 62 [aDen d, aSs kn names, aSs kp called] (aDen ⟨.any, names, .any, d.accept, .any, (d.rows.map (ovRow names.length (placesOf called names))).map fun r => (.any, r)⟩) := by
  have h1 := hd.tracks
  have h2 := hd.accept
  have h3 := hd.next
  obtain ⟨q, hq⟩ : ∃ q, 2 ^ names.length = q := ⟨_, rfl⟩
  have hpow : q ≤ 64 := by rw [← hq]; exact Nat.pow_le_pow_right (by omega) hn
  have hlet : lettersS names.length = (q : Int) := by rw [lettersS_small (by omega), ← hq]; simp
  have hrl : d.rows.length = d.next.length := by simp [Den.rows]
  refine Pure.of_sw 77 Try.func62 rfl Try.ntmps62 (by kernel_rfl) (Nat.le_of_ble_eq_true (by kernel_rfl)) (by simp [closeds, AV.closed, aSs_closed, aIs_closed, aBs_closed, aRs_closed, aDen_closed]) (by simp [AV.closed, closeds, aSs_closed, aIs_closed, aBs_closed, aRs_closed, aDen_closed]) ?_; refine SW.of_vc ?_
  repeat first | refine opsStep ?_ | refine codeStep ?_ | refine drawStep ?_
  refine SW.drawn rfl (by kernel_rfl) ?_
  repeat first | refine opsStep ?_ | refine codeStep ?_ | refine drawStep ?_
  refine guardE_of (by simp [Value.cells]) ?_
  refine guardE_of ⟨by omega, by show (0 + names.length) * 16 ≤ 140737488355328; omega⟩ ?_
  repeat first | refine opsStep ?_ | refine codeStep ?_ | refine drawStep ?_
  refine guardE_of (by simp [Value.cells]) ?_
  refine guardE_of ⟨by omega, by show (0 + d.accept.length) * 1 ≤ 140737488355328; omega⟩ ?_
  repeat first | refine opsStep ?_ | refine codeStep ?_ | refine drawStep ?_
  refine ⟨by kernel_rfl, ?_⟩
  repeat first | refine opsStep ?_ | refine codeStep ?_ | refine drawStep ?_
  refine loopE_of (ι := {i : Nat // i ≤ d.next.length})
    (fun i => (fr [(1, aSs kn names), (2, aSs kp called), (3, .ref 0 0 0), (6, .ref 1 0 0), (7, .ref 4 0 0), (8, .int .i64 i.1)],
      [.cells 0 d.cells, .cells 0 den0.cells, .fro 1 (names.map .str), .fro 1 (d.accept.map .bool), .cells 0 [aSs .any names, aBs .any d.accept, .hs 5 i.1 0 i.1 1], .cells i.1 (((d.rows.take i.1).map (ovRow names.length (placesOf called names))).map (aIs .any))]))
    (fun i => d.next.length - i.1) ⟨0, by omega⟩ ?_ ?_
  · refine (Ent.fr' (l := [(1, aSs kn names), (2, aSs kp called), (3, .ref 0 0 0), (6, .ref 1 0 0), (7, .ref 4 0 0), (8, .int .i64 (0 : Nat))])
      (H' := [.cells 0 d.cells, .cells 0 den0.cells, .cells 1 (names.map .str), .cells 1 (d.accept.map .bool), .cells 0 [.hs 2 1 0 (0 + names.length) 1, .hs 3 1 0 (0 + d.accept.length) 1, .sl .nil 0 []]]) ⟨(by kernel_rfl), (by kernel_rfl), (by kernel_rfl), (by kernel_rfl), (by kernel_rfl), (by kernel_rfl), trivial⟩ (by kernel_rfl)).trans ?_
    rw [Nat.zero_add, Nat.zero_add]
    exact (((Ent.freezeCell 4 0 (b := 2) rfl rfl rfl (by omega) (by simp)).trans (Ent.freezeCell 4 1 (b := 3) rfl rfl rfl (by omega) (by simp))).trans (Ent.nilCell 4 2 1 rfl rfl)).to (by kernel_rfl)
  rintro ⟨i, hi⟩
  repeat first | refine opsStep ?_ | refine codeStep ?_ | refine drawStep ?_
  refine decB_dec (fun h => ?_) (fun h => ?_)
  · have hia : i < d.next.length := by have := h; simp at this; omega
    have hlr : i < d.rows.length := by omega
    have ga : d.rows[i] = (d.next[i]).2 := by simp [Den.rows]
    have hri := hrow _ (List.getElem_mem hia)
    obtain ⟨rs, hrs⟩ : ∃ rs, (d.rows.take i).map (ovRow names.length (placesOf called names)) = rs := ⟨_, rfl⟩
    have hrsl : rs.length = i := by rw [← hrs]; simp; omega
    obtain ⟨f, hf⟩ : ∃ f : Nat → Int, f = fun a => (d.next[i]).2.getD (gatN a (placesOf called names)) 0 := ⟨_, rfl⟩
    repeat first | refine opsStep ?_ | refine codeStep ?_ | refine drawStep ?_
    refine loopE_of (ι := {a : Nat // a ≤ q})
      (fun a => (fr [(1, aSs kn names), (2, aSs kp called), (3, .ref 0 0 0), (6, .ref 1 0 0), (7, .ref 4 0 0), (8, .int .i64 i), (9, .hs 6 a.1 0 a.1 1), (10, .int .i64 a.1)],
        [.cells 0 d.cells, .cells 0 den0.cells, .fro 1 (names.map .str), .fro 1 (d.accept.map .bool), .cells 0 [aSs .any names, aBs .any d.accept, .hs 5 i 0 i 1], .cells i (rs.map (aIs .any)), .cells a.1 (((List.range a.1).map f).map (.int .i64))]))
      (fun a => q - a.1) ⟨0, by omega⟩ ?_ ?_
    · rw [← hrs]
      exact ((Ent.fr' (l := [(1, aSs kn names), (2, aSs kp called), (3, .ref 0 0 0), (6, .ref 1 0 0), (7, .ref 4 0 0), (8, .int .i64 i), (9, .sl .nil 0 []), (10, .int .i64 (0 : Nat))])
        (H' := [.cells 0 d.cells, .cells 0 den0.cells, .fro 1 (names.map .str), .fro 1 (d.accept.map .bool), .cells 0 [aSs .any names, aBs .any d.accept, .hs 5 i 0 i 1], .cells i (((d.rows.take i).map (ovRow names.length (placesOf called names))).map (aIs .any))]) ⟨(by kernel_rfl), (by kernel_rfl), (by kernel_rfl), (by kernel_rfl), (by kernel_rfl), (by kernel_rfl), (by kernel_rfl), (by kernel_rfl), trivial⟩ (by kernel_rfl)).trans (Ent.nil 9 1 rfl)).trans (Ent.fr' ⟨(by kernel_rfl), (by kernel_rfl), (by kernel_rfl), (by kernel_rfl), (by kernel_rfl), (by kernel_rfl), (by kernel_rfl), (by kernel_rfl), trivial⟩ (by kernel_rfl))
    rintro ⟨a, ha⟩
    repeat first | refine opsStep ?_ | refine codeStep ?_ | refine drawStep ?_
    refine callP (r12_Letters names.length (by omega)) ?_
    repeat first | refine opsStep ?_ | refine codeStep ?_ | refine drawStep ?_
    refine decB_dec (fun g => ?_) (fun g => ?_)
    · have haq : a < q := by rw [hlet] at g; have := g; simp at this; omega
      repeat first | refine opsStep ?_ | refine codeStep ?_ | refine drawStep ?_
      refine callP (r02_Digits a names.length (by omega) (by omega)) ?_
      repeat first | refine opsStep ?_ | refine codeStep ?_ | refine drawStep ?_
      refine loopE_of (ι := {t : Nat // t ≤ called.length})
        (fun t => (fr [(1, aSs kn names), (2, aSs kp called), (3, .ref 0 0 0), (6, .ref 1 0 0), (7, .ref 4 0 0), (8, .int .i64 i), (9, .hs 6 a 0 a 1), (10, .int .i64 a), (11, aIs .any (digN a names.length)), (12, .hs 7 t.1 0 t.1 1), (13, .int .i64 t.1)],
          [.cells 0 d.cells, .cells 0 den0.cells, .fro 1 (names.map .str), .fro 1 (d.accept.map .bool), .cells 0 [aSs .any names, aBs .any d.accept, .hs 5 i 0 i 1], .cells i (rs.map (aIs .any)), .cells a (((List.range a).map f).map (.int .i64)), .cells t.1 ((((placesOf called names).take t.1).map (dig a)).map (.int .i64))]))
        (fun t => called.length - t.1) ⟨0, by omega⟩ ?_ ?_
      · exact ((Ent.fr' (l := [(1, aSs kn names), (2, aSs kp called), (3, .ref 0 0 0), (6, .ref 1 0 0), (7, .ref 4 0 0), (8, .int .i64 i), (9, .hs 6 a 0 a 1), (10, .int .i64 a), (11, aIs .any (digN a names.length)), (12, .sl .nil 0 []), (13, .int .i64 (0 : Nat))])
          (H' := [.cells 0 d.cells, .cells 0 den0.cells, .fro 1 (names.map .str), .fro 1 (d.accept.map .bool), .cells 0 [aSs .any names, aBs .any d.accept, .hs 5 i 0 i 1], .cells i (rs.map (aIs .any)), .cells a (((List.range a).map f).map (.int .i64))]) ⟨(by kernel_rfl), (by kernel_rfl), (by kernel_rfl), (by kernel_rfl), (by kernel_rfl), (by kernel_rfl), (by kernel_rfl), (by kernel_rfl), (by kernel_rfl), (by kernel_rfl), (by kernel_rfl), trivial⟩ (by kernel_rfl)).trans (Ent.nil 12 1 rfl)).trans (Ent.fr' ⟨(by kernel_rfl), (by kernel_rfl), (by kernel_rfl), (by kernel_rfl), (by kernel_rfl), (by kernel_rfl), (by kernel_rfl), (by kernel_rfl), (by kernel_rfl), (by kernel_rfl), (by kernel_rfl), trivial⟩ (by kernel_rfl))
      rintro ⟨t, ht⟩
      repeat first | refine opsStep ?_ | refine codeStep ?_ | refine drawStep ?_
      refine decB_dec (fun e => ?_) (fun e => ?_)
      · have hta : t < called.length := by have := e; simp at this; omega
        have hm : called[t] ∈ names := hc _ (List.getElem_mem hta)
        have hlt := List.idxOf_lt_length_of_mem hm
        have hix : idxS names called[t] = (names.idxOf called[t] : Nat) := by rw [idxS, if_pos hlt]
        repeat first | refine opsStep ?_ | refine codeStep ?_ | refine drawStep ?_
        refine guardE_of (by simp; omega) ?_
        repeat first | refine opsStep ?_ | refine codeStep ?_ | refine drawStep ?_
        refine optE_of (c := .str called[t]) (by simp [Value.cells, hta]) ?_
        repeat first | refine opsStep ?_ | refine codeStep ?_ | refine drawStep ?_
        refine callP (r04_Index kn names called[t] (by omega)) ?_
        repeat first | refine opsStep ?_ | refine codeStep ?_ | refine drawStep ?_
        refine guardE_of (by rw [hix]; simp [digN_length]; omega) ?_
        repeat first | refine opsStep ?_ | refine codeStep ?_ | refine drawStep ?_
        refine optE_of (c := .int .i64 (dig a (names.idxOf called[t]))) (by rw [hix]; simp [Value.cells, digN_get _ _ _ hlt]) ?_
        repeat first | refine opsStep ?_ | refine codeStep ?_ | refine drawStep ?_
        refine guardE_of ⟨rfl, by simp [placesOf]; omega⟩ ?_
        refine guardE_of rfl ?_
        refine guardE_of ⟨by omega, by show (t + 1) * 8 ≤ 140737488355328; omega⟩ ?_
        repeat first | refine opsStep ?_ | refine codeStep ?_ | refine drawStep ?_
        refine ⟨⟨t + 1, by omega⟩, (by show called.length - (t + 1) < called.length - t; omega), Ent.to (Ent.frD (X := [.cells 0 [.int .i64 (dig a (names.idxOf called[t]))]])
          (H' := [.cells 0 d.cells, .cells 0 den0.cells, .fro 1 (names.map .str), .fro 1 (d.accept.map .bool), .cells 0 [aSs .any names, aBs .any d.accept, .hs 5 i 0 i 1], .cells i (rs.map (aIs .any)), .cells a (((List.range a).map f).map (.int .i64)), .cells (t + 1) ((((((placesOf called names).take t).map (dig a)).map (AV.int .i64)).drop 0).take (t * 1) ++ [.int .i64 (dig a (names.idxOf called[t]))])])
          ⟨(by kernel_rfl), (by kernel_rfl), (by kernel_rfl), (by kernel_rfl), (by kernel_rfl), (by kernel_rfl), (by kernel_rfl), (by kernel_rfl), (by kernel_rfl), (by kernel_rfl), inc_slot (i := t) (by omega), trivial⟩ (by kernel_rfl) (Nat.zero_le _) (by first | (simp [frBel, blksBel, Blk.bel, AV.bel, bels, bels_append, bels_map, aSs_bel, aIs_bel, aBs_bel, aRs_bel, aDen_bel, cells_bel]; done) | (simp only [List.drop_zero, ← List.map_take, ← List.map_drop, List.map_map, frBel, blksBel, Blk.bel, AV.bel, bels, bels_append, bels_map, aSs_bel, aIs_bel, aBs_bel, aRs_bel, aDen_bel, cells_bel]; simp [AV.bel, aSs_bel, aIs_bel, aBs_bel, aRs_bel, aDen_bel, cells_bel])) (by first | (simp [frBel, blksBel, Blk.bel, AV.bel, bels, bels_append, bels_map, aSs_bel, aIs_bel, aBs_bel, aRs_bel, aDen_bel, cells_bel]; done) | (simp only [List.drop_zero, ← List.map_take, ← List.map_drop, List.map_map, frBel, blksBel, Blk.bel, AV.bel, bels, bels_append, bels_map, aSs_bel, aIs_bel, aBs_bel, aRs_bel, aDen_bel, cells_bel]; simp [AV.bel, aSs_bel, aIs_bel, aBs_bel, aRs_bel, aDen_bel, cells_bel]))) ?_⟩
        show _ = ([.cells 0 d.cells, .cells 0 den0.cells, .fro 1 (names.map .str), .fro 1 (d.accept.map .bool), .cells 0 [aSs .any names, aBs .any d.accept, .hs 5 i 0 i 1], .cells i (rs.map (aIs .any)), .cells a (((List.range a).map f).map (.int .i64)), .cells (t + 1) ((((placesOf called names).take (t + 1)).map (dig a)).map (.int .i64))] : List Blk)
        rw [td_all (by simp; omega), List.take_succ_eq_append_getElem (i := t) (by simp [placesOf]; omega), List.map_append, List.map_append]
        simp [placesOf]
      · have : t = called.length := by have := e; simp at this; omega
        subst this
        have hpl : (placesOf called names).take called.length = placesOf called names := List.take_of_length_le (by simp [placesOf])
        have hgl : gatN a (placesOf called names) < (d.next[i]).2.length := by have := gatN_lt a (placesOf called names); rw [hri]; simpa [placesOf] using this
        refine VCode.ent (s' := fr [(1, aSs kn names), (2, aSs kp called), (3, .ref 0 0 0), (6, .ref 1 0 0), (7, .ref 4 0 0), (8, .int .i64 i), (9, .hs 6 a 0 a 1), (10, .int .i64 a), (12, aIs .any ((placesOf called names).map (dig a)))])
          (H' := [.cells 0 d.cells, .cells 0 den0.cells, .fro 1 (names.map .str), .fro 1 (d.accept.map .bool), .cells 0 [aSs .any names, aBs .any d.accept, .hs 5 i 0 i 1], .cells i (rs.map (aIs .any)), .cells a (((List.range a).map f).map (.int .i64))]) ?_ ?_
        · refine Ent.freezeLast (l := [(1, aSs kn names), (2, aSs kp called), (3, .ref 0 0 0), (6, .ref 1 0 0), (7, .ref 4 0 0), (8, .int .i64 i), (9, .hs 6 a 0 a 1), (10, .int .i64 a), (12, .hs 7 called.length 0 called.length 1)]) (g := called.length) (n := called.length) (es := 1)
            (cs := ((placesOf called names).map (dig a)).map (.int .i64)) _ 12 ⟨(by kernel_rfl), (by kernel_rfl), (by kernel_rfl), (by kernel_rfl), (by kernel_rfl), (by kernel_rfl), (by kernel_rfl), (by kernel_rfl), (by kernel_rfl), trivial⟩ (by kernel_rfl) (Eq.trans (b := some (.cells called.length ((((placesOf called names).take called.length).map (dig a)).map (.int .i64)))) (by kernel_rfl) (by rw [hpl])) rfl (by simp [placesOf]) (Nat.zero_le _)
            ⟨(by kernel_rfl), (by kernel_rfl), (by kernel_rfl), (by kernel_rfl), (by kernel_rfl), (by kernel_rfl), (by kernel_rfl), (by kernel_rfl), Eq.trans (b := .sl .any called.length (((placesOf called names).map (dig a)).map (.int .i64))) (by kernel_rfl) (by simp [aIs, placesOf]), trivial⟩ (by first | (simp [frBel, blksBel, Blk.bel, AV.bel, bels, bels_append, bels_map, aSs_bel, aIs_bel, aBs_bel, aRs_bel, aDen_bel, cells_bel]; done) | (simp only [List.drop_zero, ← List.map_take, ← List.map_drop, List.map_map, frBel, blksBel, Blk.bel, AV.bel, bels, bels_append, bels_map, aSs_bel, aIs_bel, aBs_bel, aRs_bel, aDen_bel, cells_bel]; simp [AV.bel, aSs_bel, aIs_bel, aBs_bel, aRs_bel, aDen_bel, cells_bel])) (by first | (simp [frBel, blksBel, Blk.bel, AV.bel, bels, bels_append, bels_map, aSs_bel, aIs_bel, aBs_bel, aRs_bel, aDen_bel, cells_bel]; done) | (simp only [List.drop_zero, ← List.map_take, ← List.map_drop, List.map_map, frBel, blksBel, Blk.bel, AV.bel, bels, bels_append, bels_map, aSs_bel, aIs_bel, aBs_bel, aRs_bel, aDen_bel, cells_bel]; simp [AV.bel, aSs_bel, aIs_bel, aBs_bel, aRs_bel, aDen_bel, cells_bel]))
        repeat first | refine opsStep ?_ | refine codeStep ?_ | refine drawStep ?_
        refine SW.drawn rfl (by kernel_rfl) ?_
        repeat first | refine opsStep ?_ | refine codeStep ?_ | refine drawStep ?_
        refine guardE_of (by simp; omega) ?_
        repeat first | refine opsStep ?_ | refine codeStep ?_ | refine drawStep ?_
        refine optE_of (c := aIs (d.next[i]).1 (d.next[i]).2) (by simp [Value.cells, hia]) ?_
        repeat first | refine opsStep ?_ | refine codeStep ?_ | refine drawStep ?_
        refine .inl ⟨_, _, [], (r02_Letter .any ((placesOf called names).map (dig a)) (by simp [placesOf]; omega) (fun x hx => by obtain ⟨p, _, rfl⟩ := List.mem_map.1 hx; exact dig_bit a p)), RdsN_refl _, .inr rfl, none_need, ?_⟩
        repeat first | refine opsStep ?_ | refine codeStep ?_ | refine drawStep ?_
        refine guardE_of (by rw [letS_dig]; simp; omega) ?_
        repeat first | refine opsStep ?_ | refine codeStep ?_ | refine drawStep ?_
        refine optE_of (c := .int .i64 (f a)) (by rw [letS_dig, hf]; simp [Value.cells, hgl, List.getD_eq_getElem?_getD]) ?_
        repeat first | refine opsStep ?_ | refine codeStep ?_ | refine drawStep ?_
        refine guardE_of ⟨rfl, by simp⟩ ?_
        refine guardE_of rfl ?_
        refine guardE_of ⟨by omega, by show (a + 1) * 8 ≤ 140737488355328; omega⟩ ?_
        repeat first | refine opsStep ?_ | refine codeStep ?_ | refine drawStep ?_
        refine ⟨by kernel_rfl, ?_⟩
        repeat first | refine opsStep ?_ | refine codeStep ?_ | refine drawStep ?_
        refine ⟨⟨a + 1, by omega⟩, (by show q - (a + 1) < q - a; omega), Ent.to (Ent.frD (X := [.cells 0 [.int .i64 (f a)]])
          (H' := [.cells 0 d.cells, .cells 0 den0.cells, .fro 1 (names.map .str), .fro 1 (d.accept.map .bool), .cells 0 [aSs .any names, aBs .any d.accept, .hs 5 i 0 i 1], .cells i (rs.map (aIs .any)), .cells (a + 1) (((((List.range a).map f).map (AV.int .i64)).drop 0).take (a * 1) ++ [.int .i64 (f a)])])
          ⟨(by kernel_rfl), (by kernel_rfl), (by kernel_rfl), (by kernel_rfl), (by kernel_rfl), (by kernel_rfl), (by kernel_rfl), inc_slot (i := a) (by omega), trivial⟩ (by kernel_rfl) (Nat.zero_le _) (by first | (simp [frBel, blksBel, Blk.bel, AV.bel, bels, bels_append, bels_map, aSs_bel, aIs_bel, aBs_bel, aRs_bel, aDen_bel, cells_bel]; done) | (simp only [List.drop_zero, ← List.map_take, ← List.map_drop, List.map_map, frBel, blksBel, Blk.bel, AV.bel, bels, bels_append, bels_map, aSs_bel, aIs_bel, aBs_bel, aRs_bel, aDen_bel, cells_bel]; simp [AV.bel, aSs_bel, aIs_bel, aBs_bel, aRs_bel, aDen_bel, cells_bel])) (by first | (simp [frBel, blksBel, Blk.bel, AV.bel, bels, bels_append, bels_map, aSs_bel, aIs_bel, aBs_bel, aRs_bel, aDen_bel, cells_bel]; done) | (simp only [List.drop_zero, ← List.map_take, ← List.map_drop, List.map_map, frBel, blksBel, Blk.bel, AV.bel, bels, bels_append, bels_map, aSs_bel, aIs_bel, aBs_bel, aRs_bel, aDen_bel, cells_bel]; simp [AV.bel, aSs_bel, aIs_bel, aBs_bel, aRs_bel, aDen_bel, cells_bel]))) ?_⟩
        show _ = ([.cells 0 d.cells, .cells 0 den0.cells, .fro 1 (names.map .str), .fro 1 (d.accept.map .bool), .cells 0 [aSs .any names, aBs .any d.accept, .hs 5 i 0 i 1], .cells i (rs.map (aIs .any)), .cells (a + 1) (((List.range (a + 1)).map f).map (.int .i64))] : List Blk)
        rw [td_all (by simp), List.range_succ, List.map_append, List.map_append]
        rfl
    · repeat first | refine opsStep ?_ | refine codeStep ?_ | refine drawStep ?_
      have : a = q := by rw [hlet] at g; have := g; simp at this; omega
      subst this
      refine guardE_of ⟨rfl, by simp; omega⟩ ?_
      refine guardE_of rfl ?_
      refine guardE_of ⟨by omega, by show (i + 1) * 24 ≤ 140737488355328; omega⟩ ?_
      repeat first | refine opsStep ?_ | refine codeStep ?_ | refine drawStep ?_
      refine ⟨⟨i + 1, by omega⟩, (by show d.next.length - (i + 1) < d.next.length - i; omega), Ent.rowNext [.cells 0 d.cells, .cells 0 den0.cells, .fro 1 (names.map .str), .fro 1 (d.accept.map .bool), .cells 0 [aSs .any names, aBs .any d.accept, .hs 5 (i + 1) 0 (i + 1) 1]]
        (n := a) (es := 1) (L := ((rs.map (aIs .any)).drop 0).take (i * 1)) (gb := i + 1) (gr := a) (cs := ((List.range a).map f).map (.int .i64)) ⟨(by kernel_rfl), (by kernel_rfl), (by kernel_rfl), (by kernel_rfl), (by kernel_rfl), inc_slot (i := i) (by omega), trivial⟩ (by kernel_rfl) (by kernel_rfl) (by kernel_rfl) rfl (by simp) (Nat.zero_le _) (by first | (simp [frBel, blksBel, Blk.bel, AV.bel, bels, bels_append, bels_map, aSs_bel, aIs_bel, aBs_bel, aRs_bel, aDen_bel, cells_bel]; done) | (simp only [List.drop_zero, ← List.map_take, ← List.map_drop, List.map_map, frBel, blksBel, Blk.bel, AV.bel, bels, bels_append, bels_map, aSs_bel, aIs_bel, aBs_bel, aRs_bel, aDen_bel, cells_bel]; simp [AV.bel, aSs_bel, aIs_bel, aBs_bel, aRs_bel, aDen_bel, cells_bel])) (by first | (simp [frBel, blksBel, Blk.bel, AV.bel, bels, bels_append, bels_map, aSs_bel, aIs_bel, aBs_bel, aRs_bel, aDen_bel, cells_bel]; done) | (simp only [List.drop_zero, ← List.map_take, ← List.map_drop, List.map_map, frBel, blksBel, Blk.bel, AV.bel, bels, bels_append, bels_map, aSs_bel, aIs_bel, aBs_bel, aRs_bel, aDen_bel, cells_bel]; simp [AV.bel, aSs_bel, aIs_bel, aBs_bel, aRs_bel, aDen_bel, cells_bel])) (bels_td (bels_map.2 fun _ _ => aIs_bel _ _ _)) (by first | (simp [frBel, blksBel, Blk.bel, AV.bel, bels, bels_append, bels_map, aSs_bel, aIs_bel, aBs_bel, aRs_bel, aDen_bel, cells_bel]; done) | (simp only [List.drop_zero, ← List.map_take, ← List.map_drop, List.map_map, frBel, blksBel, Blk.bel, AV.bel, bels, bels_append, bels_map, aSs_bel, aIs_bel, aBs_bel, aRs_bel, aDen_bel, cells_bel]; simp [AV.bel, aSs_bel, aIs_bel, aBs_bel, aRs_bel, aDen_bel, cells_bel])) ?_⟩
      rw [td_all (by simp; omega)]
      show _ = ([.cells 0 d.cells, .cells 0 den0.cells, .fro 1 (names.map .str), .fro 1 (d.accept.map .bool), .cells 0 [aSs .any names, aBs .any d.accept, .hs 5 (i + 1) 0 (i + 1) 1], Blk.cells (i + 1) (((d.rows.take (i + 1)).map (ovRow names.length (placesOf called names))).map (aIs .any))] : List Blk)
      rw [List.take_succ_eq_append_getElem hlr, List.map_append, hrs, ga]
      simp [aIs, ovRow, hq, hf]
  · repeat first | refine opsStep ?_ | refine codeStep ?_ | refine drawStep ?_
    have : i = d.next.length := by have := h; simp at this; omega
    subst this
    obtain ⟨rs, hrs⟩ : ∃ rs, d.rows.map (ovRow names.length (placesOf called names)) = rs := ⟨_, rfl⟩
    have hrsl : rs.length = d.next.length := by rw [← hrs]; simp [hrl]
    have hfin : ∀ (nt : Fr), Ent nt (fr [(6, .ref 1 0 0)]) [.cells 0 d.cells, .cells 0 [aSs .any names, aBs .any d.accept, .hs 5 d.next.length 0 d.next.length 1], .fro 1 (names.map .str), .fro 1 (d.accept.map .bool), .cells 0 [aSs .any names, aBs .any d.accept, .hs 5 d.next.length 0 d.next.length 1],
          .cells d.next.length (rs.map (aIs .any))] (fr [(6, .ref 1 0 0)]) [.cells 0 d.cells, .cells 0 [aSs .any names, aBs .any d.accept, .sl .any d.next.length (rs.map (aIs .any))], .fro 1 (names.map .str), .fro 1 (d.accept.map .bool), .cells 0 [aSs .any names, aBs .any d.accept, .hs 5 d.next.length 0 d.next.length 1],
          .fro d.next.length (rs.map (aIs .any))] := fun nt => (Ent.freezeCell 1 2 (b := 5) rfl rfl rfl (by omega) (by simp [hrsl])).to rfl
    refine finH (l := [(6, .ref 1 0 0)]) ⟨(by kernel_rfl), trivial⟩ (Eq.trans (b := [.cells 0 d.cells, .cells 0 [aSs .any names, aBs .any d.accept, .hs 5 d.next.length 0 d.next.length 1], .fro 1 (names.map .str), .fro 1 (d.accept.map .bool), .cells 0 [aSs .any names, aBs .any d.accept, .hs 5 d.next.length 0 d.next.length 1], .cells d.next.length (((d.rows.take d.next.length).map (ovRow names.length (placesOf called names))).map (aIs .any))]) (by kernel_rfl) (by rw [← hrs, List.take_of_length_le (l := d.rows) (i := d.next.length) (by omega)])) (hfin _) ?_
    refine Eq.trans (b := some (.agg [aSs .any names, aBs .any d.accept, .sl .any d.next.length (rs.map (aIs .any))])) (by kernel_rfl) ?_
    rw [hrs]
    simp [aDen, Den.cells, aRs, hrsl, Function.comp_def]

end Tab

/- Layer 15: the fixed answers; the law TrackWidens. -/
namespace Tab
open Go Go.Proofs
set_option maxRecDepth 10000
set_option linter.unusedVariables false
set_option linter.unusedSimpArgs false
set_option linter.unusedSectionVars false

def evenD : Den := ⟨.any, [[120]], .any, [false, true, false], .any, [(.any, [1, 2]), (.any, [1, 1]), (.any, [2, 2])]⟩
def wideD : Den := ⟨.any, [[97], [120]], .any, [false, true, false], .any, [(.any, [1, 1, 2, 2]), (.any, [1, 1, 1, 1]), (.any, [2, 2, 2, 2])]⟩

theorem law15_even : Pure Try.prog 30 [] (aDen evenD) := by
  refine Pure.of_read (R := fun o H' => o = .ret (.agg [.hs 1 0 0 1 1, .hs 2 0 0 3 1, .hs 6 0 0 3 1]) ∧ H' = [.cells 0 [.hs 1 0 0 1 1, .hs 2 0 0 3 1, .hs 6 0 0 3 1], .cells 0 [.str [120]], .cells 0 [.bool false, .bool true, .bool false], .cells 0 [.int .i64 1, .int .i64 2], .cells 0 [.int .i64 1, .int .i64 1], .cells 0 [.int .i64 2, .int .i64 2], .cells 0 [.hs 3 0 0 2 1, .hs 4 0 0 2 1, .hs 5 0 0 2 1]])
    (by simp [closeds]) (aDen_closed _) ?_ ?_
  · refine ACall.of_sw 8 Try.func30 rfl Try.ntmps30 (by kernel_rfl) (Nat.le_of_ble_eq_true (by kernel_rfl)) ?_; refine SW.of_vc ?_
    repeat first | refine opsStep ?_ | refine codeStep ?_ | refine drawStep ?_
    refine optX_of (c := [.bool false, .bool true, .bool false]) (by kernel_rfl) ?_
    repeat first | refine opsStep ?_ | refine codeStep ?_ | refine drawStep ?_
    refine optX_of (c := [.int .i64 1, .int .i64 2]) (by kernel_rfl) ?_
    repeat first | refine opsStep ?_ | refine codeStep ?_ | refine drawStep ?_
    refine optX_of (c := [.int .i64 1, .int .i64 1]) (by kernel_rfl) ?_
    repeat first | refine opsStep ?_ | refine codeStep ?_ | refine drawStep ?_
    refine optX_of (c := [.int .i64 2, .int .i64 2]) (by kernel_rfl) ?_
    repeat first | refine opsStep ?_ | refine codeStep ?_ | refine drawStep ?_
    refine optX_of (c := [.hs 3 0 0 2 1, .hs 4 0 0 2 1, .hs 5 0 0 2 1]) (by kernel_rfl) ?_
    repeat first | refine opsStep ?_ | refine codeStep ?_ | refine drawStep ?_
    exact finR (l := [(0, .ref 0 0 0)]) ⟨(by kernel_rfl), trivial⟩ rfl (Ent.refl _ _ _) (by kernel_rfl) ⟨rfl, rfl⟩
  · rintro o H' ⟨rfl, rfl⟩
    exact ⟨_, rfl, .agg (.cons (Rd.whole rfl rfl) (.cons (Rd.whole rfl rfl) (.cons (.hs rfl rfl (by decide) (.cons (Rd.whole rfl rfl) (.cons (Rd.whole rfl rfl) (.cons (Rd.whole rfl rfl) .nil)))) .nil)))⟩

theorem evenD_ok : DenOk evenD := ⟨by decide, by decide, by decide, by decide, by decide⟩
theorem wideD_ok : DenOk wideD := ⟨by decide, by decide, by decide, by decide, by decide⟩

theorem even_widens : widenE evenD [[97], [120]] = 0 := widenE_ok (by kernel_rfl) (by kernel_rfl) (by decide) (by kernel_rfl)
theorem even_wide : sameD (widenR evenD [[97], [120]]) wideD = true := by
  rw [widenR_ok even_widens, sameD_eq]
  kernel_rfl
theorem widenR_ok_den {d : Den} {names : List (List UInt8)} (hd : DenOk d) (hn : names.length * 16 ≤ 140737488351232) (hns : ∀ s ∈ names, s.length ≤ 140737488351232) : DenOk (widenR d names) := by
  rw [widenR]
  split
  · rename_i h
    obtain ⟨_, _, hl, _⟩ := widenE_of_ok h
    refine ⟨hn, hns, hd.accept, ?_, ?_⟩
    · have := hd.next
      simpa [widenD, Den.rows] using this
    · intro r hr
      simp only [widenD, List.mem_map] at hr
      obtain ⟨r, ⟨x, _, rfl⟩, rfl⟩ := hr
      simp only [ovRow_length]
      have : 2 ^ names.length ≤ 2 ^ 6 := Nat.pow_le_pow_right (by omega) hl
      omega
  · exact ⟨by decide, by simp [den0], by decide, by decide, by simp [den0]⟩

theorem law15_fixed : Pure Try.prog 9 [] (.bool true) := by
  have hw := track_Widen_pure .any evenD [[97], [120]] evenD_ok (by decide) (by decide)
  have hok := widenR_ok_den (names := [[97], [120]]) evenD_ok (by decide) (by decide)
  have hsame := even_wide
  rw [even_widens] at hw
  generalize widenR evenD [[97], [120]] = w at *
  have hsd := r12_SameDense w wideD hok wideD_ok
  rw [hsame] at hsd
  refine Pure.of_sw 26 Try.func9 rfl Try.ntmps9 (by kernel_rfl) (Nat.le_of_ble_eq_true (by kernel_rfl)) (by simp [closeds, AV.closed, aSs_closed, aIs_closed, aBs_closed, aRs_closed, aDen_closed]) (by simp [AV.closed, closeds, aSs_closed, aIs_closed, aBs_closed, aRs_closed, aDen_closed]) ?_; refine SW.of_vc ?_
  repeat first | refine opsStep ?_ | refine codeStep ?_ | refine drawStep ?_
  refine callP law15_even ?_
  repeat first | refine opsStep ?_ | refine codeStep ?_ | refine drawStep ?_
  refine optX_of (c := [.str [97], .str [120]]) (by kernel_rfl) ?_
  repeat first | refine opsStep ?_ | refine codeStep ?_ | refine drawStep ?_
  refine callZ 0 (g := 0) (cs := [.str [97], .str [120]]) (by kernel_rfl) hw (.same (.hs (by kernel_rfl) (by kernel_rfl) .nil)) ?_
  repeat first | refine opsStep ?_ | refine codeStep ?_ | refine drawStep ?_
  refine optX_of (c := [.str [97], .str [120]]) (by kernel_rfl) ?_
  repeat first | refine opsStep ?_ | refine codeStep ?_ | refine drawStep ?_
  refine optX_of (c := [.bool false, .bool true, .bool false]) (by kernel_rfl) ?_
  repeat first | refine opsStep ?_ | refine codeStep ?_ | refine drawStep ?_
  refine optX_of (c := [.int .i64 1, .int .i64 1, .int .i64 2, .int .i64 2]) (by kernel_rfl) ?_
  repeat first | refine opsStep ?_ | refine codeStep ?_ | refine drawStep ?_
  refine optX_of (c := [.int .i64 1, .int .i64 1, .int .i64 1, .int .i64 1]) (by kernel_rfl) ?_
  repeat first | refine opsStep ?_ | refine codeStep ?_ | refine drawStep ?_
  refine optX_of (c := [.int .i64 2, .int .i64 2, .int .i64 2, .int .i64 2]) (by kernel_rfl) ?_
  repeat first | refine opsStep ?_ | refine codeStep ?_ | refine drawStep ?_
  refine optX_of (c := [.hs 4 0 0 4 1, .hs 5 0 0 4 1, .hs 6 0 0 4 1]) (by kernel_rfl) ?_
  repeat first | refine opsStep ?_ | refine codeStep ?_ | refine drawStep ?_
  refine callB hsd rfl (.cons (.refl _) (.cons (.agg (.cons (Rd.whole (g := 0) (by kernel_rfl) (by kernel_rfl)) (.cons (Rd.whole (g := 0) (by kernel_rfl) (by kernel_rfl)) (.cons (.hs (blk := .cells 0 [.hs 4 0 0 4 1, .hs 5 0 0 4 1, .hs 6 0 0 4 1]) (g := 0) (cs := [.hs 4 0 0 4 1, .hs 5 0 0 4 1, .hs 6 0 0 4 1]) (by kernel_rfl) (by kernel_rfl) (Nat.le_refl 3) (.cons (Rd.whole (g := 0) (by kernel_rfl) (by kernel_rfl)) (.cons (Rd.whole (g := 0) (by kernel_rfl) (by kernel_rfl)) (.cons (Rd.whole (g := 0) (by kernel_rfl) (by kernel_rfl)) .nil)))) .nil)))) .nil)) ?_
  repeat first | refine opsStep ?_ | refine codeStep ?_ | refine drawStep ?_
  exact finB (b' := true) (by kernel_rfl) rfl

end Tab

/- Tracks called otherwise. -/
namespace Tab
open Go Go.Proofs
set_option maxRecDepth 10000
set_option linter.unusedVariables false
set_option linter.unusedSimpArgs false
set_option linter.unusedSectionVars false

def twS (l : List (List UInt8)) : Bool := (List.range l.length).any fun i => !(decide (l.idxOf (l.getD i []) = i))
def allIn (l ts : List (List UInt8)) : Bool := l.all fun s => decide (s ∈ ts)
def calN (tr fm tt : List (List UInt8)) : Nat → List (List UInt8)
  | 0 => tr
  | i + 1 => (calN tr fm tt i).set (tr.idxOf (fm.getD i [])) (tt.getD i [])
theorem calN_length (tr fm tt) : ∀ i, (calN tr fm tt i).length = tr.length
  | 0 => rfl
  | i + 1 => by rw [calN, List.length_set, calN_length tr fm tt i]
def calS (tr fm tt : List (List UInt8)) : List (List UInt8) := calN tr fm tt fm.length
@[irreducible] def renE (d : Den) (fm tt : List (List UInt8)) : Int :=
  if (rightS d && decide (fm.length = tt.length)) = true then (if nonN tt = false then (if allIn fm d.tracks = true then (if twS fm = false then sortE (calS d.tracks fm tt) else 5) else 4) else 6) else 3
def renD (d : Den) (fm tt : List (List UInt8)) : Den := ⟨.any, sortR (calS d.tracks fm tt), .any, d.accept, .any, (d.rows.map (ovRow (sortR (calS d.tracks fm tt)).length (placesOf (calS d.tracks fm tt) (sortR (calS d.tracks fm tt))))).map fun r => (.any, r)⟩
@[irreducible] def renR (d : Den) (fm tt : List (List UInt8)) : Den := if renE d fm tt = 0 then renD d fm tt else den0

theorem ren_shape {d fm tt} (h : rightS d = false ∨ fm.length ≠ tt.length) : renE d fm tt = 3 := by
  rw [renE, if_neg]; rcases h with h | h <;> simp [h]
theorem ren_name {d fm tt} (h1 : rightS d = true) (h2 : fm.length = tt.length) (h : nonN tt = true) : renE d fm tt = 6 := by
  rw [renE, h1, decide_eq_true h2, h]; rfl
theorem ren_none {d fm tt} (h1 : rightS d = true) (h2 : fm.length = tt.length) (h3 : nonN tt = false) (h : allIn fm d.tracks = false) : renE d fm tt = 4 := by
  rw [renE, h1, decide_eq_true h2, h3, h]; rfl
theorem ren_twice {d fm tt} (h1 : rightS d = true) (h2 : fm.length = tt.length) (h3 : nonN tt = false) (h4 : allIn fm d.tracks = true) (h : twS fm = true) : renE d fm tt = 5 := by
  rw [renE, h1, decide_eq_true h2, h3, h4, h]; rfl
theorem ren_sort {d fm tt} (h1 : rightS d = true) (h2 : fm.length = tt.length) (h3 : nonN tt = false) (h4 : allIn fm d.tracks = true) (h : twS fm = false) : renE d fm tt = sortE (calS d.tracks fm tt) := by
  rw [renE, h1, decide_eq_true h2, h3, h4, h]; rfl
theorem renR_bad {d fm tt} (h : renE d fm tt ≠ 0) : renR d fm tt = den0 := by rw [renR, if_neg h]
theorem renR_ok {d fm tt} (h : renE d fm tt = 0) : renR d fm tt = renD d fm tt := by rw [renR, if_pos h]

theorem idxS_lt {l : List (List UInt8)} {s : List UInt8} : idxS l s < 0 ↔ s ∉ l := by
  rw [idxS]
  split
  · rename_i h
    have := List.idxOf_lt_length_iff.1 h
    simp [this]
  · rename_i h
    simp only [List.idxOf_lt_length_iff] at h
    simp [h]
theorem idxS_mem {l : List (List UInt8)} {s : List UInt8} (h : s ∈ l) : idxS l s = (l.idxOf s : Nat) := by
  rw [idxS, if_pos (List.idxOf_lt_length_of_mem h)]

theorem track_over_pure (kn kp : SK) (d : Den) (names : List (List UInt8)) (pl : List Nat) (hd : DenOk d) (hn : names.length ≤ 6) (hp : pl.length ≤ 6) (hpl : ∀ p ∈ pl, p < 6) (hrow : ∀ r ∈ d.next, r.2.length = 2 ^ pl.length) :
    Pure Try.prog 34 [aDen d, aSs kn names, aIs kp (pl.map fun p : Nat => (p : Int))] (aDen ⟨.any, names, .any, d.accept, .any, (d.rows.map (ovRow names.length pl)).map fun r => (.any, r)⟩) := by
  refine Pure.of_read (by simp [closeds, aDen_closed, aSs_closed, aIs_closed]) (aDen_closed _) (track_over kn kp d names pl _ rfl hd hn hp hpl hrow) ?_
  rintro o H' ⟨rfl, x, rfl⟩
  have hl : (d.rows.map (ovRow names.length pl)).length = d.next.length := by simp [Den.rows]
  refine ⟨_, rfl, rd_den (base := 6) (n := 2 ^ names.length) rfl rfl ?_ (fun j r hj => ?_) rfl rfl hl.symm⟩
  · rw [hl]; rfl
  · have hj' := List.getElem?_eq_some_iff.1 hj
    refine ⟨?_, ?_⟩
    · rw [List.getElem?_append_right (by simp)]
      simp only [List.length_cons, List.length_nil, ovBlks, List.getElem?_map]
      rw [show 6 + j - (0 + 1 + 1 + 1 + 1 + 1 + 1) = j by omega]
      rw [List.getElem?_map] at hj
      rw [hj]; rfl
    · rw [List.getElem?_map, Option.map_eq_some_iff] at hj
      obtain ⟨y, _, rfl⟩ := hj
      exact ovRow_length _ _ _

end Tab

/- Rename, of the code. -/
namespace Tab
open Go Go.Proofs
set_option maxRecDepth 10000
set_option linter.unusedVariables false
set_option linter.unusedSimpArgs false
set_option linter.unusedSectionVars false

theorem calS_mem {tr fm tt : List (List UInt8)} (n : Nat) (hn : ∀ s ∈ tr, s.length ≤ 140737488351232) (ht : ∀ s ∈ tt, s.length ≤ 140737488351232) : ∀ i, ∀ s ∈ calN tr fm tt i, s.length ≤ 140737488351232
  | 0 => hn
  | i + 1 => fun s hs => by
    rw [calN] at hs
    rcases List.mem_or_eq_of_mem_set hs with h | h
    · exact calS_mem n hn ht i s h
    · subst h
      cases e : tt[i]? with
      | none => simp [List.getD_eq_getElem?_getD, e]
      | some x => simp only [List.getD_eq_getElem?_getD, e, Option.getD_some]; exact ht x (List.mem_of_getElem? e)

end Tab

/- Rename, of the document. -/
namespace Tab
open Go Go.Proofs
set_option maxRecDepth 10000
set_option linter.unusedVariables false
set_option linter.unusedSimpArgs false
set_option linter.unusedSectionVars false

theorem tw_bad {l : List (List UInt8)} {i : Nat} (hi : i < l.length) (h : l.idxOf l[i] ≠ i) : twS l = true := by
  rw [twS, List.any_eq_true]
  refine ⟨i, List.mem_range.2 hi, ?_⟩
  simp [List.getD_eq_getElem?_getD, hi, h]
theorem tw_ok {l : List (List UInt8)} (h : ∀ j, j < l.length → l.idxOf (l.getD j []) = j) : twS l = false := by
  rw [twS, List.any_eq_false]
  intro j hj
  rw [h j (List.mem_range.1 hj), decide_eq_true rfl]
  simp

end Tab

/- A machine's copy. -/
namespace Tab
open Go Go.Proofs
set_option maxRecDepth 10000
set_option linter.unusedVariables false
set_option linter.unusedSimpArgs false
set_option linter.unusedSectionVars false

theorem copyD_rows (d : Den) : (copyD d).rows = d.rows := by simp [copyD, Den.rows, Function.comp_def]
theorem copyD_ok {d : Den} (hd : DenOk d) : DenOk (copyD d) := by
  refine ⟨hd.tracks, hd.names, hd.accept, ?_, ?_⟩
  · have := hd.next
    simpa [copyD, Den.rows] using this
  · intro r hr
    simp only [copyD, Den.rows, List.mem_map] at hr
    obtain ⟨x, ⟨y, hy, rfl⟩, rfl⟩ := hr
    exact hd.rows y hy
theorem copyD_right (d : Den) : rightS (copyD d) = rightS d := by
  simp only [rightS, copyD, Den.rows, List.length_map, List.all_map, Function.comp_def]
theorem copyD_same (d : Den) : sameD (copyD d) d = true := by
  rw [sameD_eq, copyD_rows]; simp [copyD]
theorem sameD_refl (d : Den) : sameD d d = true := by rw [sameD_eq]; simp

theorem den0_ok : DenOk den0 := ⟨by decide, by simp [den0], by decide, by decide, by simp [den0]⟩


end Tab

/- Layer 15: the law TrackRenames. -/
namespace Tab
open Go Go.Proofs
set_option maxRecDepth 10000
set_option linter.unusedVariables false
set_option linter.unusedSimpArgs false
set_option linter.unusedSectionVars false

theorem copyD_renE (d : Den) (fm tt) : renE (copyD d) fm tt = renE d fm tt := by
  rw [renE, renE, copyD_right]; rfl
theorem copyD_renR (d : Den) (fm tt) : renR (copyD d) fm tt = renR d fm tt := by
  rw [renR, renR, copyD_renE, renD, renD, copyD_rows]; rfl
theorem renR_den {d : Den} {fm tt : List (List UInt8)} (hd : DenOk d) (hts : ∀ s ∈ tt, s.length ≤ 140737488351232) : DenOk (renR d fm tt) := by
  rw [renR]
  split
  · rename_i h
    have h0 : rightS d = true := by
      cases e : rightS d with
      | true => rfl
      | false => rw [ren_shape (.inl e)] at h; omega
    have hk := tracksS_le (rightS_parts h0).1
    have hcl : (calS d.tracks fm tt).length = d.tracks.length := calN_length ..
    have hsl : (sortR (calS d.tracks fm tt)).length ≤ 6 := by
      rw [sortR]
      split
      · have := tog_len (calS d.tracks fm tt); omega
      · simp
    refine ⟨by show (sortR _).length * 16 ≤ _; omega, fun s hs => ?_, hd.accept, ?_, ?_⟩
    · have hs : s ∈ sortR (calS d.tracks fm tt) := hs
      rw [sortR] at hs
      split at hs
      · exact calS_mem 0 hd.names hts _ s ((tog_mem _ _).1 hs)
      · simp at hs
    · have := hd.next
      simpa [renD, Den.rows] using this
    · intro r hr
      simp only [renD, List.mem_map] at hr
      obtain ⟨r, ⟨x, _, rfl⟩, rfl⟩ := hr
      simp only [ovRow_length]
      have : 2 ^ (sortR (calS d.tracks fm tt)).length ≤ 2 ^ 6 := Nat.pow_le_pow_right (by omega) hsl
      omega
  · exact den0_ok

end Tab

/- Renamed and back, widened twice: the plain law. -/
namespace Tab
open Go Go.Proofs
set_option maxRecDepth 10000
set_option linter.unusedVariables false
set_option linter.unusedSimpArgs false
set_option linter.unusedSectionVars false

theorem gat_bit (a : Nat) : ∀ (l : List Nat) (i : Nat) (h : i < l.length), gatN a l / 2 ^ i % 2 = a / 2 ^ l[i] % 2
  | p :: l, 0, _ => by simp only [gatN, Nat.pow_zero, Nat.div_one, List.getElem_cons_zero]; omega
  | p :: l, i + 1, h => by
    have ih := gat_bit a l i (by simpa using h)
    simp only [gatN, List.getElem_cons_succ]
    rw [Nat.pow_succ, Nat.mul_comm (2 ^ i) 2, ← Nat.div_div_eq_div_mul, show (a / 2 ^ p % 2 + 2 * gatN a l) / 2 = gatN a l by omega]
    exact ih
theorem gat_comp (a : Nat) (A : List Nat) : ∀ (B : List Nat), (∀ b ∈ B, b < A.length) → gatN (gatN a A) B = gatN a (B.map fun b => A.getD b 0)
  | [], _ => rfl
  | b :: B, h => by
    have hb := h b (by simp)
    rw [List.map_cons, gatN, gatN, gat_comp a A B fun x hx => h x (by simp [hx]), gat_bit a A b hb]
    simp [List.getD_eq_getElem?_getD, hb]
theorem gat_from (a : Nat) : ∀ (n k : Nat), gatN a (List.range' k n) = a / 2 ^ k % 2 ^ n
  | 0, k => by simp [gatN, Nat.mod_one]
  | n + 1, k => by
    rw [List.range'_succ, gatN, gat_from a n (k + 1), Nat.pow_succ 2 k, ← Nat.div_div_eq_div_mul, show 2 ^ (n + 1) = 2 * 2 ^ n by rw [Nat.pow_succ, Nat.mul_comm], Nat.mod_mul]
theorem gat_range {a n : Nat} (h : a < 2 ^ n) : gatN a (List.range n) = a := by
  rw [List.range_eq_range', gat_from, Nat.pow_zero, Nat.div_one, Nat.mod_eq_of_lt h]

theorem ovRow_comp (n k : Nat) (A B : List Nat) (r : List Int) (hA : A.length = k) (hB : ∀ b ∈ B, b < k) : ovRow n A (ovRow k B r) = ovRow n (B.map fun b => A.getD b 0) r := by
  rw [ovRow, ovRow]
  refine List.map_congr_left fun a _ => ?_
  have h := gatN_lt a A
  rw [hA] at h
  rw [← gat_comp a A B (by rw [hA]; exact hB)]
  simp [ovRow, List.getD_eq_getElem?_getD, h]
theorem ovRow_id {n : Nat} {r : List Int} (h : r.length = 2 ^ n) : ovRow n (List.range n) r = r := by
  refine List.ext_getElem (by simp [ovRow, h]) fun i h1 h2 => ?_
  simp only [ovRow, List.getElem_map, List.getElem_range]
  rw [gat_range (by omega)]
  simp [List.getD_eq_getElem?_getD, h2]

theorem rises_names {r : List (List UInt8)} (h : risesS r = true) : ∀ s ∈ r, nameS s = true := by
  intro s hs
  obtain ⟨i, hi, rfl⟩ := List.getElem_of_mem hs
  have := List.all_eq_true.1 h i (List.mem_range.2 hi)
  simp only [badAt, Bool.not_eq_true', Bool.or_eq_false_iff, Bool.not_eq_false'] at this
  simpa [List.getD_eq_getElem?_getD, hi] using this.1
theorem strict_rises {r : List (List UInt8)} (hs : Strict r) (hn : ∀ s ∈ r, nameS s = true) : risesS r = true := by
  refine rises_ok fun j hj => ?_
  have e : r.getD j [] = r[j] := by simp [List.getD_eq_getElem?_getD, hj]
  rw [badAt, e, hn _ (List.getElem_mem hj)]
  by_cases h0 : 0 < j
  · have := List.pairwise_iff_getElem.1 hs (j - 1) j (by omega) hj (by omega)
    have e2 : r.getD (j - 1) [] = r[j - 1] := by simp [List.getD_eq_getElem?_getD, show j - 1 < r.length by omega]
    rw [e2, show Op.bytesLess r[j - 1] r[j] = true from this]
    simp
  · simp [h0]

theorem idx_get {l : List (List UInt8)} (h : l.Nodup) {i : Nat} (hi : i < l.length) : l.idxOf l[i] = i := by
  have hm := List.idxOf_lt_length_of_mem (List.getElem_mem hi)
  have e := List.getElem_idxOf hm
  rcases Nat.lt_trichotomy (l.idxOf l[i]) i with h1 | h1 | h1
  · exact absurd e (List.pairwise_iff_getElem.1 h _ _ hm hi h1)
  · exact h1
  · exact absurd e.symm (List.pairwise_iff_getElem.1 h _ _ hi hm h1)
theorem places_self {l : List (List UInt8)} (h : l.Nodup) : placesOf l l = List.range l.length := by
  refine List.ext_getElem (by simp [placesOf]) fun i h1 h2 => ?_
  simp only [placesOf, List.getElem_map, List.getElem_range]
  exact idx_get h (by simpa [placesOf] using h1)
theorem tw_nodup {l : List (List UInt8)} (h : l.Nodup) : twS l = false := tw_ok fun j hj => by
  rw [show l.getD j [] = l[j] by simp [List.getD_eq_getElem?_getD, hj]]
  exact idx_get h hj
theorem tw_false {l : List (List UInt8)} (h : twS l = false) : l.Nodup := by
  have h0 := List.any_eq_false.1 h
  refine List.pairwise_iff_getElem.2 fun i j hi hj hij e => ?_
  have k1 := h0 i (List.mem_range.2 hi)
  have k2 := h0 j (List.mem_range.2 hj)
  rw [show l.getD i [] = l[i] by simp [List.getD_eq_getElem?_getD, hi]] at k1
  rw [show l.getD j [] = l[j] by simp [List.getD_eq_getElem?_getD, hj]] at k2
  have k1 : l.idxOf l[i] = i := by simpa using k1
  have k2 : l.idxOf l[j] = j := by simpa using k2
  rw [e] at k1
  omega

end Tab

/- Renamed and back, widened twice: the machines. -/
namespace Tab
open Go Go.Proofs
set_option maxRecDepth 10000
set_option linter.unusedVariables false
set_option linter.unusedSimpArgs false
set_option linter.unusedSectionVars false

def ovD (d : Den) (names : List (List UInt8)) (P : List Nat) : Den := ⟨.any, names, .any, d.accept, .any, (d.rows.map (ovRow names.length P)).map fun r => (.any, r)⟩
theorem ovD_rows (d names P) : (ovD d names P).rows = d.rows.map (ovRow names.length P) := by simp [ovD, Den.rows, Function.comp_def]
theorem widenD_ov (d names) : widenD d names = ovD d names (placesOf d.tracks names) := rfl
theorem renD_ov (d fm tt) : renD d fm tt = ovD d (sortR (calS d.tracks fm tt)) (placesOf (calS d.tracks fm tt) (sortR (calS d.tracks fm tt))) := rfl
theorem ovD_right {d : Den} {names : List (List UInt8)} {P : List Nat} (h : rightS d = true) (h1 : names.length ≤ 6) (h2 : risesS names = true) (hP : P.length = d.tracks.length) : rightS (ovD d names P) = true := by
  obtain ⟨k1, k2, k3⟩ := rightS_parts h
  obtain ⟨_, _, k4, k5⟩ := tracksS_parts k1
  rw [rightS, show (ovD d names P).tracks = names from rfl, show (ovD d names P).accept = d.accept from rfl, tracksS_mk h1 h2 k4 k5]
  have e : (ovD d names P).next.length = d.accept.length := by simp [ovD, Den.rows, k2]
  rw [decide_eq_true e, Bool.true_and, Bool.true_and, List.all_eq_true]
  intro r hr
  simp only [ovD, Den.rows, List.mem_map] at hr
  obtain ⟨_, ⟨_, ⟨x, hx, rfl⟩, rfl⟩, rfl⟩ := hr
  obtain ⟨l1, l2⟩ := rowOk_parts (k3 x hx)
  rw [rowOk, decide_eq_true (ovRow_length _ _ _), Bool.true_and, List.all_eq_true]
  intro y hy
  simp only [ovRow, List.mem_map, List.mem_range] at hy
  obtain ⟨a, _, rfl⟩ := hy
  have hg := gatN_lt a P
  rw [hP, ← l1] at hg
  have := l2 _ (List.getElem_mem hg)
  simp [List.getD_eq_getElem?_getD, hg]
  exact this
theorem ovD_same {d e : Den} {names : List (List UInt8)} {P : List Nat} (h1 : names = e.tracks) (h2 : d.accept = e.accept) (h3 : d.rows.map (ovRow names.length P) = e.rows) : sameD (ovD d names P) e = true := by
  rw [sameD_eq, ovD_rows, h3]
  simp [ovD, h1, h2]
theorem rows_id {d : Den} (h : rightS d = true) : d.rows.map (ovRow d.tracks.length (List.range d.tracks.length)) = d.rows := by
  have : ∀ r ∈ d.rows, ovRow d.tracks.length (List.range d.tracks.length) r = r := fun r hr => ovRow_id (rows_len h r hr)
  rw [List.map_congr_left this, List.map_id']

theorem strict_tog {l : List (List UInt8)} (h : Strict l) : togS l = l := strict_eq (tog_strict l) h fun x => tog_mem l x
theorem inAll_iff {a b : List (List UInt8)} : inAll a b = true ↔ ∀ s ∈ a, s ∈ b := by simp [inAll]
theorem allIn_iff {a b : List (List UInt8)} : allIn a b = true ↔ ∀ s ∈ a, s ∈ b := by simp [allIn]
theorem nonN_iff {a : List (List UInt8)} : nonN a = false ↔ ∀ s ∈ a, nameS s = true := by simp [nonN]

theorem widen_self {d : Den} (h : rightS d = true) : widenE d d.tracks = 0 ∧ sameD (widenR d d.tracks) d = true := by
  obtain ⟨k1, _, _⟩ := rightS_parts h
  obtain ⟨k2, k3, _, _⟩ := tracksS_parts k1
  have h0 := widenE_ok h k3 k2 (inAll_iff.2 fun s hs => hs)
  refine ⟨h0, ?_⟩
  rw [widenR_ok h0, widenD_ov, places_self (strict_nodup (rises_strict k3))]
  exact ovD_same rfl rfl (rows_id h)

theorem calN_self {tr : List (List UInt8)} (h : tr.Nodup) : ∀ i, i ≤ tr.length → calN tr tr tr i = tr
  | 0, _ => rfl
  | i + 1, hi => by
    have e : tr.getD i [] = tr[i] := by simp [List.getD_eq_getElem?_getD, show i < tr.length by omega]
    rw [calN, calN_self h i (by omega), e, idx_get h]
    simp
theorem ren_self {d : Den} (h : rightS d = true) : renE d d.tracks d.tracks = 0 ∧ sameD (renR d d.tracks d.tracks) d = true := by
  obtain ⟨k1, _, _⟩ := rightS_parts h
  obtain ⟨k2, k3, _, _⟩ := tracksS_parts k1
  have hs := rises_strict k3
  have hnd := strict_nodup hs
  have hn := nonN_iff.2 (rises_names k3)
  have hc : calS d.tracks d.tracks d.tracks = d.tracks := calN_self hnd _ (Nat.le_refl _)
  have ht := strict_tog hs
  obtain ⟨s1, s2⟩ := sort_fine hn (by rw [ht])
  have h0 : renE d d.tracks d.tracks = 0 := by
    rw [ren_sort h rfl hn (allIn_iff.2 fun s hs => hs) (tw_nodup hnd), hc]
    exact s1
  refine ⟨h0, ?_⟩
  rw [renR_ok h0, renD_ov, hc, s2, ht, places_self hnd]
  exact ovD_same rfl rfl (rows_id h)

theorem widen_twice {d : Den} {more all : List (List UInt8)} (h1 : widenE d more = 0) (h2 : widenE (widenR d more) all = 0) : widenE d all = 0 ∧ sameD (widenR d all) (widenR (widenR d more) all) = true := by
  obtain ⟨hr, r1, l1, i1⟩ := widenE_of_ok h1
  obtain ⟨_, r2, l2, i2⟩ := widenE_of_ok h2
  have hk := tracksS_parts (rightS_parts hr).1
  have i1 := inAll_iff.1 i1
  have i2 := inAll_iff.1 i2
  have htm : (widenR d more).tracks = more := by rw [widenR_ok h1]; rfl
  rw [htm] at i2
  have h0 := widenE_ok hr r2 l2 (inAll_iff.2 fun s hs => i2 s (i1 s hs))
  refine ⟨h0, ?_⟩
  rw [widenR_ok h0, widenR_ok h2, widenD_ov, widenD_ov, htm]
  refine ovD_same rfl ?_ ?_
  · rw [widenR_ok h1]; rfl
  · rw [ovD_rows, widenR_ok h1, widenD_ov, ovD_rows, List.map_map]
    refine List.map_congr_left fun r _ => ?_
    rw [Function.comp_apply, ovRow_comp _ _ _ _ _ (by simp [placesOf]) (fun b hb => ?_)]
    · congr 1
      refine List.ext_getElem (by simp [placesOf]) fun i q1 q2 => ?_
      have hi : i < d.tracks.length := by simpa [placesOf] using q1
      have hm := List.idxOf_lt_length_of_mem (i1 _ (List.getElem_mem hi))
      simp only [placesOf, List.getElem_map, List.getD_eq_getElem?_getD, List.getElem?_map, List.getElem?_eq_getElem hm, Option.map_some, Option.getD_some]
      rw [List.getElem_idxOf hm]
    · obtain ⟨s, hs, rfl⟩ := List.mem_map.1 hb
      exact List.idxOf_lt_length_of_mem (i1 s hs)

end Tab

/- Places in a list of numbers. -/
namespace Tab
open Go Go.Proofs
set_option maxRecDepth 10000
set_option linter.unusedVariables false
set_option linter.unusedSimpArgs false
set_option linter.unusedSectionVars false

def idxI (l : List Int) (s : Int) : Int := if l.idxOf s < l.length then (l.idxOf s : Int) else -1
theorem idxI_hit {l : List Int} {s : Int} {i : Nat} (hi : i < l.length) (hn : s ∉ l.take i) (h : l[i] = s) : idxI l s = i := by
  have e : l = l.take i ++ l[i] :: l.drop (i + 1) := by simp
  have : l.idxOf s = i := by
    rw [e, List.idxOf_append, if_neg hn, h, List.idxOf_cons_self]
    simp; omega
  rw [idxI, this, if_pos hi]
theorem idxI_miss {l : List Int} {s : Int} (h : s ∉ l) : idxI l s = -1 := by
  rw [idxI, List.idxOf_eq_length h, if_neg (by omega)]

theorem slices_Index_I (k : SK) (l : List Int) (s : Int) (hl : l.length < 2^62) : Pure Try.prog 70 [aIs k l, .int .i64 s] (.int .i64 (idxI l s)) := by
  refine Pure.of_sw 19 Try.func70 rfl Try.ntmps70 (by kernel_rfl) (Nat.le_of_ble_eq_true (by kernel_rfl)) (by simp [closeds, AV.closed, aSs_closed, aIs_closed, aBs_closed, aRs_closed, aDen_closed]) (by simp [AV.closed, closeds, aSs_closed, aIs_closed, aBs_closed, aRs_closed, aDen_closed]) ?_; refine SW.of_vc ?_
  repeat first | refine opsStep ?_ | refine codeStep ?_ | refine drawStep ?_
  refine loopE_of (ι := {i : Nat // i ≤ l.length ∧ s ∉ l.take i}) (fun i => (fr [(0, aIs k l), (1, .int .i64 s), (7, .int .i64 l.length), (8, .int .i64 i.1)], [])) (fun i => l.length - i.1) ⟨0, by omega, by simp⟩ (Ent.fr' ⟨(by kernel_rfl), (by kernel_rfl), (by kernel_rfl), (by kernel_rfl), trivial⟩ (by kernel_rfl)) ?_
  rintro ⟨i, hi, hpre⟩
  repeat first | refine opsStep ?_ | refine codeStep ?_ | refine drawStep ?_
  refine decB_dec (fun h => ?_) (fun h => ?_)
  · have hia : i < l.length := by simpa using h
    repeat first | refine opsStep ?_ | refine codeStep ?_ | refine drawStep ?_
    refine guardE_of (by simp; omega) ?_
    repeat first | refine opsStep ?_ | refine codeStep ?_ | refine drawStep ?_
    refine optE_of (c := .int .i64 l[i]) (by simp [Value.cells, hia]) ?_
    repeat first | refine opsStep ?_ | refine codeStep ?_ | refine drawStep ?_
    refine decB_dec (fun h => ?_) (fun h => ?_)
    · repeat first | refine opsStep ?_ | refine codeStep ?_ | refine drawStep ?_
      exact finV (v' := .int .i64 i) (by kernel_rfl) (by rw [idxI_hit hia hpre h.symm])
    · repeat first | refine opsStep ?_ | refine codeStep ?_ | refine drawStep ?_
      refine ⟨⟨i + 1, by omega, ?_⟩, (by show l.length - (i + 1) < l.length - i; omega), Ent.fr' ⟨(by kernel_rfl), (by kernel_rfl), (by kernel_rfl), inc_slot (i := i) (by omega), trivial⟩ (by kernel_rfl)⟩
      rw [List.take_succ_eq_append_getElem hia]
      exact fun e => (List.mem_append.1 e).elim hpre (fun e => h (List.mem_singleton.1 e))
  · repeat first | refine opsStep ?_ | refine codeStep ?_ | refine drawStep ?_
    have : i = l.length := by simp at h; omega
    exact finV (v' := .int .i64 (-1)) (by kernel_rfl) (by subst this; rw [List.take_length] at hpre; rw [idxI_miss hpre])

end Tab

/- A machine's copy, widened. -/
namespace Tab
open Go Go.Proofs
set_option maxRecDepth 10000
set_option linter.unusedVariables false
set_option linter.unusedSimpArgs false
set_option linter.unusedSectionVars false

theorem copyD_widenE (d : Den) (names) : widenE (copyD d) names = widenE d names := by
  rw [widenE, widenE, copyD_right]; rfl
theorem copyD_widenD (d : Den) (names) : widenD (copyD d) names = widenD d names := by
  rw [widenD, widenD, copyD_rows]; rfl
theorem copyD_widenR (d : Den) (names) : widenR (copyD d) names = widenR d names := by
  rw [widenR, widenR, copyD_widenE, copyD_widenD]

end Tab

/- slices.Compact, glyph.Union. -/
namespace Tab
open Go Go.Proofs
set_option maxRecDepth 10000
set_option linter.unusedVariables false
set_option linter.unusedSimpArgs false
set_option linter.unusedSectionVars false

/-- Does the place i begin a run of equal ones? -/
def newAt (l : List (List UInt8)) (i : Nat) : Bool := decide (i = 0) || decide (l.getD i [] ≠ l.getD (i - 1) [])
def keepN (l : List (List UInt8)) (j : Nat) : List (List UInt8) := ((List.range j).filter (newAt l)).map fun i => l.getD i []
theorem keep_new {l j} (h : newAt l j = true) : keepN l (j + 1) = keepN l j ++ [l.getD j []] := by
  rw [keepN, List.range_succ, List.filter_append, List.map_append]; simp [h, keepN]
theorem keep_old {l j} (h : newAt l j = false) : keepN l (j + 1) = keepN l j := by
  rw [keepN, List.range_succ, List.filter_append, List.map_append]; simp [h, keepN]
theorem keep_le (l j) : (keepN l j).length ≤ j := by
  rw [keepN, List.length_map]; have := List.length_filter_le (newAt l) (List.range j); simpa using this
theorem keep_take {l : List (List UInt8)} : ∀ {j : Nat}, j ≤ l.length → (∀ i, i < j → newAt l i = true) → keepN l j = l.take j
  | 0, _, _ => by simp [keepN]
  | j + 1, hj, h => by
    rw [keep_new (h j (by omega)), keep_take (by omega) fun i hi => h i (by omega), List.take_succ_eq_append_getElem (by omega)]
    simp [List.getD_eq_getElem?_getD, show j < l.length by omega]
theorem keep_mem {l : List (List UInt8)} {x : List UInt8} : ∀ {j : Nat}, j ≤ l.length → (x ∈ keepN l j ↔ x ∈ l.take j)
  | 0, _ => by simp [keepN]
  | j + 1, hj => by
    have ih := keep_mem (l := l) (x := x) (j := j) (by omega)
    have hg : l.getD j [] = l[j] := by simp [List.getD_eq_getElem?_getD, show j < l.length by omega]
    rw [List.take_succ_eq_append_getElem (show j < l.length by omega), List.mem_append, List.mem_singleton]
    cases h : newAt l j with
    | true => rw [keep_new h, List.mem_append, List.mem_singleton, ih, hg]
    | false =>
      rw [keep_old h, ih]
      simp only [newAt, Bool.or_eq_false_iff, decide_eq_false_iff_not, Decidable.not_not] at h
      constructor
      · exact .inl
      · rintro (h1 | h1)
        · exact h1
        · rw [h1, ← hg, h.2]
          have : j - 1 < l.length := by omega
          have e : l.getD (j - 1) [] = (l.take j)[j - 1]'(by simp; omega) := by simp [List.getD_eq_getElem?_getD, this]
          rw [e]; exact List.getElem_mem _

theorem new_lt1 (l) {i : Nat} (h : i < 1) : newAt l i = true := by
  have : i = 0 := by omega
  subst this; rfl

theorem slices_Compact (l : List (List UInt8)) (hl : l.length < 2^40) : ACall Try.prog 51 [.hs 0 0 0 l.length 1] [.cells 0 (l.map .str)]
    fun o H' => o = .ret (.hs 0 0 0 (keepN l l.length).length 1) ∧ H' = [.cells 0 ((keepN l l.length ++ List.replicate (l.length - (keepN l l.length).length) []).map .str)] := by
  have hfull : (∀ i, i < l.length → newAt l i = true) → keepN l l.length = l := fun h => by rw [keep_take (Nat.le_refl _) h, List.take_length]
  refine ACall.of_sw 61 Try.func51 rfl Try.ntmps51 (by kernel_rfl) (Nat.le_of_ble_eq_true (by kernel_rfl)) ?_; refine SW.of_vc ?_
  repeat first | refine opsStep ?_ | refine codeStep ?_ | refine drawStep ?_
  refine decB_dec (fun h => ?_) (fun h => ?_)
  · have hk := hfull fun i hi => by
      have : i = 0 := by omega
      subst this; rfl
    repeat first | refine opsStep ?_ | refine codeStep ?_ | refine drawStep ?_
    refine finR (l := [(2, .hs 0 0 0 l.length 1)]) (H₁ := [Blk.cells 0 ((l).map .str)]) (v := .hs 0 0 0 l.length 1) ⟨(by kernel_rfl), trivial⟩ (by kernel_rfl) (Ent.refl _ _ _) (by kernel_rfl) ?_
    rw [hk]; simp
  repeat first | refine opsStep ?_ | refine codeStep ?_ | refine drawStep ?_
  refine loopE_of (ι := {k : Nat // 1 ≤ k ∧ k ≤ l.length ∧ ∀ i, i < k → newAt l i = true}) (fun k => (fr [(0, .hs 0 0 0 l.length 1), (3, .int .i64 k.1)], [Blk.cells 0 ((l).map .str)])) (fun k => l.length - k.1)
    ⟨1, by omega, by omega, fun i hi => new_lt1 l hi⟩ (Ent.fr' ⟨(by kernel_rfl), (by kernel_rfl), trivial⟩ (by kernel_rfl)) ?_
  rintro ⟨k, hk1, hkl, hpre⟩
  repeat first | refine opsStep ?_ | refine codeStep ?_ | refine drawStep ?_
  refine decB_dec (fun hkn => ?_) (fun hkn => ?_)
  · have hkn : k < l.length := by have := hkn; simp at this; omega
    have hw : IntKind.wrap .i64 ((k : Int) - 1) = k - 1 := IntWalk.i64_in _ (by omega)
    have g0 : l.getD k [] = l[k] := by simp [List.getD_eq_getElem?_getD, hkn]
    have g1 : l.getD (k - 1) [] = l[k - 1] := by simp [List.getD_eq_getElem?_getD, show k - 1 < l.length by omega]
    repeat first | refine opsStep ?_ | refine codeStep ?_ | refine drawStep ?_
    refine SW.drawn rfl (by kernel_rfl) ?_
    repeat first | refine opsStep ?_ | refine codeStep ?_ | refine drawStep ?_
    refine guardE_of (by simp; omega) ?_
    repeat first | refine opsStep ?_ | refine codeStep ?_ | refine drawStep ?_
    refine optE_of (c := .str l[k]) (by simp [Value.cells, hkn]) ?_
    repeat first | refine opsStep ?_ | refine codeStep ?_ | refine drawStep ?_
    refine guardE_of (by rw [hw]; omega) ?_
    repeat first | refine opsStep ?_ | refine codeStep ?_ | refine drawStep ?_
    refine optE_of (c := .str l[k - 1]) (by rw [hw]; simp [Value.cells, show ((k : Int) - 1).toNat = k - 1 by omega, show k - 1 < l.length by omega]) ?_
    repeat first | refine opsStep ?_ | refine codeStep ?_ | refine drawStep ?_
    refine ⟨by kernel_rfl, ?_⟩
    repeat first | refine opsStep ?_ | refine codeStep ?_ | refine drawStep ?_
    refine decB_dec (fun he => ?_) (fun he => ?_)
    · have hnew : newAt l k = false := by rw [newAt, g0, g1, he]; simp; omega
      repeat first | refine opsStep ?_ | refine codeStep ?_ | refine drawStep ?_
      refine guardE_of ⟨by simp; omega, .inr (by simp; omega)⟩ ?_
      repeat first | refine opsStep ?_ | refine codeStep ?_ | refine drawStep ?_
      refine loopE_of (ι := {x : Nat × Nat × List (List UInt8) // 1 ≤ x.2.1 ∧ x.2.1 ≤ l.length - k ∧ x.1 + 1 ≤ k + x.2.1 ∧ x.2.2.length = l.length ∧ x.2.2.take x.1 = keepN l (k + x.2.1) ∧ (keepN l (k + x.2.1)).length = x.1 ∧ ∀ i, k + x.2.1 - 1 ≤ i → i < l.length → x.2.2.getD i [] = l.getD i []})
        (fun x => (fr [(0, .hs 0 0 0 l.length 1), (3, .int .i64 x.1.1), (4, .hs 0 0 k (l.length - k) 1), (5, .int .i64 x.1.2.1)], [Blk.cells 0 ((x.1.2.2).map .str)])) (fun x => l.length - x.1.2.1)
        ⟨(k, 1, l), by simp, by simp; omega, by simp, rfl, ?_, ?_, fun _ _ _ => rfl⟩ (Ent.fr' ⟨(by kernel_rfl), (by kernel_rfl), ?_, (by kernel_rfl), trivial⟩ (by kernel_rfl)) ?_
      · simp only []
        rw [keep_old hnew, keep_take (by omega) hpre]
      · simp only []
        rw [keep_old hnew, keep_take (by omega) hpre, List.length_take]; omega
      · refine Eq.trans (b := .hs 0 0 (0 + (k : Int).toNat * 1) ((l.length : Int).toNat - (k : Int).toNat) 1) (by kernel_rfl) ?_
        simp
      rintro ⟨⟨j, k2, C⟩, q1, q2, q3, q4, q5, q6, q7⟩
      simp only at q1 q2 q3 q4 q5 q6 q7
      repeat first | refine opsStep ?_ | refine codeStep ?_ | refine drawStep ?_
      refine decB_dec (fun hk2 => ?_) (fun hk2 => ?_)
      · have hk2 : k2 < l.length - k := by have := hk2; simp at this; omega
        have hx : k + k2 < l.length := by omega
        have hw2 : IntKind.wrap .i64 ((k2 : Int) - 1) = k2 - 1 := IntWalk.i64_in _ (by omega)
        have h1 := q7 (k + k2) (by omega) hx
        have h2 := q7 (k + k2 - 1) (by omega) (by omega)
        have c1 : C[k + k2]? = some (l.getD (k + k2) []) := by rw [← h1]; simp [List.getD_eq_getElem?_getD, show k + k2 < C.length by omega]
        have c2 : C[k + k2 - 1]? = some (l.getD (k + k2 - 1) []) := by rw [← h2]; simp [List.getD_eq_getElem?_getD, show k + k2 - 1 < C.length by omega]
        have hnw : newAt l (k + k2) = decide (l.getD (k + k2) [] ≠ l.getD (k + k2 - 1) []) := by rw [newAt, decide_eq_false (show ¬ (k + k2 = 0) by omega), Bool.false_or]
        generalize ha : l.getD (k + k2) [] = a at *
        generalize l.getD (k + k2 - 1) [] = b at *
        repeat first | refine opsStep ?_ | refine codeStep ?_ | refine drawStep ?_
        refine SW.drawn rfl (by kernel_rfl) ?_
        repeat first | refine opsStep ?_ | refine codeStep ?_ | refine drawStep ?_
        refine guardE_of (by simp; omega) ?_
        repeat first | refine opsStep ?_ | refine codeStep ?_ | refine drawStep ?_
        refine optE_of (c := .str a) (by simp [Value.cells, c1]) ?_
        repeat first | refine opsStep ?_ | refine codeStep ?_ | refine drawStep ?_
        refine guardE_of (by rw [hw2]; omega) ?_
        repeat first | refine opsStep ?_ | refine codeStep ?_ | refine drawStep ?_
        refine optE_of (c := .str b) (by rw [hw2]; simp [Value.cells, show ((k2 : Int) - 1).toNat = k2 - 1 by omega, show k + (k2 - 1) = k + k2 - 1 by omega, c2]) ?_
        repeat first | refine opsStep ?_ | refine codeStep ?_ | refine drawStep ?_
        refine ⟨by kernel_rfl, ?_⟩
        repeat first | refine opsStep ?_ | refine codeStep ?_ | refine drawStep ?_
        refine decB_dec (fun hab => ?_) (fun hab => ?_)
        · have hn := hnw.trans (decide_eq_true hab)
          repeat first | refine opsStep ?_ | refine codeStep ?_ | refine drawStep ?_
          refine guardE_of (by simp; omega) ?_
          repeat first | refine opsStep ?_ | refine codeStep ?_ | refine drawStep ?_
          refine optE_of (c := .str a) (by simp [Value.cells, c1]) ?_
          repeat first | refine opsStep ?_ | refine codeStep ?_ | refine drawStep ?_
          refine guardE_of (by simp; omega) ?_
          repeat first | refine opsStep ?_ | refine codeStep ?_ | refine drawStep ?_
          refine guardE_of ⟨rfl, by decide, by show 0 + j * 1 + 1 ≤ (C.map AV.str).length; rw [List.length_map]; omega⟩ ?_
          repeat first | refine opsStep ?_ | refine codeStep ?_ | refine drawStep ?_
          refine ⟨⟨(j + 1, k2 + 1, C.set j a), by simp, by simp only []; omega, by simp only []; omega, by simp [q4], ?_, ?_, ?_⟩, (by show l.length - (k2 + 1) < l.length - k2; omega), Ent.fr' ⟨(by kernel_rfl), inc_slot (i := j) (by omega), (by kernel_rfl), inc_slot (i := k2) (by omega), trivial⟩ ?_⟩
          · simp only []
            rw [← Nat.add_assoc, keep_new hn, ← q5]
            rw [List.take_succ_eq_append_getElem (by simp; omega)]
            rw [ha, List.take_set, List.set_eq_of_length_le (by simp; omega)]
            simp [show j < C.length by omega]
          · simp only []
            rw [← Nat.add_assoc, keep_new hn, List.length_append, q6]; rfl
          · intro i hi hil
            simp only [] at hi ⊢
            rw [← q7 i (by omega) hil]
            simp only [List.getD_eq_getElem?_getD, List.getElem?_set]
            rw [if_neg (by omega)]
          · refine Eq.trans (b := [Blk.cells 0 (over (C.map AV.str) (0 + j * 1) [.str a])]) (by kernel_rfl) ?_
            rw [Nat.zero_add, Nat.mul_one, over_one (by rw [List.length_map]; omega), ← List.map_set]
        · have hn := hnw.trans (decide_eq_false hab)
          repeat first | refine opsStep ?_ | refine codeStep ?_ | refine drawStep ?_
          refine ⟨⟨(j, k2 + 1, C), by simp, by simp only []; omega, by simp only []; omega, q4, ?_, ?_, fun i hi hil => q7 i (by simp only [] at hi; omega) hil⟩, (by show l.length - (k2 + 1) < l.length - k2; omega), Ent.fr' ⟨(by kernel_rfl), (by kernel_rfl), (by kernel_rfl), inc_slot (i := k2) (by omega), trivial⟩ (by kernel_rfl)⟩
          · simp only []
            rw [← Nat.add_assoc, keep_old hn]; exact q5
          · simp only []
            rw [← Nat.add_assoc, keep_old hn]; exact q6
      · have hk2 : k2 = l.length - k := by have := hk2; simp at this; omega
        have hfin : keepN l l.length = C.take j := by rw [q5]; congr 1; omega
        have hlen : (keepN l l.length).length = j := by rw [← q6]; congr 2; omega
        repeat first | refine opsStep ?_ | refine codeStep ?_ | refine drawStep ?_
        refine guardE_of ⟨by simp; omega, .inr (by simp; omega)⟩ ?_
        repeat first | refine opsStep ?_ | refine codeStep ?_ | refine drawStep ?_
        refine guardE_of ⟨rfl, by simp; omega⟩ ?_
        repeat first | refine opsStep ?_ | refine codeStep ?_ | refine drawStep ?_
        refine guardE_of ⟨by simp; omega, .inl rfl⟩ ?_
        repeat first | refine opsStep ?_ | refine codeStep ?_ | refine drawStep ?_
        refine finR (l := [(2, .hs 0 0 0 j 1)]) (H₁ := [Blk.cells 0 (over (C.map AV.str) (0 + j * 1) (reps [.str []] (l.length - j)))]) (v := .hs 0 0 0 j 1) ⟨?_, trivial⟩ ?_ (Ent.refl _ _ _) (by kernel_rfl) ?_
        · refine Eq.trans (b := .hs 0 0 (0 + (0 : Int).toNat * 1) ((j : Int).toNat - (0 : Int).toNat) 1) (by kernel_rfl) ?_
          simp
        · refine Eq.trans (b := [Blk.cells 0 (over (C.map AV.str) (0 + (j : Int).toNat * 1) (reps [.str []] ((l.length : Int).toNat - (j : Int).toNat)))]) (by kernel_rfl) ?_
          simp
        · rw [hlen, hfin]
          refine ⟨rfl, ?_⟩
          rw [Nat.zero_add, Nat.mul_one, reps_one, over, List.length_replicate, List.drop_of_length_le (by simp; omega), List.append_nil, List.map_append, List.map_take, List.map_replicate]
    · have hnew : newAt l k = true := by rw [newAt, g0, g1]; simp [he]
      repeat first | refine opsStep ?_ | refine codeStep ?_ | refine drawStep ?_
      refine ⟨⟨k + 1, by omega, by omega, fun i hi => ?_⟩, (by show l.length - (k + 1) < l.length - k; omega), Ent.fr' ⟨(by kernel_rfl), inc_slot (i := k) (by omega), trivial⟩ (by kernel_rfl)⟩
      by_cases e : i = k
      · subst e; exact hnew
      · exact hpre i (by omega)
  · have hkn : k = l.length := by have := hkn; simp at this; omega
    have hk := hfull fun i hi => hpre i (by omega)
    repeat first | refine opsStep ?_ | refine codeStep ?_ | refine drawStep ?_
    refine finR (l := [(2, .hs 0 0 0 l.length 1)]) (H₁ := [Blk.cells 0 ((l).map .str)]) (v := .hs 0 0 0 l.length 1) ⟨(by kernel_rfl), trivial⟩ (by kernel_rfl) (Ent.refl _ _ _) (by kernel_rfl) ?_
    rw [hk]; simp

theorem srt_le {r : List (List UInt8)} (hs : SrtTo r r.length) {j : Nat} (h0 : 0 < j) (hj : j < r.length) : r.getD (j - 1) [] = r.getD j [] ∨ less (r.getD (j - 1) []) (r.getD j []) = true := by
  have h := hs (j - 1) (by omega)
  rw [show j - 1 + 1 = j by omega] at h
  cases e : less (r.getD (j - 1) []) (r.getD j []) with
  | true => exact .inr rfl
  | false => exact .inl (less_total e h)
/-- Of what is sorted the firsts of the runs are strictly sorted. -/
theorem keep_strict {r : List (List UInt8)} (hs : SrtTo r r.length) : Strict (keepN r r.length) := by
  suffices h : ∀ j, j ≤ r.length → Strict (keepN r j) ∧ ∀ x ∈ keepN r j, 0 < j ∧ (x = r.getD (j - 1) [] ∨ less x (r.getD (j - 1) []) = true) from (h _ (Nat.le_refl _)).1
  intro j
  induction j with
  | zero => exact fun _ => ⟨List.Pairwise.nil, fun x hx => by simp [keepN] at hx⟩
  | succ j ih =>
    intro hj
    obtain ⟨i1, i2⟩ := ih (by omega)
    have hle : ∀ x ∈ keepN r j, x = r.getD j [] ∨ less x (r.getD j []) = true := fun x hx => by
      obtain ⟨p, q⟩ := i2 x hx
      have hjj := srt_le hs (show 0 < j by omega) (show j < r.length by omega)
      rcases q with rfl | q
      · rcases hjj with e | e
        · exact .inl e
        · exact .inr e
      · rcases hjj with e | e
        · exact .inr (e ▸ q)
        · exact .inr (less_trans q e)
    cases hn : newAt r j with
    | true =>
      rw [keep_new hn]
      refine ⟨List.pairwise_append.2 ⟨i1, List.pairwise_singleton _ _, fun x hx y hy => ?_⟩, fun x hx => ⟨by omega, ?_⟩⟩
      · rw [List.mem_singleton] at hy
        subst hy
        rcases hle x hx with e | e
        · obtain ⟨p, q⟩ := i2 x hx
          simp only [newAt, show ¬ (j = 0) by omega, decide_false, Bool.false_or, decide_eq_true_eq] at hn
          have hjj := srt_le hs (show 0 < j by omega) (show j < r.length by omega)
          rcases hjj with e' | e'
          · exact absurd e'.symm hn
          · rcases q with q | q
            · exact absurd (e.symm.trans q) hn
            · rw [e] at q
              have := less_asymm q
              rw [e'] at this
              simp at this
        · exact e
      · rw [Nat.add_sub_cancel]
        rcases List.mem_append.1 hx with hx | hx
        · exact hle x hx
        · exact .inl (List.mem_singleton.1 hx)
    | false =>
      rw [keep_old hn]
      exact ⟨i1, fun x hx => ⟨by omega, by rw [Nat.add_sub_cancel]; exact hle x hx⟩⟩
theorem keep_tog {l r : List (List UInt8)} (hp : r.Perm l) (hs : SrtTo r r.length) : keepN r r.length = togS l :=
  strict_eq (keep_strict hs) (tog_strict l) fun x => by
    rw [keep_mem (Nat.le_refl _), List.take_length, hp.mem_iff, tog_mem]

theorem glyph_Union (ka kb : SK) (a b : List (List UInt8)) (hl : a.length + b.length ≤ 12) (ha : ∀ s ∈ a, s.length < 2^62) (hb : ∀ s ∈ b, s.length < 2^62) (ra : risesS a = true) (rb : risesS b = true) :
    Pure Try.prog 28 [aSs ka a, aSs kb b] (.tup [aSs .any (togS (a ++ b)), .int .i64 0]) := by
  have h1 := glyph_Rises ka a (by omega) ha
  have h2 := glyph_Rises kb b (by omega) hb
  rw [ra] at h1
  rw [rb] at h2
  refine Pure.of_sw 23 Try.func28 rfl Try.ntmps28 (by kernel_rfl) (Nat.le_of_ble_eq_true (by kernel_rfl)) (by simp [closeds, AV.closed, aSs_closed, aIs_closed, aBs_closed, aRs_closed, aDen_closed]) (by simp [AV.closed, closeds, aSs_closed, aIs_closed, aBs_closed, aRs_closed, aDen_closed]) ?_; refine SW.of_vc ?_
  repeat first | refine opsStep ?_ | refine codeStep ?_ | refine drawStep ?_
  refine callP h1 ?_
  repeat first | refine opsStep ?_ | refine codeStep ?_ | refine drawStep ?_
  refine callP h2 ?_
  repeat first | refine opsStep ?_ | refine codeStep ?_ | refine drawStep ?_
  refine callN (slices_Clone_S_new ka a (by omega)) ?_
  repeat first | refine opsStep ?_ | refine codeStep ?_ | refine drawStep ?_
  refine guardE_of ⟨rfl, by simp⟩ ?_
  refine guardE_of (by simp [Value.cells]) ?_
  refine guardE_of ⟨by omega, by show (a.length + b.length) * 16 ≤ 140737488355328; omega⟩ ?_
  iterate 2 refine opsStep ?_
  refine VCode.ent (((Ent.fr' (l := [(6, .hs 0 1 0 (a ++ b).length 1)]) (H' := [] ++ [.cells 1 ((a ++ b).map .str)]) ⟨?_, trivial⟩ ?_).trans (Ent.regen (l := []) (pre := []) (g := 1) (cs := (a ++ b).map .str) 6 0 (Nat.zero_le _) trivial trivial (bels_map.2 fun _ _ => by simp [AV.bel]))).to rfl) ?_
  · refine Eq.trans (b := .hs 0 1 0 (a.length + b.length) 1) (by kernel_rfl) ?_
    rw [List.length_append]
  · refine Eq.trans (b := [.cells 1 (((a.map AV.str).drop 0).take (a.length * 1) ++ b.map AV.str)]) (by kernel_rfl) ?_
    rw [td_all (by simp), List.map_append]; rfl
  repeat first | refine opsStep ?_ | refine codeStep ?_ | refine drawStep ?_
  refine ⟨_, slices_Sort (a ++ b) (by simp; omega), ?_⟩
  rintro o H' ⟨rfl, r, hp, hsr, rfl⟩
  have hrl := hp.length_eq
  rw [← hrl] at hsr
  repeat first | refine opsStep ?_ | refine codeStep ?_ | refine drawStep ?_
  refine callH (by rw [← hrl]; exact slices_Compact r (by rw [hrl]; simp; omega)) ?_
  have hk := keep_tog hp hsr
  have hle := keep_le r r.length
  rw [hk] at hle ⊢
  repeat first | refine opsStep ?_ | refine codeStep ?_ | refine drawStep ?_
  refine finH (l := [(4, .hs 0 0 0 (togS (a ++ b)).length 1), (5, .int .i64 0)]) (H₁ := [] ++ [.cells 0 ((togS (a ++ b)).map .str ++ List.replicate (r.length - (togS (a ++ b)).length) (.str []))]) ⟨(by kernel_rfl), (by kernel_rfl), trivial⟩ ?_ (Ent.freezeCut (l := [(5, .int .i64 0)]) (pre := []) (g := 0) (n := (togS (a ++ b)).length) (cs := (togS (a ++ b)).map .str) 4 (Nat.zero_le _) (by simp [frBel, AV.bel]) trivial (by simp)) ?_
  · refine Eq.trans (b := [Blk.cells 0 ((togS (a ++ b) ++ List.replicate (r.length - (togS (a ++ b)).length) []).map .str)]) (by kernel_rfl) ?_
    rw [List.map_append, List.map_replicate]; rfl
  · exact (by kernel_rfl)

end Tab

/- The document's Widen; the fixed answers. -/
namespace Tab
open Go Go.Proofs
set_option maxRecDepth 10000
set_option linter.unusedVariables false
set_option linter.unusedSimpArgs false
set_option linter.unusedSectionVars false

theorem r15_Widen (kn : SK) (d : Den) (names : List (List UInt8)) (hd : DenOk d) (hn : names.length * 16 ≤ 140737488351232) (hns : ∀ s ∈ names, s.length ≤ 140737488351232) :
    Pure Try.prog 40 [aDen d, aSs kn names] (.tup [aDen (widenR d names), .int .i64 (widenE d names)]) := by
  have h1 := hd.tracks
  have h2 := hd.accept
  have h3 := hd.next
  refine Pure.of_sw 41 Try.func40 rfl Try.ntmps40 (by kernel_rfl) (Nat.le_of_ble_eq_true (by kernel_rfl)) (by simp [closeds, AV.closed, aSs_closed, aIs_closed, aBs_closed, aRs_closed, aDen_closed]) (by simp [AV.closed, closeds, aSs_closed, aIs_closed, aBs_closed, aRs_closed, aDen_closed]) ?_; refine SW.of_vc ?_
  repeat first | refine opsStep ?_ | refine codeStep ?_ | refine drawStep ?_
  refine callP (r12_Right d hd) ?_
  repeat first | refine opsStep ?_ | refine codeStep ?_ | refine drawStep ?_
  refine decB_split (fun h => ?_) (fun h => ?_)
  · repeat first | refine opsStep ?_ | refine codeStep ?_ | refine drawStep ?_
    have hr : rightS d = false := by simpa using h
    exact finV (v' := .tup [aDen den0, .int .i64 3]) (by kernel_rfl) (by rw [widenR_bad (by rw [widenE_shape (.inl hr)]; decide), widenE_shape (.inl hr)])
  · have hr : rightS d = true := by simpa using h
    repeat first | refine opsStep ?_ | refine codeStep ?_ | refine drawStep ?_
    refine callP (r04_Rises kn names (by omega) (fun s hs => by have := hns s hs; omega)) ?_
    repeat first | refine opsStep ?_ | refine codeStep ?_ | refine drawStep ?_
    refine decB_split (fun h => ?_) (fun h => ?_)
    · repeat first | refine opsStep ?_ | refine codeStep ?_ | refine drawStep ?_
      have hs : risesS names = false := by simpa using h
      exact finV (v' := .tup [aDen den0, .int .i64 3]) (by kernel_rfl) (by rw [widenR_bad (by rw [widenE_shape (.inr hs)]; decide), widenE_shape (.inr hs)])
    · have hs : risesS names = true := by simpa using h
      repeat first | refine opsStep ?_ | refine codeStep ?_ | refine drawStep ?_
      refine decB_dec (fun hl => ?_) (fun hl => ?_)
      · repeat first | refine opsStep ?_ | refine codeStep ?_ | refine drawStep ?_
        exact finV (v' := .tup [aDen den0, .int .i64 150]) (by kernel_rfl) (by rw [widenR_bad (by rw [widenE_wide hr hs (by omega)]; decide), widenE_wide hr hs (by omega)])
      · have hl' : names.length ≤ 6 := by omega
        obtain ⟨ht, hnn, hrows⟩ := rightS_parts hr
        have hk := tracksS_le ht
        repeat first | refine opsStep ?_ | refine codeStep ?_ | refine drawStep ?_
        refine loopE_of (ι := {i : Nat // i ≤ d.tracks.length ∧ inAll (d.tracks.take i) names = true})
          (fun i => (fr [(1, aSs kn names), (2, .ref 0 0 0), (4, .ref 1 0 0), (6, .int .i64 i.1)], [.cells 0 d.cells, .cells 0 den0.cells]))
          (fun i => d.tracks.length - i.1) ⟨0, by omega, by simp [inAll]⟩ (Ent.fr' ⟨(by kernel_rfl), (by kernel_rfl), (by kernel_rfl), (by kernel_rfl), trivial⟩ (by kernel_rfl)) ?_
        rintro ⟨i, hi, hpre⟩
        repeat first | refine opsStep ?_ | refine codeStep ?_ | refine drawStep ?_
        refine decB_dec (fun h => ?_) (fun h => ?_)
        · have hia : i < d.tracks.length := by have := h; simp at this; omega
          repeat first | refine opsStep ?_ | refine codeStep ?_ | refine drawStep ?_
          refine guardE_of (by simp; omega) ?_
          repeat first | refine opsStep ?_ | refine codeStep ?_ | refine drawStep ?_
          refine optE_of (c := .str d.tracks[i]) (by simp [Value.cells, hia]) ?_
          repeat first | refine opsStep ?_ | refine codeStep ?_ | refine drawStep ?_
          refine callP (r04_Index kn names d.tracks[i] (by omega)) ?_
          repeat first | refine opsStep ?_ | refine codeStep ?_ | refine drawStep ?_
          refine decB_dec (fun hx => ?_) (fun hx => ?_)
          · have hne : inAll d.tracks names = false := by
              rw [← Bool.not_eq_true, inAll, List.all_eq_true]
              intro k
              have := k _ (List.getElem_mem hia)
              have hm : d.tracks[i] ∈ names := by simpa using this
              rw [idxS, if_pos (List.idxOf_lt_length_of_mem hm)] at hx
              omega
            repeat first | refine opsStep ?_ | refine codeStep ?_ | refine drawStep ?_
            exact finV (v' := .tup [aDen den0, .int .i64 4]) (by kernel_rfl) (by rw [widenR_bad (by rw [widenE_none hr hs hl' hne]; decide), widenE_none hr hs hl' hne])
          · have hm : d.tracks[i] ∈ names := by
              rw [idxS] at hx
              split at hx
              · rename_i e; exact List.idxOf_lt_length_iff.1 e
              · omega
            repeat first | refine opsStep ?_ | refine codeStep ?_ | refine drawStep ?_
            refine ⟨⟨i + 1, by omega, ?_⟩, (by show d.tracks.length - (i + 1) < d.tracks.length - i; omega), Ent.fr' ⟨(by kernel_rfl), (by kernel_rfl), (by kernel_rfl), inc_slot (i := i) (by omega), trivial⟩ (by kernel_rfl)⟩
            rw [inAll, List.take_succ_eq_append_getElem hia, List.all_append, ← inAll, hpre]
            simp [hm]
        · have : i = d.tracks.length := by have := h; simp at this; omega
          subst this
          rw [List.take_length] at hpre
          repeat first | refine opsStep ?_ | refine codeStep ?_ | refine drawStep ?_
          refine callP (r15_over kn d.tk d names d.tracks hd hl' hk (fun s hm => by have := List.all_eq_true.1 hpre s hm; simpa using this) (fun r hr => (rowOk_parts (hrows r hr)).1)) ?_
          repeat first | refine opsStep ?_ | refine codeStep ?_ | refine drawStep ?_
          exact finV (v' := .tup [aDen (widenD d names), .int .i64 0]) (by kernel_rfl) (by rw [widenR_ok (widenE_ok hr hs hl' hpre), widenE_ok hr hs hl' hpre])

end Tab
