/- Lemmas for this claim: part 12. No condition. -/
import Derived.Test.YtgadapklmphliaaGreatZ0
import Derived.Test.YtgadapklmphliaaGreatZ8
import Derived.Test.YtgadapklmphliaaGreatZ9
import Derived.Test.YtgadapklmphliaaGreatZ10
import Derived.Test.YtgadapklmphliaaGreatZ11
import Derived.DeepKeys4
/- Pairs of numbers as keys. -/
namespace Tab
open Go Go.Proofs
set_option maxRecDepth 10000
set_option linter.unusedVariables false
set_option linter.unusedSimpArgs false
set_option linter.unusedSectionVars false

def pv2 (p : Int × Int) : Value := .agg #[.int .i64 p.1, .int .i64 p.2]
theorem pv2_inj {p q : Int × Int} (h : pv2 p = pv2 q) : p = q := by
  obtain ⟨a, b⟩ := p
  obtain ⟨c, d⟩ := q
  simp only [pv2, Value.agg.injEq, Array.mk.injEq, List.cons.injEq, Value.int.injEq, true_and, and_true] at h
  simp [h.1, h.2]
def ok2 (p : Int × Int) : Prop := (-(2^63) ≤ p.1 ∧ p.1 < 2^63) ∧ (-(2^63) ≤ p.2 ∧ p.2 < 2^63)
theorem lits2 {t : TypeId} (hu : Tryz.prog.underlying t = some (.array 2 3)) (hc : Tryz.prog.cellsOf t = 2) {a b : Int} (h : ok2 (a, b)) (n : Nat) : Tryz.prog.keyLits (n + 2) t [.int .i64 a, .int .i64 b] = some [.int .i64 a, .int .i64 b] := by
  have hi : Tryz.prog.underlying 3 = some (.int .i64) := (by kernel_rfl)
  have hc1 : Tryz.prog.cellsOf 3 = 1 := (by kernel_rfl)
  have hw : ∀ x : Int, (-(2^63) ≤ x ∧ x < 2^63) → (Lit.int .i64 x).wf = true := fun x h => by
    simp only [Lit.wf, Bool.and_eq_true, decide_eq_true_eq, show IntKind.i64.min = -9223372036854775808 from rfl, show IntKind.i64.max = 9223372036854775807 from rfl]
    omega
  have e1 : ∀ (n : Nat) (x : Int), (-(2^63) ≤ x ∧ x < 2^63) → Tryz.prog.keyLits (n + 1) 3 [.int .i64 x] = some [.int .i64 x] := fun n x h => by
    unfold Program.keyLits
    rw [hi]
    exact if_pos ⟨rfl, hw x h⟩
  unfold Program.keyLits
  rw [hu]
  simp only
  rw [if_pos (by rw [hc]; rfl), hc1]
  simp [List.range_succ, e1 n a h.1, e1 n b h.2]
theorem key2 {t : TypeId} (hu : Tryz.prog.underlying t = some (.array 2 3)) (hc : Tryz.prog.cellsOf t = 2) (hk : Tryz.prog.keyType t = true) {p : Int × Int} (h : ok2 p) : ∃ l, keyOf Tryz.prog t (pv2 p) = some l := by
  obtain ⟨a, b⟩ := p
  unfold keyOf
  rw [hu]
  obtain ⟨n, hn⟩ : ∃ n, Tryz.prog.types.size = n + 1 := ⟨Tryz.prog.types.size - 1, by have : 0 < Tryz.prog.types.size := (Nat.le_of_ble_eq_true (by kernel_rfl)); omega⟩
  refine ⟨.string (keyBytes [.int .i64 a, .int .i64 b]), ?_⟩
  have hf : Value.formed Tryz.prog t (pv2 (a, b)) = true := by simp only [Value.formed, pv2, hu, hc]; rfl
  show (if (Tryz.prog.keyType t && Value.formed Tryz.prog t (pv2 (a, b))) = true then Option.map (fun ls => Lit.string (keyBytes ls)) (Tryz.prog.keyLits (Tryz.prog.types.size + 1) t (pv2 (a, b)).cells.toList) else none) = _
  rw [hk, hf]
  rw [if_pos (show (true && true) = true from rfl), hn, show (pv2 (a, b)).cells.toList = [.int .i64 a, .int .i64 b] from rfl, lits2 hu hc h n]
  rfl
theorem eql2 {t : TypeId} (hu : Tryz.prog.underlying t = some (.array 2 3)) (hc : Tryz.prog.cellsOf t = 2) (hk : Tryz.prog.keyTypeAt 2 t = true) (hg : Tryz.prog.eqGuardType Tryz.prog.depth t = false) {a b c d : Int} (h1 : ok2 (a, b)) (h2 : ok2 (c, d)) :
    EqlE Tryz.prog t [.int .i64 a, .int .i64 b] [.int .i64 c, .int .i64 d] (decide ((a, b) = (c, d))) := by
  have hf : ∀ x y : Int, Value.formed Tryz.prog t (.agg #[.int .i64 x, .int .i64 y]) = true := fun x y => by simp only [Value.formed, hu, hc]; rfl
  refine .mk (xs := [.int .i64 a, .int .i64 b]) (ys := [.int .i64 c, .int .i64 d]) (la := [.int .i64 a, .int .i64 b]) (lb := [.int .i64 c, .int .i64 d]) (D := 0 + 2) (D' := 0 + 2) (m := 2) ?_ rfl rfl (lits2 hu hc h1 0) (lits2 hu hc h2 0) hk (by decide) (hf a b) (hf c d) hg
  rw [decide_eq_true_eq]
  simp

theorem keyed2 : Maps.Keyed Tryz.prog 72 := Maps.Keyed.of_law (deep_law_laid ((by kernel_rfl) : laidOutB Tryz.prog = true) (m := 2) (by decide) (of_decide_eq_true (by kernel_rfl)) (by kernel_rfl) (by kernel_rfl))

end Tab

/- Pairs of numbers, numbered as they are met. -/
namespace Tab
open Go Go.Proofs
set_option maxRecDepth 10000
set_option linter.unusedVariables false
set_option linter.unusedSimpArgs false
set_option linter.unusedSectionVars false

theorem keyP {p : Int × Int} (h : ok2 p) : ∃ l, keyOf Tryz.prog 72 (pv2 p) = some l := by
  have hu : Tryz.prog.underlying 72 = some (.array 2 3) := (by kernel_rfl)
  obtain ⟨a, b⟩ := p
  unfold keyOf
  rw [hu]
  have hi : Tryz.prog.underlying 3 = some (.int .i64) := (by kernel_rfl)
  have hc : Tryz.prog.cellsOf 72 = 2 := (by kernel_rfl)
  have hc1 : Tryz.prog.cellsOf 3 = 1 := (by kernel_rfl)
  have hw : ∀ x : Int, (-(2^63) ≤ x ∧ x < 2^63) → (Lit.int .i64 x).wf = true := fun x h => by
    simp only [Lit.wf, Bool.and_eq_true, decide_eq_true_eq, show IntKind.i64.min = -9223372036854775808 from rfl, show IntKind.i64.max = 9223372036854775807 from rfl]
    omega
  have e1 : ∀ (n : Nat) (x : Int), (-(2^63) ≤ x ∧ x < 2^63) → Tryz.prog.keyLits (n + 1) 3 [.int .i64 x] = some [.int .i64 x] := fun n x h => by
    unfold Program.keyLits
    rw [hi]
    exact if_pos ⟨rfl, hw x h⟩
  have e2 : ∀ n : Nat, Tryz.prog.keyLits (n + 2) 72 [.int .i64 a, .int .i64 b] = some [.int .i64 a, .int .i64 b] := fun n => by
    unfold Program.keyLits
    rw [hu]
    simp only
    rw [if_pos (by rw [hc]; rfl), hc1]
    simp [List.range_succ, e1 n a h.1, e1 n b h.2]
  obtain ⟨n, hn⟩ : ∃ n, Tryz.prog.types.size = n + 1 := ⟨Tryz.prog.types.size - 1, by have : 0 < Tryz.prog.types.size := (Nat.le_of_ble_eq_true (by kernel_rfl)); omega⟩
  refine ⟨.string (keyBytes [.int .i64 a, .int .i64 b]), ?_⟩
  show (if (Tryz.prog.keyType 72 && Value.formed Tryz.prog 72 (pv2 (a, b))) = true then Option.map (fun ls => Lit.string (keyBytes ls)) (Tryz.prog.keyLits (Tryz.prog.types.size + 1) 72 (pv2 (a, b)).cells.toList) else none) = _
  rw [if_pos (by kernel_rfl), hn]
  rw [show (pv2 (a, b)).cells.toList = [.int .i64 a, .int .i64 b] from rfl, e2 n]
  rfl

/-- What the closure answers: the number of a pair; and the pairs that are met then. -/
def met2 (L : List (Int × Int)) (p : Int × Int) : List (Int × Int) := if p ∈ L then L else L ++ [p]
end Tab

/- The states told apart once more. -/
namespace Tab
open Go Go.Proofs
set_option maxRecDepth 10000
set_option linter.unusedVariables false
set_option linter.unusedSimpArgs false
set_option linter.unusedSectionVars false

/-- A row: the pairs met and the number, ahead of the letter a. -/
def rowN (cls : List Int) (r : List Int) (L : List (Int × Int)) (n : Nat) : Nat → List (Int × Int) × Nat
  | 0 => (L, n)
  | a + 1 =>
    let x := rowN cls r L n a
    let p : Int × Int := ((x.2 : Int) * (r.length + 1) + a, cls.getD (r.getD a 0).toNat 0)
    (met2 x.1 p, (met2 x.1 p).idxOf p)
theorem met2_length (L p) : (met2 L p).length ≤ L.length + 1 := by rw [met2]; split <;> simp
theorem met2_mem (L p) : p ∈ met2 L p := by rw [met2]; split <;> simp_all
theorem met2_idx (L p) : (met2 L p).idxOf p ≤ L.length := by
  have := List.idxOf_lt_length_of_mem (met2_mem L p)
  have := met2_length L p
  omega
theorem rowN_bound (cls r L) (n : Nat) : ∀ a, (rowN cls r L n a).1.length ≤ L.length + a ∧ (rowN cls r L n a).2 ≤ max n (L.length + a)
  | 0 => ⟨Nat.le_refl _, Nat.le_max_left _ _⟩
  | a + 1 => by
    obtain ⟨h1, h2⟩ := rowN_bound cls r L n a
    simp only [rowN]
    have := met2_length (rowN cls r L n a).1 (((rowN cls r L n a).2 : Int) * (r.length + 1) + a, cls.getD (r.getD a 0).toNat 0)
    have := met2_idx (rowN cls r L n a).1 (((rowN cls r L n a).2 : Int) * (r.length + 1) + a, cls.getD (r.getD a 0).toNat 0)
    constructor <;> omega
theorem met2_nodup {L p} (h : List.Nodup L) : (met2 L p).Nodup := by
  rw [met2]
  split
  · exact h
  · rename_i hx
    exact List.nodup_append.2 ⟨h, by simp, by intro a ha b hb e; simp only [List.mem_singleton] at hb; subst hb; subst e; exact hx ha⟩
theorem rowN_nodup (cls r L) (n : Nat) (h : List.Nodup L) : ∀ a, (rowN cls r L n a).1.Nodup
  | 0 => h
  | a + 1 => by simp only [rowN]; exact met2_nodup (rowN_nodup cls r L n h a)

theorem ok2_mk {a b : Int} (h1 : -(2^63) ≤ a) (h2 : a < 2^63) (h3 : -(2^63) ≤ b) (h4 : b < 2^63) : ok2 (a, b) := ⟨⟨h1, h2⟩, ⟨h3, h4⟩⟩
theorem rowN_ok {cls r : List Int} (hc : ∀ v ∈ cls, 0 ≤ v ∧ v ≤ 300) (hr : r.length ≤ 64) {L : List (Int × Int)} {n : Nat} (hL : ∀ p ∈ L, ok2 p) (hl : L.length ≤ 2^30) (hn : n ≤ 2^30) : ∀ a, a ≤ r.length → ∀ p ∈ (rowN cls r L n a).1, ok2 p
  | 0, _ => hL
  | a + 1, ha => by
    have ih := rowN_ok hc hr hL hl hn a (by omega)
    have hb := (rowN_bound cls r L n a).2
    simp only [rowN]
    intro p hp
    rw [met2] at hp
    have : p ∈ (rowN cls r L n a).1 ∨ p = (((rowN cls r L n a).2 : Int) * (r.length + 1) + a, cls.getD (r.getD a 0).toNat 0) := by
      split at hp
      · exact .inl hp
      · simpa using hp
    rcases this with h | h
    · exact ih p h
    · subst h
      have h2 : ((rowN cls r L n a).2 : Int) * (r.length + 1) ≤ 2^31 * 65 := Int.mul_le_mul (by omega) (by omega) (by omega) (by omega)
      have h3 : 0 ≤ ((rowN cls r L n a).2 : Int) * (r.length + 1) := Int.mul_nonneg (by omega) (by omega)
      refine ok2_mk (by omega) (by omega) ?_ ?_
      all_goals
       simp only [List.getD_eq_getElem?_getD]
       cases e : cls[(r[a]?.getD 0).toNat]? with
       | none => simp
       | some v => have := hc v (List.mem_of_getElem? e); simp only [Option.getD_some]; omega

/-- The pairs met ahead of the row q, and the row's number. -/
def spL (cls : List Int) (rows : List (List Int)) : Nat → List (Int × Int)
  | 0 => []
  | q + 1 => (rowN cls (rows.getD q []) (spL cls rows q) (cls.getD q 0).toNat (rows.getD q []).length).1
def spV (cls : List Int) (rows : List (List Int)) (q : Nat) : Nat := (rowN cls (rows.getD q []) (spL cls rows q) (cls.getD q 0).toNat (rows.getD q []).length).2
def spN (cls : List Int) (rows : List (List Int)) : List Int := (List.range rows.length).map fun q => (spV cls rows q : Int)

theorem cls_le {cls : List Int} (hc : ∀ v ∈ cls, 0 ≤ v ∧ v ≤ 300) (q : Nat) : (cls.getD q 0).toNat ≤ 300 ∧ 0 ≤ cls.getD q 0 := by
  simp only [List.getD_eq_getElem?_getD]
  cases e : cls[q]? with
  | none => simp
  | some v => have := hc v (List.mem_of_getElem? e); simp only [Option.getD_some]; omega
theorem spL_ok {cls : List Int} {rows : List (List Int)} (hc : ∀ v ∈ cls, 0 ≤ v ∧ v ≤ 300) (hr : ∀ r ∈ rows, r.length ≤ 64) : ∀ q, q ≤ rows.length → rows.length ≤ 256 → (spL cls rows q).length ≤ q * 64 ∧ (spL cls rows q).Nodup ∧ ∀ p ∈ spL cls rows q, ok2 p
  | 0, _, _ => ⟨Nat.zero_le _, List.nodup_nil, by simp [spL]⟩
  | q + 1, hq, h256 => by
    obtain ⟨h1, h2, h3⟩ := spL_ok hc hr q (by omega) h256
    have hg : rows.getD q [] ∈ rows := by simp [List.getD_eq_getElem?_getD, show q < rows.length by omega]
    have hrl := hr _ hg
    have hcl := (cls_le hc q).1
    have hb := (rowN_bound cls (rows.getD q []) (spL cls rows q) (cls.getD q 0).toNat (rows.getD q []).length).1
    refine ⟨by rw [spL]; omega, rowN_nodup _ _ _ _ h2 _, ?_⟩
    rw [spL]
    exact rowN_ok hc hrl h3 (by omega) (by omega) _ (Nat.le_refl _)

end Tab

/- Which states are alike: the plain law of split and classes. -/
namespace Tab
open Go Go.Proofs
set_option maxRecDepth 10000
set_option linter.unusedVariables false
set_option linter.unusedSimpArgs false
set_option linter.unusedSectionVars false

/-! ### split tells apart -/

theorem met2_prefix (L : List (Int × Int)) (p) : ∃ r, met2 L p = L ++ r := by
  rw [met2]; split
  · exact ⟨[], by simp⟩
  · exact ⟨[p], rfl⟩
theorem rowN_prefix (cls r L) (n : Nat) : ∀ a, ∃ s, (rowN cls r L n a).1 = L ++ s
  | 0 => ⟨[], by simp [rowN]⟩
  | a + 1 => by
    obtain ⟨s, hs⟩ := rowN_prefix cls r L n a
    simp only [rowN]
    obtain ⟨t, ht⟩ := met2_prefix (rowN cls r L n a).1 (((rowN cls r L n a).2 : Int) * (r.length + 1) + a, cls.getD (r.getD a 0).toNat 0)
    exact ⟨s ++ t, by rw [ht, hs, List.append_assoc]⟩
theorem rowN_le (cls r L) (n : Nat) (a : Nat) : ∀ b, ∃ s, (rowN cls r L n (a + b)).1 = (rowN cls r L n a).1 ++ s
  | 0 => ⟨[], by simp⟩
  | b + 1 => by
    obtain ⟨s, hs⟩ := rowN_le cls r L n a b
    rw [← Nat.add_assoc]
    simp only [rowN]
    obtain ⟨t, ht⟩ := met2_prefix (rowN cls r L n (a + b)).1 (((rowN cls r L n (a + b)).2 : Int) * (r.length + 1) + (a + b : Nat), cls.getD (r.getD (a + b) 0).toNat 0)
    exact ⟨s ++ t, by rw [ht, hs, List.append_assoc]⟩
theorem spL_le (cls rows) (q : Nat) : ∀ b, ∃ s, spL cls rows (q + b) = spL cls rows q ++ s
  | 0 => ⟨[], by simp⟩
  | b + 1 => by
    obtain ⟨s, hs⟩ := spL_le cls rows q b
    rw [← Nat.add_assoc, spL]
    obtain ⟨t, ht⟩ := rowN_prefix cls (rows.getD (q + b) []) (spL cls rows (q + b)) (cls.getD (q + b) 0).toNat (rows.getD (q + b) []).length
    exact ⟨s ++ t, by rw [ht, hs, List.append_assoc]⟩

/-- The number of a row ahead of the letter a is the place of its pair among all pairs. -/
theorem rowN_at {cls r L} {n : Nat} {P : List (Int × Int)} {a : Nat} (h : ∃ s, P = (rowN cls r L n (a + 1)).1 ++ s) :
    (((rowN cls r L n a).2 : Int) * (r.length + 1) + a, cls.getD (r.getD a 0).toNat 0) ∈ P ∧ (rowN cls r L n (a + 1)).2 = P.idxOf (((rowN cls r L n a).2 : Int) * (r.length + 1) + a, cls.getD (r.getD a 0).toNat 0) := by
  obtain ⟨s, rfl⟩ := h
  simp only [rowN]
  have hm := met2_mem (rowN cls r L n a).1 (((rowN cls r L n a).2 : Int) * (r.length + 1) + a, cls.getD (r.getD a 0).toNat 0)
  exact ⟨List.mem_append.2 (.inl hm), by rw [List.idxOf_append, if_pos hm]⟩

theorem idx_inj' {α : Type} [BEq α] [LawfulBEq α] {l : List α} {a b : α} (ha : a ∈ l) (hb : b ∈ l) (h : l.idxOf a = l.idxOf b) : a = b := by
  have h1 := List.getElem_idxOf (List.idxOf_lt_length_of_mem ha)
  have h2 := List.getElem_idxOf (List.idxOf_lt_length_of_mem hb)
  rw [← h1, ← h2]
  simp only [h]

theorem rowN_inj {cls r r'} {L L' P : List (Int × Int)} {n n' : Nat} (hk : r.length = r'.length) : ∀ a, (∃ s, P = (rowN cls r L n a).1 ++ s) → (∃ s, P = (rowN cls r' L' n' a).1 ++ s) →
    ((rowN cls r L n a).2 = (rowN cls r' L' n' a).2 ↔ n = n' ∧ ∀ b, b < a → cls.getD (r.getD b 0).toNat 0 = cls.getD (r'.getD b 0).toNat 0)
  | 0, _, _ => by simp [rowN]
  | a + 1, h, h' => by
    obtain ⟨s, hs⟩ := h
    obtain ⟨s', hs'⟩ := h'
    obtain ⟨u, hu⟩ := rowN_le cls r L n a 1
    obtain ⟨u', hu'⟩ := rowN_le cls r' L' n' a 1
    have ih := rowN_inj (P := P) (L := L) (L' := L') (n := n) (n' := n') (cls := cls) hk a ⟨u ++ s, by rw [← List.append_assoc, ← hu]; exact hs⟩ ⟨u' ++ s', by rw [← List.append_assoc, ← hu']; exact hs'⟩
    obtain ⟨m1, e1⟩ := rowN_at (P := P) ⟨s, hs⟩
    obtain ⟨m2, e2⟩ := rowN_at (P := P) ⟨s', hs'⟩
    constructor
    · intro h
      rw [e1, e2] at h
      have he := idx_inj' m1 m2 h
      simp only [Prod.mk.injEq] at he
      rw [hk] at he
      have hx : ((rowN cls r L n a).2 : Int) * (r'.length + 1) = ((rowN cls r' L' n' a).2 : Int) * (r'.length + 1) := by omega
      have hx := Int.eq_of_mul_eq_mul_right (by omega) hx
      obtain ⟨k1, k2⟩ := ih.1 (by omega)
      refine ⟨k1, fun b hb => ?_⟩
      by_cases e : b = a
      · subst e; exact he.2
      · exact k2 b (by omega)
    · rintro ⟨h1, h2⟩
      rw [e1, e2, ih.2 ⟨h1, fun b hb => h2 b (by omega)⟩, h2 a (by omega), hk]

theorem spV_iff {cls : List Int} {rows : List (List Int)} {p q K : Nat} (hp : p < rows.length) (hq : q < rows.length) (hk : ∀ r ∈ rows, r.length = K) (h0 : 0 ≤ cls.getD p 0) (h1 : 0 ≤ cls.getD q 0) :
    spV cls rows p = spV cls rows q ↔ cls.getD p 0 = cls.getD q 0 ∧ ∀ a, a < K → cls.getD (stepN rows p a) 0 = cls.getD (stepN rows q a) 0 := by
  have gp : rows.getD p [] ∈ rows := by simp [List.getD_eq_getElem?_getD, hp]
  have gq : rows.getD q [] ∈ rows := by simp [List.getD_eq_getElem?_getD, hq]
  have kp := hk _ gp
  have kq := hk _ gq
  have pre : ∀ x, x < rows.length → ∃ s, spL cls rows rows.length = (rowN cls (rows.getD x []) (spL cls rows x) (cls.getD x 0).toNat (rows.getD x []).length).1 ++ s := fun x hx => by
    obtain ⟨s, hs⟩ := spL_le cls rows (x + 1) (rows.length - (x + 1))
    rw [show x + 1 + (rows.length - (x + 1)) = rows.length by omega] at hs
    exact ⟨s, by rw [hs, spL]⟩
  have a1 := pre p hp
  have a2 := pre q hq
  rw [kp] at a1
  rw [kq] at a2
  rw [spV, spV, kp, kq, rowN_inj (P := spL cls rows rows.length) (by rw [kp, kq]) K a1 a2]
  simp only [stepN]
  constructor
  · rintro ⟨h, k⟩; exact ⟨by omega, k⟩
  · rintro ⟨h, k⟩; exact ⟨by rw [h], k⟩

theorem denL_length (l) : (denL l).length = l.length := by simp [denL]
theorem denL_iff {l : List Int} {i j : Nat} (hi : i < l.length) (hj : j < l.length) : (denL l).getD i 0 = (denL l).getD j 0 ↔ l.getD i 0 = l.getD j 0 := by
  have hm : ∀ x, x < l.length → l.getD x 0 ∈ metL [] l := fun x hx => (metL_mem _ _ _).2 (.inr (by simp [List.getD_eq_getElem?_getD, hx]))
  have e : ∀ x, x < l.length → (denL l).getD x 0 = ((metL [] l).idxOf (l.getD x 0) : Int) := fun x hx => by
    rw [List.getD_eq_getElem?_getD, denL, List.getElem?_map, List.getElem?_range hx]; rfl
  rw [e i hi, e j hj]
  constructor
  · intro h
    exact idx_inj' (hm i hi) (hm j hj) (by omega)
  · intro h; rw [h]
theorem denL_range {l : List Int} {v : Int} (h : v ∈ denL l) : 0 ≤ v ∧ v < l.length := by
  obtain ⟨i, hi, rfl⟩ := List.mem_map.1 h
  have hi := List.mem_range.1 hi
  have hm : l.getD i 0 ∈ metL [] l := (metL_mem _ _ _).2 (.inr (by simp [List.getD_eq_getElem?_getD, hi]))
  have h1 := List.idxOf_lt_length_of_mem hm
  have h2 := metL_len l []
  simp only [List.length_nil] at h2
  omega

/-! ### How many there are -/

theorem nodup_sub {α : Type} [DecidableEq α] : ∀ {a b : List α}, a.Nodup → (∀ x ∈ a, x ∈ b) → a.length ≤ b.length
  | [], _, _, _ => Nat.zero_le _
  | x :: a, b, hn, h => by
    have hx := h x (by simp)
    obtain ⟨h1, h2⟩ := List.nodup_cons.1 hn
    have := nodup_sub (a := a) (b := b.erase x) h2 fun y hy => (List.mem_erase_of_ne (fun e : y = x => h1 (e ▸ hy))).2 (h y (by simp [hy]))
    rw [List.length_erase_of_mem hx] at this
    have : 0 < b.length := List.length_pos_of_mem hx
    simp only [List.length_cons]
    omega

abbrev disN (l : List Int) : Nat := (metL [] l).length
theorem dis_le (l : List Int) : disN l ≤ l.length := by have := metL_len l []; simpa using this
theorem dis_pos {l : List Int} (h : 0 < l.length) : 0 < disN l := by
  cases l with
  | nil => simp at h
  | cons x l => exact List.length_pos_of_mem ((metL_mem x (x :: l) []).2 (.inr (by simp)))

theorem dis_refine {l m : List Int} (hl : l.length = m.length) (h : ∀ i j, i < l.length → j < l.length → m.getD i 0 = m.getD j 0 → l.getD i 0 = l.getD j 0) :
    disN l ≤ disN m ∧ (disN l = disN m → ∀ i j, i < l.length → j < l.length → l.getD i 0 = l.getD j 0 → m.getD i 0 = m.getD j 0) := by
  let g : Int → Int := fun x => l.getD (m.idxOf x) 0
  have hg : ∀ i, i < l.length → g (m.getD i 0) = l.getD i 0 := fun i hi => by
    have hm : m.getD i 0 ∈ m := by simp [List.getD_eq_getElem?_getD, ← hl, hi]
    have h1 := List.idxOf_lt_length_of_mem hm
    refine h _ _ (by omega) hi ?_
    rw [List.getD_eq_getElem?_getD, List.getElem?_eq_getElem h1, List.getElem_idxOf]; rfl
  have mem : ∀ x, x ∈ metL [] l → ∃ i, i < l.length ∧ l.getD i 0 = x := fun x hx => by
    have := (metL_mem x l []).1 hx
    simp only [List.not_mem_nil, false_or] at this
    obtain ⟨i, hi, rfl⟩ := List.getElem_of_mem this
    exact ⟨i, hi, by simp [List.getD_eq_getElem?_getD, hi]⟩
  have memm : ∀ i, i < l.length → m.getD i 0 ∈ metL [] m := fun i hi => (metL_mem _ _ _).2 (.inr (by simp [List.getD_eq_getElem?_getD, ← hl, hi]))
  have hn := metL_nodup l [] List.nodup_nil
  have hnm := metL_nodup m [] List.nodup_nil
  refine ⟨?_, fun he i j hi hj hij => ?_⟩
  · have := nodup_sub (b := (metL [] m).map g) hn fun x hx => by
      obtain ⟨i, hi, rfl⟩ := mem x hx
      exact List.mem_map.2 ⟨m.getD i 0, memm i hi, hg i hi⟩
    simpa using this
  · refine Classical.byContradiction fun hne => ?_
    have := nodup_sub (b := ((metL [] m).erase (m.getD i 0)).map g) hn fun x hx => by
      obtain ⟨k, hk, rfl⟩ := mem x hx
      by_cases hki : m.getD k 0 = m.getD i 0
      · refine List.mem_map.2 ⟨m.getD j 0, (List.mem_erase_of_ne (fun e => hne e.symm)).2 (memm j hj), ?_⟩
        rw [hg j hj, ← hij, ← hg i hi, ← hki, hg k hk]
      · exact List.mem_map.2 ⟨m.getD k 0, (List.mem_erase_of_ne hki).2 (memm k hk), hg k hk⟩
    rw [List.length_map, List.length_erase_of_mem (memm i hi)] at this
    have hp : 0 < (metL [] m).length := List.length_pos_of_mem (memm i hi)
    simp only [disN] at he
    omega

/-! ### classes -/

/-- States told apart, again and again, until their number stays. -/
def clsL (rows : List (List Int)) : Nat → List Int → Nat → List Int
  | 0, cls, _ => cls
  | f + 1, cls, c => if disN (spN cls rows) = c then denL (spN cls rows) else clsL rows f (denL (spN cls rows)) (disN (spN cls rows))
def cls0 (acc : List Bool) : List Int := acc.map fun b => if b then 1 else 0
def clsD (d : Den) : List Int := clsL d.rows (d.accept.length + 1) (cls0 d.accept) 0

theorem dis_den (l : List Int) : disN (denL l) = disN l := by
  have h := fun i j (hi : i < l.length) (hj : j < l.length) => denL_iff (l := l) hi hj
  have h1 := (dis_refine (l := denL l) (m := l) (denL_length l) fun i j hi hj e => (h i j (by rwa [denL_length] at hi) (by rwa [denL_length] at hj)).2 e).1
  have h2 := (dis_refine (l := l) (m := denL l) (denL_length l).symm fun i j hi hj e => (h i j hi hj).1 e).1
  omega

/-- Letters of a word. -/
abbrev Lets (k : Nat) (w : List Nat) : Prop := ∀ a ∈ w, a < 2 ^ k
def accN (acc : List Bool) (q : Nat) : Bool := acc.getD q false
/-- Are two states alike? -/
def Alike (d : Den) (p q : Nat) : Prop := ∀ w, Lets d.tracks.length w → accN d.accept (runN d.rows p w) = accN d.accept (runN d.rows q w)

structure ClsInv (d : Den) (cls : List Int) : Prop where
  len : cls.length = d.accept.length
  rng : ∀ v ∈ cls, 0 ≤ v ∧ v ≤ 300
  acc : ∀ p q, p < d.accept.length → q < d.accept.length → cls.getD p 0 = cls.getD q 0 → accN d.accept p = accN d.accept q
  apart : ∀ p q, p < d.accept.length → q < d.accept.length → cls.getD p 0 ≠ cls.getD q 0 → ∃ w, Lets d.tracks.length w ∧ accN d.accept (runN d.rows p w) ≠ accN d.accept (runN d.rows q w)

theorem cls_nonneg {d : Den} {cls : List Int} (h : ClsInv d cls) (q : Nat) : 0 ≤ cls.getD q 0 := (cls_le h.rng q).2
theorem rows_length {d : Den} (hr : rightS d = true) : d.rows.length = d.accept.length := by
  obtain ⟨_, h2, _⟩ := rightS_parts hr
  simp [Den.rows, h2]
theorem sp_iff {d : Den} (hr : rightS d = true) {cls : List Int} (h : ClsInv d cls) {p q : Nat} (hp : p < d.accept.length) (hq : q < d.accept.length) :
    (denL (spN cls d.rows)).getD p 0 = (denL (spN cls d.rows)).getD q 0 ↔ cls.getD p 0 = cls.getD q 0 ∧ ∀ a, a < 2 ^ d.tracks.length → cls.getD (stepN d.rows p a) 0 = cls.getD (stepN d.rows q a) 0 := by
  have hl := rows_length hr
  rw [denL_iff (by simp [spN]; omega) (by simp [spN]; omega), ← spV_iff (by omega) (by omega) (rows_len hr) (cls_nonneg h p) (cls_nonneg h q)]
  have e : ∀ x, x < d.accept.length → (spN cls d.rows).getD x 0 = (spV cls d.rows x : Int) := fun x hx => by
    rw [List.getD_eq_getElem?_getD, spN, List.getElem?_map, List.getElem?_range (by omega)]; rfl
  rw [e p hp, e q hq]
  omega
theorem sp_inv {d : Den} (hr : rightS d = true) {cls : List Int} (h : ClsInv d cls) : ClsInv d (denL (spN cls d.rows)) := by
  have hl := rows_length hr
  have h256 := (tracksS_parts (rightS_parts hr).1).2.2.2
  have hsl : (spN cls d.rows).length = d.accept.length := by simp [spN, hl]
  refine ⟨by rw [denL_length, hsl], fun v hv => ?_, fun p q hp hq e => h.acc p q hp hq ((sp_iff hr h hp hq).1 e).1, fun p q hp hq e => ?_⟩
  · have := denL_range hv; omega
  · by_cases hc : cls.getD p 0 = cls.getD q 0
    · have : ¬ ∀ a, a < 2 ^ d.tracks.length → cls.getD (stepN d.rows p a) 0 = cls.getD (stepN d.rows q a) 0 := fun k => e ((sp_iff hr h hp hq).2 ⟨hc, k⟩)
      have : ∃ a, a < 2 ^ d.tracks.length ∧ cls.getD (stepN d.rows p a) 0 ≠ cls.getD (stepN d.rows q a) 0 :=
        Classical.byContradiction fun k => this fun a ha => Classical.byContradiction fun k' => k ⟨a, ha, k'⟩
      obtain ⟨a, ha, hne⟩ := this
      obtain ⟨_, _, _, p1⟩ := stepN_ok hr hp ha
      obtain ⟨_, _, _, q1⟩ := stepN_ok hr hq ha
      obtain ⟨w, hw, hd⟩ := h.apart _ _ p1 q1 hne
      exact ⟨a :: w, fun b hb => by
        rcases List.mem_cons.1 hb with rfl | hb
        · exact ha
        · exact hw b hb, hd⟩
    · exact h.apart p q hp hq hc
theorem sp_more {d : Den} (hr : rightS d = true) {cls : List Int} (h : ClsInv d cls) : disN cls ≤ disN (spN cls d.rows) := by
  have hl := rows_length hr
  have hlen := h.len
  rw [← dis_den (spN cls d.rows)]
  refine (dis_refine (by rw [denL_length]; simp [spN]; omega) fun i j hi hj e => ?_).1
  exact ((sp_iff hr h (by omega) (by omega)).1 e).1
/-- Where their number stays, alike ones share a class, and only they. -/
theorem sp_done {d : Den} (hr : rightS d = true) {cls : List Int} (h : ClsInv d cls) (he : disN (spN cls d.rows) = disN cls) {p q : Nat} (hp : p < d.accept.length) (hq : q < d.accept.length) :
    (denL (spN cls d.rows)).getD p 0 = (denL (spN cls d.rows)).getD q 0 ↔ Alike d p q := by
  have hl := rows_length hr
  have hlen := h.len
  have hb := (dis_refine (l := cls) (m := denL (spN cls d.rows)) (by rw [denL_length]; simp [spN]; omega) fun i j hi hj e => ((sp_iff hr h (by omega) (by omega)).1 e).1).2 (by rw [dis_den]; omega)
  constructor
  · intro e w
    induction w generalizing p q with
    | nil => exact fun _ => h.acc p q hp hq ((sp_iff hr h hp hq).1 e).1
    | cons a w ih =>
      intro hw
      have ha := hw a (by simp)
      obtain ⟨_, _, _, p1⟩ := stepN_ok hr hp ha
      obtain ⟨_, _, _, q1⟩ := stepN_ok hr hq ha
      exact ih p1 q1 (hb _ _ (by omega) (by omega) (((sp_iff hr h hp hq).1 e).2 a ha)) fun b hb => hw b (by simp [hb])
  · intro k
    refine Classical.byContradiction fun hne => ?_
    obtain ⟨w, hw, hd⟩ := (sp_inv hr h).apart p q hp hq hne
    exact hd (k w hw)

theorem cls0_inv (d : Den) : ClsInv d (cls0 d.accept) := by
  have e : ∀ p, p < d.accept.length → (cls0 d.accept).getD p 0 = if accN d.accept p = true then 1 else 0 := fun p hp => by
    simp [cls0, accN, List.getD_eq_getElem?_getD, hp]
  refine ⟨by simp [cls0], fun v hv => ?_, fun p q hp hq h => ?_, fun p q hp hq h => ⟨[], fun a ha => absurd ha (by simp), ?_⟩⟩
  · obtain ⟨b, _, rfl⟩ := List.mem_map.1 hv
    cases b <;> simp
  · rw [e p hp, e q hq] at h
    cases h1 : accN d.accept p <;> cases h2 : accN d.accept q <;> simp_all
  · rw [e p hp, e q hq] at h
    simp only [runN, List.foldl_nil]
    intro k
    rw [k] at h
    exact h rfl

/-- What the classes are: alike states share one, and only they. -/
structure Ner (d : Den) (cls : List Int) : Prop where
  len : cls.length = d.accept.length
  rng : ∀ v ∈ cls, 0 ≤ v ∧ v ≤ 300
  iff : ∀ p q, p < d.accept.length → q < d.accept.length → (cls.getD p 0 = cls.getD q 0 ↔ Alike d p q)

theorem clsL_ner {d : Den} (hr : rightS d = true) : ∀ (f : Nat) (cls : List Int) (c : Nat), ClsInv d cls → (c = 0 ∨ c = disN cls) → d.accept.length + 1 ≤ f + c → Ner d (clsL d.rows f cls c)
  | 0, cls, c, h, hc, hf => by
    have := dis_le cls
    have := h.len
    omega
  | f + 1, cls, c, h, hc, hf => by
    rw [clsL]
    have hl := rows_length hr
    have hpos := right_pos hr
    have hi := sp_inv hr h
    split
    · rename_i he
      have hp : 0 < disN (spN cls d.rows) := dis_pos (by rw [spN, List.length_map, List.length_range]; omega)
      have hc : c = disN cls := by omega
      exact ⟨hi.len, hi.rng, fun p q hp hq => sp_done hr h (by omega) hp hq⟩
    · have := sp_more hr h
      exact clsL_ner hr f _ _ hi (.inr (dis_den _).symm) (by omega)
theorem clsD_ner {d : Den} (hr : rightS d = true) : Ner d (clsD d) := clsL_ner hr _ _ _ (cls0_inv d) (.inl rfl) (Nat.le_refl _)

end Tab

/- canon.classes, canon.Classes. -/
namespace Tab
open Go Go.Proofs
set_option maxRecDepth 10000
set_option linter.unusedVariables false
set_option linter.unusedSimpArgs false
set_option linter.unusedSectionVars false

def initF (acc : List Bool) (j : Nat) : Int := if accN acc j then 1 else 0
theorem init_cls0 (acc : List Bool) : (List.range acc.length).map (initF acc) = cls0 acc := by
  refine List.ext_getElem (by simp [cls0]) fun i h1 h2 => ?_
  have hi : i < acc.length := by simpa using h1
  simp [initF, cls0, accN, List.getD_eq_getElem?_getD, hi]
theorem partL_skip {f : Nat → Int} {n a : Nat} (h : f a = 0) : partL f n (a + 1) = partL f n a := by
  rw [partL, partL]
  refine List.map_congr_left fun j _ => ?_
  by_cases e : j = a
  · subst e; simp [h]
  · by_cases h1 : j < a
    · rw [if_pos h1, if_pos (by omega)]
    · rw [if_neg h1, if_neg (by omega)]

/-- Of each state the least one alike. -/
def lstD (d : Den) : List Int := (clsD d).map fun c => ((clsD d).idxOf c : Int)
theorem lstD_length {d : Den} (hr : rightS d = true) : (lstD d).length = d.accept.length := by rw [lstD, List.length_map]; exact (clsD_ner hr).len

end Tab

/- canon.Minimal. -/
namespace Tab
open Go Go.Proofs
set_option maxRecDepth 10000
set_option linter.unusedVariables false
set_option linter.unusedSimpArgs false
set_option linter.unusedSectionVars false

def lstN (d : Den) (q : Nat) : Nat := ((lstD d).getD q 0).toNat
theorem lst_cast {d : Den} {q : Nat} (h : q < (clsD d).length) : (lstD d).getD q 0 = (lstN d q : Int) ∧ lstN d q < (clsD d).length := by
  have e : (lstD d).getD q 0 = ((clsD d).idxOf (clsD d)[q] : Int) := by simp [lstD, List.getD_eq_getElem?_getD, h]
  have := List.idxOf_lt_length_of_mem (List.getElem_mem h)
  constructor
  · rw [lstN, e]; simp
  · rw [lstN, e]; simpa using this
/-- Where a state leads, letter by letter, in classes. -/
def minF (d : Den) (q : Nat) : List Nat := (List.range (2 ^ d.tracks.length)).map fun a => lstN d (stepN d.rows q a)
theorem minF_length (d q) : (minF d q).length = 2 ^ d.tracks.length := by simp [minF]
def minR (d : Den) : List Nat := expl (minF d) 300 0 [0]
def minD (d : Den) : Den := ⟨.any, d.tracks, .any, (minR d).map (accN d.accept), .any, (minR d).map fun q => (.any, rowX (minF d) (minR d) q)⟩

def numL (n : Nat) (L : List Nat) : List Int := (List.range n).map fun j => if j ∈ L then (L.idxOf j : Int) else -1
theorem numL_length (n L) : (numL n L).length = n := by simp [numL]
theorem numL_get {n L j} (h : j < n) : (numL n L)[j]'(by rw [numL_length]; exact h) = if j ∈ L then (L.idxOf j : Int) else -1 := by simp [numL]
theorem numL_set {n : Nat} {L : List Nat} {x : Nat} (hx : x ∉ L) : (numL n L).set x (L.length : Int) = numL n (L ++ [x]) := by
  refine List.ext_getElem (by simp [numL]) fun j h1 h2 => ?_
  simp only [numL, List.getElem_set, List.getElem_map, List.getElem_range, List.mem_append, List.mem_singleton, List.idxOf_append]
  by_cases e : x = j
  · subst e; simp [hx]
  · have e' : ¬ j = x := fun k => e k.symm
    rw [if_neg e]
    by_cases hj : j ∈ L
    · simp [hj]
    · simp [hj, e']
theorem numL_nil (n : Nat) : numL n [] = List.replicate n (-1) := by
  refine List.ext_getElem (by simp [numL]) fun j h1 h2 => ?_
  simp [numL]

end Tab

/- What machines take, as languages; the canonical machine out of the language alone. -/
namespace Tab
open Go Go.Proofs
set_option maxRecDepth 10000
set_option linter.unusedVariables false
set_option linter.unusedSimpArgs false
set_option linter.unusedSectionVars false

abbrev Lang := List Nat → Bool
def letB (k : Nat) (w : List Nat) : Bool := w.all fun a => decide (a < 2 ^ k)
theorem letB_iff {k w} : letB k w = true ↔ Lets k w := by simp [letB, Lets]
/-- What is taken from a state on. -/
def langR (d : Den) (p : Nat) : Lang := fun w => letB d.tracks.length w && accN d.accept (runN d.rows p w)
def lang (d : Den) : Lang := langR d 0
theorem langR_let {d p w} (h : Lets d.tracks.length w) : langR d p w = accN d.accept (runN d.rows p w) := by rw [langR, letB_iff.2 h, Bool.true_and]
theorem alike_iff {d : Den} {p q : Nat} : Alike d p q ↔ langR d p = langR d q := by
  constructor
  · intro h
    funext w
    rw [langR, langR]
    cases e : letB d.tracks.length w with
    | false => rfl
    | true => rw [Bool.true_and, Bool.true_and, h w (letB_iff.1 e)]
  · intro h w hw
    rw [← langR_let hw, h, langR_let hw]
theorem langR_cons {d : Den} {p a : Nat} {w : List Nat} (ha : a < 2 ^ d.tracks.length) : langR d p (a :: w) = langR d (stepN d.rows p a) w := by
  simp only [langR, letB, List.all_cons, ha, decide_true, Bool.true_and, runN, List.foldl_cons]
theorem takesB_lang {d : Den} {w : List Nat} (h : Lets d.tracks.length w) : takesB d w = lang d w := by rw [lang, langR_let h]; rfl

section
variable {d : Den} (hr : rightS d = true)
include hr
theorem lst_alike {p : Nat} (hp : p < d.accept.length) : lstN d p < d.accept.length ∧ langR d (lstN d p) = langR d p := by
  have hn := clsD_ner hr
  have hl := hn.len
  obtain ⟨c1, c2⟩ := lst_cast (d := d) (q := p) (by omega)
  refine ⟨by omega, alike_iff.1 ((hn.iff _ _ (by omega) hp).1 ?_)⟩
  have hp' : p < (clsD d).length := by omega
  have e : (lstD d).getD p 0 = ((clsD d).idxOf (clsD d)[p] : Int) := by simp [lstD, List.getD_eq_getElem?_getD, hp']
  have hm := List.idxOf_lt_length_of_mem (List.getElem_mem hp')
  have e2 : lstN d p = (clsD d).idxOf (clsD d)[p] := by omega
  rw [e2, List.getD_eq_getElem?_getD, List.getElem?_eq_getElem hm, List.getElem_idxOf, List.getD_eq_getElem?_getD, List.getElem?_eq_getElem hp']
theorem lst_eq {p q : Nat} (hp : p < d.accept.length) (hq : q < d.accept.length) (h : langR d p = langR d q) : lstN d p = lstN d q := by
  have hn := clsD_ner hr
  have hl := hn.len
  have hc := (hn.iff p q hp hq).2 (alike_iff.2 h)
  have e : ∀ x, x < d.accept.length → lstN d x = (clsD d).idxOf ((clsD d).getD x 0) := fun x hx => by
    have hx' : x < (clsD d).length := by omega
    simp [lstN, lstD, List.getD_eq_getElem?_getD, hx']
  rw [e p hp, e q hq, hc]
theorem lst_zero : lstN d 0 = 0 := by
  have hl := (clsD_ner hr).len
  have hp := right_pos hr
  have hx : 0 < (clsD d).length := by omega
  have e : lstN d 0 = (clsD d).idxOf (clsD d)[0] := by simp [lstN, lstD, List.getD_eq_getElem?_getD, hx]
  rw [e]
  obtain ⟨x, l, h⟩ : ∃ x l, clsD d = x :: l := by
    cases e : clsD d with
    | nil => rw [e] at hx; simp at hx
    | cons x l => exact ⟨x, l, rfl⟩
  simp [h]

/-- Least ones of their classes. -/
def Least (d : Den) (q : Nat) : Prop := q < d.accept.length ∧ lstN d q = q
omit hr in
theorem minF_get {q a : Nat} (ha : a < 2 ^ d.tracks.length) : (minF d q)[a]? = some (lstN d (stepN d.rows q a)) := by
  rw [minF, List.getElem?_map, List.getElem?_range ha]; rfl
omit hr in
theorem minF_mem {q t : Nat} (h : t ∈ minF d q) : ∃ a, a < 2 ^ d.tracks.length ∧ t = lstN d (stepN d.rows q a) := by
  obtain ⟨a, ha, rfl⟩ := List.mem_map.1 h
  exact ⟨a, List.mem_range.1 ha, rfl⟩
theorem least_lst {p : Nat} (hp : p < d.accept.length) : Least d (lstN d p) := by
  obtain ⟨h1, h2⟩ := lst_alike hr hp
  exact ⟨h1, lst_eq hr h1 hp h2⟩
theorem least_step {q : Nat} (h : Least d q) : ∀ t ∈ minF d q, Least d t := fun t ht => by
  obtain ⟨a, ha, rfl⟩ := minF_mem ht
  exact least_lst hr (stepN_ok hr h.1 ha).2.2.2
theorem least_zero : Least d 0 := ⟨right_pos hr, lst_zero hr⟩
theorem least_inj {p q : Nat} (hp : Least d p) (hq : Least d q) (h : langR d p = langR d q) : p = q := by
  rw [← hp.2, ← hq.2]; exact lst_eq hr hp.1 hq.1 h

theorem minR_least : ∀ q ∈ minR d, Least d q := expl_all (fun s hs => least_step hr hs) 300 0 [0] (by simpa using least_zero hr)
omit hr in
theorem minR_nodup : (minR d).Nodup := expl_nodup 300 0 [0] (by simp)
theorem minR_len : (minR d).length ≤ d.accept.length := nodup_le minR_nodup fun q hq => (minR_least hr q hq).1
theorem minR_closed : ∀ s ∈ minR d, ∀ t ∈ minF d s, t ∈ minR d := by
  have h1 := minR_len hr
  have h2 := (tracksS_parts (rightS_parts hr).1).2.2.2
  exact expl_closed 300 0 [0] (fun i hi => by omega) (by show (minR d).length ≤ 0 + 300; omega)
omit hr in
theorem minR_zero : (minR d)[0]? = some 0 := by
  obtain ⟨r, h⟩ := expl_prefix (f := minF d) 300 0 [0]
  rw [minR, h]; rfl

/-! ### The canonical machine of a language -/

omit hr in
def langF (k : Nat) (K : Lang) : List Lang := (List.range (2 ^ k)).map fun a w => K (a :: w)
noncomputable def canL (k : Nat) (K : Lang) : List Lang := @expl Lang (Classical.typeDecidableEq _) (langF k) 300 0 [K]
noncomputable def canRow (k : Nat) (K J : Lang) : List Int := @rowX Lang (Classical.typeDecidableEq _) (langF k) (canL k K) J

theorem minF_lang {q : Nat} (h : Least d q) : (minF d q).map (langR d) = langF d.tracks.length (langR d q) := by
  rw [minF, langF, List.map_map]
  refine List.map_congr_left fun a ha => ?_
  have ha := List.mem_range.1 ha
  rw [Function.comp_apply, (lst_alike hr (stepN_ok hr h.1 ha).2.2.2).2]
  funext w
  exact (langR_cons ha).symm
theorem minR_lang : (minR d).map (langR d) = canL d.tracks.length (lang d) :=
  letI := Classical.typeDecidableEq Lang
  expl_map (f := minF d) (f' := langF d.tracks.length) (langR d) (Q := Least d) (fun s hs => least_step hr hs) (fun x y hx hy h => least_inj hr hx hy h) (fun s hs => minF_lang hr hs) 300 0 [0] (by simpa using least_zero hr)
theorem minD_accept : (minD d).accept = (canL d.tracks.length (lang d)).map fun K => K [] := by
  rw [← minR_lang hr, List.map_map]
  refine List.map_congr_left fun q _ => ?_
  rw [Function.comp_apply, langR_let (fun a ha => absurd ha (by simp))]; rfl
theorem minD_rows : (minD d).rows = (canL d.tracks.length (lang d)).map fun J => canRow d.tracks.length (lang d) J := by
  have e : (minD d).rows = (minR d).map (rowX (minF d) (minR d)) := by simp [minD, Den.rows, Function.comp_def]
  rw [e, ← minR_lang hr, List.map_map]
  refine List.map_congr_left fun q hq => ?_
  have hl := minR_least hr q hq
  have h := @rowX_map _ _ _ (Classical.typeDecidableEq Lang) (minF d) (langF d.tracks.length) (langR d) (minR d) q (minF_lang hr hl) fun x hx y hy e => least_inj hr (minR_least hr y hy) (least_step hr hl x hx) e
  rw [Function.comp_apply, canRow, ← minR_lang hr]
  exact h.symm
end

/-- Machines over the same tracks that take the same have one canonical machine. -/
theorem minD_same {d e : Den} (hd : rightS d = true) (he : rightS e = true) (ht : d.tracks = e.tracks) (h : lang d = lang e) : sameD (minD d) (minD e) = true := by
  rw [sameD_eq, minD_accept hd, minD_accept he, minD_rows hd, minD_rows he, ht, h]
  simp [show (minD d).tracks = (minD e).tracks from ht]

/-! ### The canonical machine takes the same -/

section
variable {d : Den} (hr : rightS d = true)
include hr
theorem min_idx {i a : Nat} (hi : i < (minR d).length) (ha : a < 2 ^ d.tracks.length) :
    ∃ h : stepN (minD d).rows i a < (minR d).length, (minR d)[stepN (minD d).rows i a] = lstN d (stepN d.rows (minR d)[i] a) := by
  have hm := minR_closed hr _ (List.getElem_mem hi) _ (List.mem_of_getElem? (minF_get (q := (minR d)[i]) ha))
  have hlt := List.idxOf_lt_length_of_mem hm
  have e1 : (minD d).rows.getD i [] = rowX (minF d) (minR d) (minR d)[i] := by
    simp [minD, Den.rows, List.getD_eq_getElem?_getD, hi]
  have e : stepN (minD d).rows i a = (minR d).idxOf (lstN d (stepN d.rows (minR d)[i] a)) := by
    rw [stepN, e1, rowX, List.getD_eq_getElem?_getD, List.getElem?_map, minF_get ha]; rfl
  refine ⟨by rw [e]; exact hlt, ?_⟩
  simp only [e]
  exact List.getElem_idxOf hlt
theorem min_right : rightS (minD d) = true := by
  obtain ⟨h1, h2, h3⟩ := rightS_parts hr
  obtain ⟨k1, k2, k3, k4⟩ := tracksS_parts h1
  have hl := minR_len hr
  have hpos : 0 < (minR d).length := by
    have := (List.getElem?_eq_some_iff.1 (minR_zero (d := d))).1; omega
  have ha : (minD d).accept.length = (minR d).length := by simp [minD]
  rw [rightS, show (minD d).tracks = d.tracks from rfl, ha, tracksS_mk k1 k2 (by omega) (by omega), decide_eq_true (by simp [minD] : (minD d).next.length = (minR d).length)]
  simp only [Bool.true_and, List.all_eq_true]
  intro r hrr
  simp only [minD, List.mem_map] at hrr
  obtain ⟨q, hq, rfl⟩ := hrr
  rw [rowOk, decide_eq_true (by rw [rowX, List.length_map, minF_length]), Bool.true_and, List.all_eq_true]
  intro x hx
  obtain ⟨t, ht, rfl⟩ := List.mem_map.1 hx
  have := List.idxOf_lt_length_of_mem (minR_closed hr q hq t ht)
  simp
  omega
theorem min_langR : ∀ (w : List Nat) {i : Nat} (hi : i < (minR d).length), langR (minD d) i w = langR d (minR d)[i] w
  | [], i, hi => by
    rw [langR, langR]
    simp only [letB, List.all_nil, runN, List.foldl_nil, Bool.true_and]
    simp [accN, minD, List.getD_eq_getElem?_getD, hi]
  | a :: w, i, hi => by
    by_cases ha : a < 2 ^ d.tracks.length
    · obtain ⟨h1, h2⟩ := min_idx hr hi ha
      rw [langR_cons (d := minD d) ha, langR_cons ha, min_langR w h1, h2]
      have := (lst_alike hr (stepN_ok hr (minR_least hr _ (List.getElem_mem hi)).1 ha).2.2.2).2
      rw [this]
    · simp [langR, letB, ha, show (minD d).tracks = d.tracks from rfl]
theorem min_lang : lang (minD d) = lang d := by
  obtain ⟨h, e⟩ := List.getElem?_eq_some_iff.1 (minR_zero (d := d))
  funext w
  rw [lang, min_langR hr w h, e]; rfl

/-! ### Sound -/

/-- A language that says a sign again and again alike, and not the empty word. -/
def SoundL (k : Nat) (K : Lang) : Prop := K [] = false ∧ ∀ w a, Lets k w → a < 2 ^ k → K (w ++ [a]) = K (w ++ [a, a])
omit hr in
theorem run_append (rows : List (List Int)) (q : Nat) (u v : List Nat) : runN rows q (u ++ v) = runN rows (runN rows q u) v := by simp [runN]
theorem min_reach : ∀ q ∈ minR d, ∃ w, Lets d.tracks.length w ∧ langR d q = langR d (runN d.rows 0 w) := by
  refine fun q hq => (expl_all (Q := fun q => q < d.accept.length ∧ ∃ w, Lets d.tracks.length w ∧ langR d q = langR d (runN d.rows 0 w)) ?_ 300 0 [0] ?_ q hq).2
  · rintro s ⟨hs, w, hw, e⟩ t ht
    obtain ⟨a, ha, rfl⟩ := minF_mem ht
    have h1 := stepN_ok hr hs ha
    refine ⟨(lst_alike hr h1.2.2.2).1, w ++ [a], fun b hb => ?_, ?_⟩
    · rcases List.mem_append.1 hb with hb | hb
      · exact hw b hb
      · simp at hb; omega
    · rw [(lst_alike hr h1.2.2.2).2, run_append]
      funext v
      show _ = langR d (stepN d.rows (runN d.rows 0 w) a) v
      rw [← langR_cons ha, ← langR_cons ha, e]
  · intro s hs
    simp at hs; subst hs
    exact ⟨right_pos hr, [], fun a ha => absurd ha (by simp), rfl⟩
theorem min_hit : ∀ (w : List Nat), Lets d.tracks.length w → ∃ q ∈ minR d, langR d q = langR d (runN d.rows 0 w) := by
  intro w hw
  have h0 : 0 ∈ minR d := List.mem_of_getElem? minR_zero
  suffices h : ∀ (w : List Nat) (q p : Nat), Lets d.tracks.length w → q ∈ minR d → p < d.accept.length → langR d q = langR d p → ∃ t ∈ minR d, langR d t = langR d (runN d.rows p w) from
    h w 0 0 hw h0 (right_pos hr) rfl
  intro w
  induction w with
  | nil => exact fun q p _ hq _ e => ⟨q, hq, e⟩
  | cons a w ih =>
    intro q p hw hq hp e
    have ha := hw a (by simp)
    have hq1 := stepN_ok hr (minR_least hr q hq).1 ha
    have hp1 := stepN_ok hr hp ha
    refine ih (lstN d (stepN d.rows q a)) (stepN d.rows p a) (fun b hb => hw b (by simp [hb])) (minR_closed hr q hq _ (List.mem_of_getElem? (minF_get ha))) hp1.2.2.2 ?_
    rw [(lst_alike hr hq1.2.2.2).2]
    funext v
    rw [← langR_cons ha, ← langR_cons ha, e]

/-- What the program looks at: no state's letter is told otherwise behind itself. -/
def soundS (m : Den) : Bool := !(accN m.accept 0) && (List.range m.accept.length).all fun i => (List.range (2 ^ m.tracks.length)).all fun a => decide (accN m.accept (stepN m.rows i a) = accN m.accept (stepN m.rows (stepN m.rows i a) a))
theorem sound_iff : soundS (minD d) = true ↔ SoundL d.tracks.length (lang d) := by
  have hm := min_right hr
  obtain ⟨hz, ez⟩ := List.getElem?_eq_some_iff.1 (minR_zero (d := d))
  have hacc : ∀ i (hi : i < (minR d).length), accN (minD d).accept i = langR d (minR d)[i] [] := fun i hi => by
    rw [← min_langR hr [] hi]; simp [langR, letB, runN]
  have hal : (minD d).accept.length = (minR d).length := by simp [minD]
  have hone : ∀ i (hi : i < (minR d).length) a, a < 2 ^ d.tracks.length → accN (minD d).accept (stepN (minD d).rows i a) = langR d (minR d)[i] [a] := fun i hi a ha => by
    rw [← min_langR hr [a] hi, langR_cons (d := minD d) ha]
    obtain ⟨h1, _⟩ := min_idx hr hi ha
    simp [langR, letB, runN]
  have htwo : ∀ i (hi : i < (minR d).length) a, a < 2 ^ d.tracks.length → accN (minD d).accept (stepN (minD d).rows (stepN (minD d).rows i a) a) = langR d (minR d)[i] [a, a] := fun i hi a ha => by
    rw [← min_langR hr [a, a] hi, langR_cons (d := minD d) ha, langR_cons (d := minD d) ha]
    simp [langR, letB, runN]
  have happ : ∀ (q : Nat) (w v : List Nat), Lets d.tracks.length w → langR d (runN d.rows q w) v = langR d q (w ++ v) := by
    intro q w v hw
    simp only [langR, letB, List.all_append, run_append]
    rw [show (w.all fun a => decide (a < 2 ^ d.tracks.length)) = true from letB_iff.2 hw, Bool.true_and]
  simp only [soundS, Bool.and_eq_true, Bool.not_eq_true', List.all_eq_true, List.mem_range, decide_eq_true_eq, hal, show (minD d).tracks = d.tracks from rfl]
  constructor
  · rintro ⟨h1, h2⟩
    refine ⟨?_, fun w a hw ha => ?_⟩
    · rw [hacc 0 hz, ez] at h1; exact h1
    · obtain ⟨q, hq, e⟩ := min_hit hr w hw
      obtain ⟨i, hi, rfl⟩ := List.getElem_of_mem hq
      have := h2 i hi a ha
      rw [hone i hi a ha, htwo i hi a ha, e, happ 0 w [a] hw, happ 0 w [a, a] hw] at this
      exact this
  · rintro ⟨h1, h2⟩
    refine ⟨by rw [hacc 0 hz, ez]; exact h1, fun i hi a ha => ?_⟩
    obtain ⟨w, hw, e⟩ := min_reach hr _ (List.getElem_mem hi)
    rw [hone i hi a ha, htwo i hi a ha, e, happ 0 w [a] hw, happ 0 w [a, a] hw]
    exact h2 w a hw ha
end

end Tab

/- The first word, by length and then by letters, to a place that is told: plain. -/
namespace Tab
open Go
set_option maxRecDepth 10000
set_option linter.unusedVariables false
set_option linter.unusedSimpArgs false
set_option linter.unusedSectionVars false

/-- By letters, of words of one length. -/
def lexL : List Nat → List Nat → Bool
  | a :: u, b :: v => decide (a < b) || (decide (a = b) && lexL u v)
  | _, _ => false
theorem lexL_snoc : ∀ {u v : List Nat} (a b : Nat), u.length = v.length → lexL (u ++ [a]) (v ++ [b]) = (lexL u v || (decide (u = v) && decide (a < b)))
  | [], [], a, b, _ => by simp [lexL]
  | x :: u, y :: v, a, b, h => by
    have ih := lexL_snoc (u := u) (v := v) a b (by simpa using h)
    simp only [List.cons_append, lexL, ih, List.cons.injEq]
    by_cases h1 : x < y <;> by_cases h2 : x = y <;> simp [h1, h2]
theorem lexL_tri : ∀ {u v : List Nat}, u.length = v.length → lexL u v = true ∨ u = v ∨ lexL v u = true
  | [], [], _ => .inr (.inl rfl)
  | x :: u, y :: v, h => by
    simp only [lexL, Bool.or_eq_true, Bool.and_eq_true, decide_eq_true_eq, List.cons.injEq]
    rcases Nat.lt_trichotomy x y with k | k | k
    · exact .inl (.inl k)
    · subst k
      rcases lexL_tri (u := u) (v := v) (by simpa using h) with k | k | k
      · exact .inl (.inr ⟨rfl, k⟩)
      · exact .inr (.inl ⟨rfl, k⟩)
      · exact .inr (.inr (.inr ⟨rfl, k⟩))
    · exact .inr (.inr (.inl k))
theorem lexL_trans : ∀ {u v w : List Nat}, lexL u v = true → lexL v w = true → lexL u w = true
  | a :: u, b :: v, c :: w, h1, h2 => by
    simp only [lexL, Bool.or_eq_true, Bool.and_eq_true, decide_eq_true_eq] at h1 h2 ⊢
    rcases h1 with h1 | ⟨rfl, h1⟩ <;> rcases h2 with h2 | ⟨rfl, h2⟩
    · exact .inl (by omega)
    · exact .inl h1
    · exact .inl h2
    · exact .inr ⟨rfl, lexL_trans h1 h2⟩
  | [], _, _, h, _ => by simp [lexL] at h
  | _ :: _, [], _, h, _ => by simp [lexL] at h
  | _ :: _, _ :: _, [], _, h => by simp [lexL] at h
theorem lexL_irr : ∀ (u : List Nat), lexL u u = false
  | [] => rfl
  | a :: u => by simp [lexL, lexL_irr u]

/-- The shorter ahead, then by letters. -/
def slt (u v : List Nat) : Prop := u.length < v.length ∨ (u.length = v.length ∧ lexL u v = true)
def sle (u v : List Nat) : Prop := slt u v ∨ u = v
theorem slt_irr (u : List Nat) : ¬ slt u u := by rintro (h | ⟨_, h⟩); omega; rw [lexL_irr] at h; simp at h
theorem slt_trans {u v w : List Nat} (h1 : slt u v) (h2 : slt v w) : slt u w := by
  rcases h1 with h1 | ⟨e1, h1⟩ <;> rcases h2 with h2 | ⟨e2, h2⟩
  · exact .inl (by omega)
  · exact .inl (by omega)
  · exact .inl (by omega)
  · exact .inr ⟨by omega, lexL_trans h1 h2⟩
theorem slt_tri (u v : List Nat) : slt u v ∨ u = v ∨ slt v u := by
  rcases Nat.lt_trichotomy u.length v.length with h | h | h
  · exact .inl (.inl h)
  · rcases lexL_tri h with k | k | k
    · exact .inl (.inr ⟨h, k⟩)
    · exact .inr (.inl k)
    · exact .inr (.inr (.inr ⟨h.symm, k⟩))
  · exact .inr (.inr (.inl h))
theorem sle_trans {u v w : List Nat} (h1 : sle u v) (h2 : sle v w) : sle u w := by
  rcases h1 with h1 | rfl
  · rcases h2 with h2 | rfl
    · exact .inl (slt_trans h1 h2)
    · exact .inl h1
  · exact h2
theorem sle_antisymm {u v : List Nat} (h1 : sle u v) (h2 : sle v u) : u = v := by
  rcases h1 with h1 | rfl
  · rcases h2 with h2 | rfl
    · exact absurd (slt_trans h1 h2) (slt_irr _)
    · rfl
  · rfl
theorem sle_of_not {u v : List Nat} (h : ¬ slt v u) : sle u v := by
  rcases slt_tri u v with k | k | k
  · exact .inl k
  · exact .inr k
  · exact absurd k h
theorem slt_snoc {u v : List Nat} (a b : Nat) (h : slt u v) : slt (u ++ [a]) (v ++ [b]) := by
  rcases h with h | ⟨e, h⟩
  · exact .inl (by simpa using h)
  · exact .inr ⟨by simpa using e, by rw [lexL_snoc a b e, h]; rfl⟩
theorem slt_last (u : List Nat) {a b : Nat} (h : a < b) : slt (u ++ [a]) (u ++ [b]) := .inr ⟨by simp, by rw [lexL_snoc a b rfl]; simp [h]⟩
theorem sle_snoc {u v : List Nat} (a : Nat) (h : sle u v) : sle (u ++ [a]) (v ++ [a]) := by
  rcases h with h | rfl
  · exact .inl (slt_snoc a a h)
  · exact .inr rfl
theorem slt_grow (u : List Nat) (a : Nat) : slt u (u ++ [a]) := .inl (by simp)

section
variable {σ : Type} (step : σ → Nat → σ) (s0 : σ) (K : Nat)
def runG (w : List Nat) : σ := w.foldl step s0
theorem runG_snoc (w : List Nat) (a : Nat) : runG step s0 (w ++ [a]) = step (runG step s0 w) a := by simp [runG]

/-- The places that are met, with their first words: the places up to i are done, of place i the letters below a. -/
structure Bf (L : List σ) (W : List (List Nat)) (i a : Nat) : Prop where
  len : W.length = L.length
  zero : W[0]? = some []
  le : a ≤ K
  run : ∀ (j : Nat) (w : List Nat), W[j]? = some w → L[j]? = some (runG step s0 w) ∧ ∀ x ∈ w, x < K
  inc : ∀ (j j' : Nat) (w w' : List Nat), j < j' → W[j]? = some w → W[j']? = some w' → slt w w'
  from' : ∀ (j : Nat) (w : List Nat), 0 < j → W[j]? = some w → ∃ (j0 : Nat) (w0 : List Nat) (a0 : Nat), j0 < j ∧ W[j0]? = some w0 ∧ w = w0 ++ [a0] ∧ a0 < K ∧ (j0 < i ∨ (j0 = i ∧ a0 < a))
  done : ∀ (j0 : Nat) (w0 : List Nat) (a0 : Nat), W[j0]? = some w0 → a0 < K → (j0 < i ∨ (j0 = i ∧ a0 < a)) → ∃ (j : Nat) (w : List Nat), 0 < j ∧ W[j]? = some w ∧ runG step s0 w = step (runG step s0 w0) a0 ∧ sle w (w0 ++ [a0])

theorem Bf.start : Bf step s0 K [s0] [[]] 0 0 where
  len := rfl
  zero := rfl
  le := Nat.zero_le _
  run := by
    intro j w h
    cases j with
    | zero => simp at h; subst h; exact ⟨rfl, by simp⟩
    | succ j => simp at h
  inc := by
    intro j j' w w' hj _ h
    cases j' with
    | zero => omega
    | succ j' => simp at h
  from' := by
    intro j w hj h
    cases j with
    | zero => omega
    | succ j => simp at h
  done := by
    intro j0 w0 a0 _ _ h
    omega

variable {step s0 K}
variable {L : List σ} {W : List (List Nat)} {i a : Nat}
theorem Bf.next (h : Bf step s0 K L W i a) (ha : a = K) : Bf step s0 K L W (i + 1) 0 where
  len := h.len
  zero := h.zero
  le := Nat.zero_le _
  run := h.run
  inc := h.inc
  from' := by
    intro j w hj hw
    obtain ⟨j0, w0, a0, h1, h2, h3, h4, h5⟩ := h.from' j w hj hw
    exact ⟨j0, w0, a0, h1, h2, h3, h4, .inl (by omega)⟩
  done := by
    intro j0 w0 a0 h1 h2 h3
    exact h.done j0 w0 a0 h1 h2 (by omega)
theorem Bf.hit (h : Bf step s0 K L W i a) (ha : a < K) {w : List Nat} (hi : W[i]? = some w) {j : Nat} (hj : 0 < j) (hL : L[j]? = some (step (runG step s0 w) a)) : Bf step s0 K L W i (a + 1) where
  len := h.len
  zero := h.zero
  le := ha
  run := h.run
  inc := h.inc
  from' := by
    intro j w hj hw
    obtain ⟨j0, w0, a0, h1, h2, h3, h4, h5⟩ := h.from' j w hj hw
    exact ⟨j0, w0, a0, h1, h2, h3, h4, by omega⟩
  done := by
    intro j0 w0 a0 h1 h2 h3
    by_cases e : j0 = i ∧ a0 = a
    · obtain ⟨rfl, rfl⟩ := e
      rw [hi, Option.some.injEq] at h1
      subst h1
      have hjl : j < W.length := by rw [h.len]; exact (List.getElem?_eq_some_iff.1 hL).1
      have hw' : W[j]? = some W[j] := List.getElem?_eq_getElem hjl
      obtain ⟨r1, _⟩ := h.run j _ hw'
      rw [hL, Option.some.injEq] at r1
      refine ⟨j, W[j], hj, hw', r1.symm, ?_⟩
      obtain ⟨j1, w1, a1, g1, g2, g3, g4, g5⟩ := h.from' j _ hj hw'
      rw [g3]
      rcases g5 with g5 | ⟨rfl, g5⟩
      · exact .inl (slt_snoc _ _ (h.inc j1 j0 _ _ g5 g2 hi))
      · rw [hi, Option.some.injEq] at g2
        subst g2
        exact .inl (slt_last _ g5)
    · exact h.done j0 w0 a0 h1 h2 (by omega)
theorem Bf.miss (h : Bf step s0 K L W i a) (ha : a < K) {w : List Nat} (hi : W[i]? = some w) : Bf step s0 K (L ++ [step (runG step s0 w) a]) (W ++ [w ++ [a]]) i (a + 1) := by
  have hil := (List.getElem?_eq_some_iff.1 hi).1
  have old : ∀ {j : Nat} {x : List Nat}, (W ++ [w ++ [a]])[j]? = some x → (W[j]? = some x ∧ j < W.length) ∨ (j = W.length ∧ x = w ++ [a]) := fun {j x} hj => by
    by_cases hl : j < W.length
    · rw [List.getElem?_append_left hl] at hj; exact .inl ⟨hj, hl⟩
    · rw [List.getElem?_append_right (by omega)] at hj
      obtain ⟨k1, k2⟩ := List.getElem?_eq_some_iff.1 hj
      simp at k1
      have : j = W.length := by omega
      subst this
      simp at k2
      exact .inr ⟨rfl, k2.symm⟩
  have new : ∀ {j : Nat} {x : List Nat}, W[j]? = some x → (W ++ [w ++ [a]])[j]? = some x := fun {j x} hj => by
    rw [List.getElem?_append_left (List.getElem?_eq_some_iff.1 hj).1]; exact hj
  refine ⟨by simp [h.len], new h.zero, ha, ?_, ?_, ?_, ?_⟩
  · intro j x hx
    rcases old hx with ⟨hx, hl⟩ | ⟨rfl, rfl⟩
    · obtain ⟨r1, r2⟩ := h.run j x hx
      exact ⟨by rw [List.getElem?_append_left (by rw [← h.len]; exact hl)]; exact r1, r2⟩
    · refine ⟨by rw [h.len, List.getElem?_append_right (Nat.le_refl _), runG_snoc]; simp, fun y hy => ?_⟩
      rcases List.mem_append.1 hy with hy | hy
      · exact (h.run i w hi).2 y hy
      · simp at hy; omega
  · intro j j' x x' hj hx hx'
    rcases old hx with ⟨hx, hl⟩ | ⟨rfl, rfl⟩
    · rcases old hx' with ⟨hx', hl'⟩ | ⟨rfl, rfl⟩
      · exact h.inc j j' x x' hj hx hx'
      · by_cases h0 : 0 < j
        · obtain ⟨j0, w0, a0, g1, g2, g3, g4, g5⟩ := h.from' j x h0 hx
          rw [g3]
          rcases g5 with g5 | ⟨rfl, g5⟩
          · exact slt_snoc _ _ (h.inc j0 i _ _ g5 g2 hi)
          · rw [hi, Option.some.injEq] at g2
            subst g2
            exact slt_last _ g5
        · have : j = 0 := by omega
          subst this
          rw [h.zero, Option.some.injEq] at hx
          subst hx
          exact .inl (by simp)
    · rcases old hx' with ⟨hx', hl'⟩ | ⟨rfl, rfl⟩ <;> omega
  · intro j x hj hx
    rcases old hx with ⟨hx, hl⟩ | ⟨rfl, rfl⟩
    · obtain ⟨j0, w0, a0, h1, h2, h3, h4, h5⟩ := h.from' j x hj hx
      exact ⟨j0, w0, a0, h1, new h2, h3, h4, by omega⟩
    · exact ⟨i, w, a, hil, new hi, rfl, ha, .inr ⟨rfl, by omega⟩⟩
  · intro j0 w0 a0 h1 h2 h3
    rcases old h1 with ⟨hw1, hl⟩ | ⟨rfl, rfl⟩
    · by_cases e : j0 = i ∧ a0 = a
      · obtain ⟨rfl, rfl⟩ := e
        rw [hi, Option.some.injEq] at hw1
        subst hw1
        exact ⟨W.length, w ++ [a0], by omega, by simp, runG_snoc _ _ _ _, .inr rfl⟩
      · obtain ⟨j, x, k1, k2, k3, k4⟩ := h.done j0 w0 a0 hw1 h2 (by omega)
        exact ⟨j, x, k1, new k2, k3, k4⟩
    · omega

/-- Each word leads to a place that is met, or isn't ahead of what comes next. -/
theorem Bf.cover (h : Bf step s0 K L W i a) {w : List Nat} (hi : W[i]? = some w) : ∀ (n : Nat) (v : List Nat), v.length = n → v ≠ [] → (∀ x ∈ v, x < K) → (∃ (j : Nat) (x : List Nat), 0 < j ∧ W[j]? = some x ∧ runG step s0 x = runG step s0 v ∧ sle x v) ∨ sle (w ++ [a]) v := by
  intro n
  induction n with
  | zero => intro v hv hne; exact absurd (List.length_eq_zero_iff.1 hv) hne
  | succ n ih =>
    intro v hv hne hx
    obtain ⟨u, c, rfl⟩ : ∃ u c, v = u ++ [c] := ⟨v.dropLast, v.getLast hne, (List.dropLast_concat_getLast hne).symm⟩
    have hc : c < K := hx c (by simp)
    have hu : ∀ x ∈ u, x < K := fun x h => hx x (by simp [h])
    have key : ∀ (j : Nat) (x : List Nat), W[j]? = some x → runG step s0 x = runG step s0 u → sle x u → (∃ (j : Nat) (x : List Nat), 0 < j ∧ W[j]? = some x ∧ runG step s0 x = runG step s0 (u ++ [c]) ∧ sle x (u ++ [c])) ∨ sle (w ++ [a]) (u ++ [c]) := by
      intro j x h1 h2 h3
      by_cases hp : j < i ∨ (j = i ∧ c < a)
      · obtain ⟨j', x', k1, k2, k3, k4⟩ := h.done j x c h1 hc hp
        exact .inl ⟨j', x', k1, k2, by rw [k3, runG_snoc, h2], sle_trans k4 (sle_snoc c h3)⟩
      · refine .inr (sle_trans ?_ (sle_snoc c h3))
        by_cases e : j = i
        · subst e
          rw [hi, Option.some.injEq] at h1
          subst h1
          by_cases e : a = c
          · subst e; exact .inr rfl
          · exact .inl (slt_last _ (by omega))
        · exact .inl (slt_snoc _ _ (h.inc i j _ _ (by omega) hi h1))
    by_cases he : u = []
    · subst he
      exact key 0 [] h.zero rfl (.inr rfl)
    · rcases ih u (by simpa using hv) he hu with ⟨j, x, _, k2, k3, k4⟩ | k
      · exact key j x k2 k3 k4
      · exact .inr (sle_trans k (.inl (slt_grow u c)))
theorem Bf.all (h : Bf step s0 K L W L.length 0) : ∀ (n : Nat) (v : List Nat), v.length = n → v ≠ [] → (∀ x ∈ v, x < K) → ∃ j : Nat, 0 < j ∧ L[j]? = some (runG step s0 v) := by
  have key : ∀ (j : Nat) (x u : List Nat) (c : Nat), W[j]? = some x → runG step s0 x = runG step s0 u → c < K → ∃ j' : Nat, 0 < j' ∧ ∃ x' : List Nat, W[j']? = some x' ∧ runG step s0 x' = runG step s0 (u ++ [c]) := by
    intro j x u c h1 h2 hc
    have hj := (List.getElem?_eq_some_iff.1 h1).1
    have hl := h.len
    obtain ⟨j', x', k1, k2, k3, _⟩ := h.done j x c h1 hc (.inl (by omega))
    exact ⟨j', k1, x', k2, by rw [k3, runG_snoc, h2]⟩
  have main : ∀ (n : Nat) (v : List Nat), v.length = n → v ≠ [] → (∀ x ∈ v, x < K) → ∃ j' : Nat, 0 < j' ∧ ∃ x' : List Nat, W[j']? = some x' ∧ runG step s0 x' = runG step s0 v := by
    intro n
    induction n with
    | zero => intro v hv hne; exact absurd (List.length_eq_zero_iff.1 hv) hne
    | succ n ih =>
      intro v hv hne hx
      obtain ⟨u, c, rfl⟩ : ∃ u c, v = u ++ [c] := ⟨v.dropLast, v.getLast hne, (List.dropLast_concat_getLast hne).symm⟩
      have hc : c < K := hx c (by simp)
      by_cases he : u = []
      · subst he
        exact key 0 [] [] c h.zero rfl hc
      · obtain ⟨j, _, x, k2, k3⟩ := ih u (by simpa using hv) he fun x h => hx x (by simp [h])
        exact key j x u c k2 k3 hc
  intro n v h1 h2 h3
  obtain ⟨j, hj, x, k1, k2⟩ := main n v h1 h2 h3
  exact ⟨j, hj, by rw [← k2]; exact (h.run j x k1).1⟩

/-- The first word that is told of, if there is one. -/
def FirstW (K : Nat) (T : List Nat → Bool) (o : Option (List Nat)) : Prop := match o with
  | none => ∀ v, v ≠ [] → (∀ x ∈ v, x < K) → T v = false
  | some w => w ≠ [] ∧ (∀ x ∈ w, x < K) ∧ T w = true ∧ ∀ v, v ≠ [] → (∀ x ∈ v, x < K) → T v = true → sle w v
theorem FirstW.unique {K : Nat} {T : List Nat → Bool} {o o' : Option (List Nat)} (h : FirstW K T o) (h' : FirstW K T o') : o = o' := by
  cases o with
  | none =>
    cases o' with
    | none => rfl
    | some w =>
      obtain ⟨a, b, c, _⟩ := h'
      rw [h w a b] at c; simp at c
  | some w =>
    obtain ⟨a, b, c, d⟩ := h
    cases o' with
    | none => rw [h' w a b] at c; simp at c
    | some w' =>
      obtain ⟨a', b', c', d'⟩ := h'
      rw [sle_antisymm (d w' a' b' c') (d' w a b c)]
open Classical in
noncomputable def firstO (K : Nat) (T : List Nat → Bool) : Option (List Nat) := if h : ∃ w, FirstW K T (some w) then some h.choose else none
theorem firstO_eq {K : Nat} {T : List Nat → Bool} {o : Option (List Nat)} (h : FirstW K T o) : firstO K T = o := by
  rw [firstO]
  split
  · rename_i hw
    exact FirstW.unique hw.choose_spec h
  · rename_i hw
    cases o with
    | none => rfl
    | some w => exact absurd ⟨w, h⟩ hw
theorem Bf.found (h : Bf step s0 K L W i a) (ha : a < K) {w : List Nat} (hi : W[i]? = some w) {q : σ → Bool} (hq : q (step (runG step s0 w) a) = true) (hn : ∀ (j : Nat) (s : σ), 0 < j → L[j]? = some s → q s = false) : FirstW K (fun v => q (runG step s0 v)) (some (w ++ [a])) := by
  refine ⟨by simp, fun x hx => ?_, by show q _ = true; rw [runG_snoc]; exact hq, fun v h1 h2 h3 => ?_⟩
  · rcases List.mem_append.1 hx with hx | hx
    · exact (h.run i w hi).2 x hx
    · simp at hx; omega
  · rcases h.cover hi v.length v rfl h1 h2 with ⟨j, x, k1, k2, k3, _⟩ | k
    · have := hn j _ k1 (h.run j x k2).1
      rw [k3] at this
      have h3 : q (runG step s0 v) = true := h3
      rw [this] at h3; simp at h3
    · exact k
theorem Bf.none (h : Bf step s0 K L W L.length 0) {q : σ → Bool} (hn : ∀ (j : Nat) (s : σ), 0 < j → L[j]? = some s → q s = false) : FirstW K (fun v => q (runG step s0 v)) none := fun v h1 h2 => by
  obtain ⟨j, hj, k⟩ := h.all v.length v rfl h1 h2
  exact hn j _ hj k
end

end Tab

/- compare.way: the word that leads to a pair; slices.Reverse. -/
namespace Tab
open Go Go.Proofs
set_option maxRecDepth 10000
set_option linter.unusedVariables false
set_option linter.unusedSimpArgs false
set_option linter.unusedSectionVars false

/-! ### slices.Reverse -/

def revP (l : List Int) (i : Nat) : List Int := (List.range l.length).map fun m => if m < i ∨ l.length - i ≤ m then l.getD (l.length - 1 - m) 0 else l.getD m 0
theorem revP_length (l i) : (revP l i).length = l.length := by simp [revP]
theorem revP_get {l : List Int} {i m : Nat} (h : m < l.length) : (revP l i)[m]? = some (if m < i ∨ l.length - i ≤ m then l.getD (l.length - 1 - m) 0 else l.getD m 0) := by simp [revP, h]
theorem revP_zero (l : List Int) : revP l 0 = l := by
  refine List.ext_getElem? fun m => ?_
  by_cases h : m < l.length
  · rw [revP_get h, if_neg (by omega), List.getD_eq_getElem?_getD, List.getElem?_eq_getElem h]; rfl
  · rw [List.getElem?_eq_none (by rw [revP_length]; omega), List.getElem?_eq_none (by omega)]
theorem revP_end {l : List Int} {i : Nat} (h : l.length ≤ 2 * i + 1) : revP l i = l.reverse := by
  refine List.ext_getElem? fun m => ?_
  by_cases hm : m < l.length
  · rw [revP_get hm, List.getElem?_reverse hm]
    by_cases e : m < i ∨ l.length - i ≤ m
    · rw [if_pos e, List.getD_eq_getElem?_getD, List.getElem?_eq_getElem (by omega)]; rfl
    · rw [if_neg e, List.getD_eq_getElem?_getD, show l.length - 1 - m = m by omega, List.getElem?_eq_getElem hm]; rfl
  · rw [List.getElem?_eq_none (by rw [revP_length]; omega), List.getElem?_eq_none (by simp; omega)]
theorem revP_step {l : List Int} {i : Nat} (h : 2 * i + 1 < l.length) : ((revP l i).set i (l.getD (l.length - 1 - i) 0)).set (l.length - 1 - i) (l.getD i 0) = revP l (i + 1) := by
  refine List.ext_getElem? fun m => ?_
  rw [List.getElem?_set, List.length_set, revP_length, List.getElem?_set, revP_length]
  by_cases hm : m < l.length
  · rw [revP_get hm, revP_get hm]
    by_cases e1 : l.length - 1 - i = m
    · rw [if_pos e1, if_pos (by omega), if_pos (by omega)]
      rw [show l.length - 1 - m = i by omega]
    · rw [if_neg e1]
      by_cases e2 : i = m
      · rw [if_pos e2, if_pos (by omega), if_pos (by omega)]
        rw [e2]
      · rw [if_neg e2]
        by_cases e3 : m < i ∨ l.length - i ≤ m
        · rw [if_pos e3, if_pos (by omega)]
        · rw [if_neg e3, if_neg (by omega)]
  · rw [List.getElem?_eq_none (show (revP l (i + 1)).length ≤ m by rw [revP_length]; omega), if_neg (by omega), if_neg (by omega), List.getElem?_eq_none (by rw [revP_length]; omega)]

theorem slices_Reverse_I (g : Nat) (l : List Int) (hl : l.length < 2^40) : ACall Tryz.prog 52 [.hs 0 g 0 l.length 1] [.cells g (l.map (.int .i64))] fun o H' => o = .ret (.tup []) ∧ H' = [.cells g (l.reverse.map (.int .i64))] := by
  refine ACall.of_sw 28 Tryz.func52 rfl Tryz.ntmps52 (by kernel_rfl) (Nat.le_of_ble_eq_true (by kernel_rfl)) ?_; refine SW.of_vc ?_
  repeat first | refine opsStep ?_ | refine codeStep ?_ | refine drawStep ?_
  refine loopE_of (ι := {i : Nat // i ≤ l.length}) (fun i => (fr [(0, .hs 0 g 0 l.length 1), (2, .int .i64 i.1), (3, .int .i64 ((l.length : Int) - 1 - i.1))], [.cells g ((revP l i.1).map (.int .i64))])) (fun i => l.length - i.1) ⟨0, by omega⟩ (Ent.fr' ⟨(by kernel_rfl), (by kernel_rfl), ?_, trivial⟩ ?_) ?_
  · refine Eq.trans (b := .int .i64 (IntKind.wrap .i64 ((l.length : Int) - 1))) (by kernel_rfl) ?_
    rw [IntWalk.i64_in _ (by omega)]; simp
  · rw [revP_zero]; rfl
  rintro ⟨i, hi⟩
  repeat first | refine opsStep ?_ | refine codeStep ?_ | refine drawStep ?_
  refine decB_dec (fun h => ?_) (fun h => ?_)
  · have hij : 2 * i + 1 < l.length := by have := h; simp at this; omega
    have hti : ((l.length : Int) - 1 - (i : Int)).toNat = l.length - 1 - i := by omega
    have hrl := revP_length l i
    have a1 : ((revP l i).map (AV.int .i64))[0 + i * 1]? = some (.int .i64 (l.getD i 0)) := by
      rw [Nat.zero_add, Nat.mul_one, List.getElem?_map, revP_get (by omega), if_neg (by omega)]; rfl
    have a2 : ((revP l i).map (AV.int .i64))[0 + ((l.length : Int) - 1 - (i : Int)).toNat * 1]? = some (.int .i64 (l.getD (l.length - 1 - i) 0)) := by
      rw [hti, Nat.zero_add, Nat.mul_one, List.getElem?_map, revP_get (by omega), if_neg (by omega)]; rfl
    have hs := revP_step hij
    generalize l.getD i 0 = x at *
    generalize l.getD (l.length - 1 - i) 0 = y at *
    repeat first | refine opsStep ?_ | refine codeStep ?_ | refine drawStep ?_
    refine SW.drawn rfl (by kernel_rfl) ?_
    repeat first | refine opsStep ?_ | refine codeStep ?_ | refine drawStep ?_
    refine guardE_of (by simp; omega) ?_
    repeat first | refine opsStep ?_ | refine codeStep ?_ | refine drawStep ?_
    refine guardE_of rfl ?_
    refine optE_of rfl ?_
    refine optE_of a2 ?_
    repeat first | refine opsStep ?_ | refine codeStep ?_ | refine drawStep ?_
    refine guardE_of (by simp; omega) ?_
    repeat first | refine opsStep ?_ | refine codeStep ?_ | refine drawStep ?_
    refine guardE_of rfl ?_
    refine optE_of rfl ?_
    refine optE_of a1 ?_
    repeat first | refine opsStep ?_ | refine codeStep ?_ | refine drawStep ?_
    refine guardE_of (by simp; omega) ?_
    repeat first | refine opsStep ?_ | refine codeStep ?_ | refine drawStep ?_
    refine guardE_of rfl ?_
    refine optE_of rfl ?_
    refine optE_of rfl ?_
    have z1 : 0 + i * 1 + [AV.int .i64 y].length ≤ ((revP l i).map (AV.int .i64)).length := by simp [hrl]; omega
    refine guardE_of ⟨rfl, by decide, z1⟩ ?_
    repeat first | refine opsStep ?_ | refine codeStep ?_ | refine drawStep ?_
    refine guardE_of (by simp; omega) ?_
    repeat first | refine opsStep ?_ | refine codeStep ?_ | refine drawStep ?_
    refine guardE_of rfl ?_
    refine optE_of rfl ?_
    refine optE_of rfl ?_
    have z2 : 0 + ((l.length : Int) - 1 - (i : Int)).toNat * 1 + [AV.int .i64 x].length ≤ (over ((revP l i).map (AV.int .i64)) (0 + i * 1) [AV.int .i64 y]).length := by
      have : (over ((revP l i).map (AV.int .i64)) (0 + i * 1) [AV.int .i64 y]).length = ((revP l i).map (AV.int .i64)).length := by simp only [over]; simp [hrl]; omega
      rw [this, hti]; simp [hrl]; omega
    refine guardE_of ⟨rfl, by decide, z2⟩ ?_
    repeat first | refine opsStep ?_ | refine codeStep ?_ | refine drawStep ?_
    refine ⟨by kernel_rfl, ?_⟩
    repeat first | refine opsStep ?_ | refine codeStep ?_ | refine drawStep ?_
    refine ⟨⟨i + 1, by omega⟩, (by show l.length - (i + 1) < l.length - i; omega), Ent.fr' ⟨(by kernel_rfl), inc_slot (i := i) (by omega), ?_, trivial⟩ ?_⟩
    · refine Eq.trans (b := .int .i64 (IntKind.wrap .i64 ((l.length : Int) - 1 - (i : Int) - 1))) (by kernel_rfl) ?_
      rw [IntWalk.i64_in _ (by omega)]; simp; omega
    · refine Eq.trans (b := [Blk.cells g (over (over ((revP l i).map (.int .i64)) (0 + i * 1) [.int .i64 y]) (0 + ((l.length : Int) - 1 - (i : Int)).toNat * 1) [.int .i64 x])]) (by kernel_rfl) ?_
      rw [hti]
      simp only [Nat.zero_add, Nat.mul_one]
      rw [over_one (cs := (revP l i).map (.int .i64)) (by rw [List.length_map, hrl]; omega), over_one (by rw [List.length_set, List.length_map, hrl]; omega), ← List.map_set, ← List.map_set, hs]
  · have hij : l.length ≤ 2 * i + 1 := by have := h; simp at this; omega
    repeat first | refine opsStep ?_ | refine codeStep ?_ | refine drawStep ?_
    refine finR (l := []) (H₁ := [.cells g ((revP l i).map (.int .i64))]) (v := .tup []) trivial (by kernel_rfl) (Ent.refl _ _ _) (by kernel_rfl) ⟨rfl, ?_⟩
    rw [revP_end hij]

/-! ### The map of steps -/

abbrev N2 := Nat × Nat
def iN (p : N2) : Int × Int := ((p.1 : Int), (p.2 : Int))
def kv2 (p : N2) : Value := pv2 (iN p)
def av2 (p : N2) : List AV := [.int .i64 (p.1 : Int), .int .i64 (p.2 : Int)]
def av3 (x : N2 × Nat) : List AV := [.int .i64 (x.1.1 : Int), .int .i64 (x.1.2 : Int), .int .i64 (x.2 : Int)]
def stV (x : N2 × Nat) : Value := .agg #[.int .i64 (x.1.1 : Int), .int .i64 (x.1.2 : Int), .int .i64 (x.2 : Int)]
abbrev Es := List (N2 × (N2 × Nat))
def esE (E : Es) : List (Value × Value) := E.map fun x => (kv2 x.1, stV x.2)
def okN (p : N2) : Prop := p.1 < 2 ^ 62 ∧ p.2 < 2 ^ 62
theorem okN_ok {p : N2} (h : okN p) : ok2 (iN p) := by
  obtain ⟨h1, h2⟩ := h
  refine ⟨⟨?_, ?_⟩, ⟨?_, ?_⟩⟩ <;> simp only [iN] <;> omega
theorem kv2_inj {p q : N2} (h : kv2 p = kv2 q) : p = q := by
  have := pv2_inj h
  simp only [iN, Prod.mk.injEq, Int.ofNat_inj] at this
  exact Prod.ext this.1 this.2
theorem keyN {p : N2} (h : okN p) : ∃ l, keyOf Tryz.prog 72 (kv2 p) = some l := key2 (by kernel_rfl) (by kernel_rfl) (by kernel_rfl) (okN_ok h)
theorem esE_keys {E : Es} (h : ∀ x ∈ E, okN x.1) : DKeys Tryz.prog 72 (esE E) := by
  intro p hp
  obtain ⟨x, hx, rfl⟩ := List.mem_map.1 hp
  exact keyN (h x hx)
theorem esE_hit {E : Es} (hn : (E.map (·.1)).Nodup) {p : N2} {s : N2 × Nat} (h : (p, s) ∈ E) : DFind (esE E) (kv2 p) (some (stV s)) := by
  refine ⟨⟨_, List.mem_map.2 ⟨_, h, rfl⟩, rfl⟩, fun q hq e => ?_⟩
  obtain ⟨y, hy, rfl⟩ := List.mem_map.1 hq
  have e := kv2_inj e
  obtain ⟨i, hi, ei⟩ := List.getElem_of_mem hy
  obtain ⟨j, hj, ej⟩ := List.getElem_of_mem h
  have hij : i = j := by
    have h1 : (E.map (·.1))[i]'(by simpa using hi) = (E.map (·.1))[j]'(by simpa using hj) := by simp [ei, ej, e]
    rcases Nat.lt_trichotomy i j with k | k | k
    · exact absurd h1 (List.pairwise_iff_getElem.1 hn i j _ _ k)
    · exact k
    · exact absurd h1.symm (List.pairwise_iff_getElem.1 hn j i _ _ k)
  subst hij
  rw [ei] at ej
  rw [ej]
theorem esE_miss {E : Es} {p : N2} (h : p ∉ E.map (·.1)) : DFind (esE E) (kv2 p) none := by
  intro q hq e
  obtain ⟨y, hy, rfl⟩ := List.mem_map.1 hq
  exact h (List.mem_map.2 ⟨y, hy, kv2_inj e⟩)
theorem mapSt : Tryz.prog.underlying 71 = some (.map 72 75) := (by kernel_rfl)
theorem zeroSt (w : World) : (zeroValue 75).run Tryz.prog w = .ok (stV ((0, 0), 0)) w := by
  obtain ⟨i, hi⟩ : ∃ i, Tryz.prog.info? 75 = some i := ⟨_, rfl⟩
  exact run_zero' (i := _) (z := stV ((0, 0), 0)) rfl (by kernel_rfl) w
theorem look_hit {E : Es} {ok : Bool} {b : Nat} {p : N2} {s : N2 × Nat} {k : Eff → Prop} (hk : ∀ x ∈ E, okN x.1) (hn : (E.map (·.1)).Nodup) (h : (p, s) ∈ E)
    (h1 : k { v := if ok then .tup [.agg (av3 s), .bool true] else .agg (av3 s), need := [(b, .dict (esE E))] }) : ∃ e, LookE Tryz.prog 71 ok (.agg (av2 p)) b (esE E) e ∧ k e := by
  obtain ⟨lx, hlx⟩ := keyN (hk _ h)
  exact ⟨_, .hit (kv := kv2 p) (va := .agg (av3 s)) mapSt keyed2 rfl rfl hlx (esE_keys hk) (esE_hit hn h), h1⟩
theorem look_miss {E : Es} {ok : Bool} {b : Nat} {p : N2} {k : Eff → Prop} (hp : okN p) (hk : ∀ x ∈ E, okN x.1) (h : p ∉ E.map (·.1))
    (h1 : k { v := if ok then .tup [.agg (av3 ((0, 0), 0)), .bool false] else .agg (av3 ((0, 0), 0)), need := [(b, .dict (esE E))] }) : ∃ e, LookE Tryz.prog 71 ok (.agg (av2 p)) b (esE E) e ∧ k e := by
  obtain ⟨lx, hlx⟩ := keyN hp
  exact ⟨_, .miss (kv := kv2 p) (va := .agg (av3 ((0, 0), 0))) mapSt keyed2 rfl zeroSt rfl hlx (esE_keys hk) (esE_miss h), h1⟩
theorem put_new {E : Es} {b : Nat} {p : N2} {s : N2 × Nat} {k : Eff → Prop} (hp : okN p) (hk : ∀ x ∈ E, okN x.1) (h : p ∉ E.map (·.1))
    (h1 : k { v := .junk, need := [(b, .dict (esE E))], upd := some (b, .dict (esE (E ++ [(p, s)]))) }) : ∃ e, PutE Tryz.prog 71 (.agg (av2 p)) (.agg (av3 s)) b (esE E) e ∧ k e := by
  obtain ⟨lx, hlx⟩ := keyN hp
  refine ⟨_, .new (kv := kv2 p) (v := stV s) mapSt keyed2 rfl rfl hlx (esE_keys hk) (esE_miss h), ?_⟩
  have : esE E ++ [(kv2 p, stV s)] = esE (E ++ [(p, s)]) := by simp [esE]
  rw [this]; exact h1
theorem eqlN {p q : N2} (hp : okN p) (hq : okN q) : EqlE Tryz.prog 72 (av2 p) (av2 q) (decide (p = q)) := by
  have h := eql2 (t := 72) (by kernel_rfl) (by kernel_rfl) (by kernel_rfl) (by kernel_rfl) (okN_ok hp) (okN_ok hq)
  have e : (decide (((p.1 : Int), (p.2 : Int)) = ((q.1 : Int), (q.2 : Int)))) = decide (p = q) := by
    refine decide_eq_decide.2 ⟨fun h => ?_, fun h => by rw [h]⟩
    simp only [Prod.mk.injEq, Int.ofNat_inj] at h
    exact Prod.ext h.1 h.2
  rw [← e]; exact h

/-- The word by which a pair is come to, as the map's steps tell it. -/
inductive Path (E : Es) : N2 → List Nat → Prop
  | nil : Path E (0, 0) []
  | snoc {p q : N2} {a : Nat} {w : List Nat} (h : (q, (p, a)) ∈ E) (hq : q ≠ (0, 0)) (hp : Path E p w) : Path E q (w ++ [a])
theorem Path.mono {E E' : Es} (hs : ∀ x ∈ E, x ∈ E') {p : N2} {w : List Nat} (h : Path E p w) : Path E' p w := by
  induction h with
  | nil => exact .nil
  | snoc h hq _ ih => exact .snoc (hs _ h) hq ih

theorem Path.zero {E : Es} {w : List Nat} (h : Path E (0, 0) w) : w = [] := by
  cases h with
  | nil => rfl
  | snoc _ hq _ => exact absurd rfl hq

def iW (w : List Nat) : List AV := (w.map fun n : Nat => (n : Int)).map (.int .i64)
theorem iW_snoc (w : List Nat) (a : Nat) : iW (w ++ [a]) = iW w ++ [.int .i64 (a : Int)] := by simp [iW]
theorem iW_length (w : List Nat) : (iW w).length = w.length := by simp [iW]
theorem av2_rn (f p) : rns f (av2 p) = av2 p := by simp [av2, rns, AV.rn]
theorem iW_rn (f w) : rns f (iW w) = iW w := ints_rn f .i64 _
theorem iW_bel (n w) : bels n (iW w) := by rw [iW, bels_map]; intro x _; simp [AV.bel]
theorem av2_bel (n p) : bels n (av2 p) := by simp [av2, bels, AV.bel]
theorem deln_bel (n es) : Blk.bel n (.dict es) := by simp [Blk.bel]

theorem rev_W (g : Nat) (ws : List Nat) (hg : ws.length = g + 1) (hl : ws.length < 2^40) : ACall Tryz.prog 52 [.hs 0 g 0 (g + 1) 1] [.cells g (iW ws)] fun o H' => o = .ret (.tup []) ∧ H' = [.cells g (iW ws.reverse)] := by
  have h := slices_Reverse_I g (ws.map fun n : Nat => (n : Int)) (by simpa using hl)
  rw [List.length_map, hg, ← List.map_reverse] at h
  exact h
theorem cmp_way (E : Es) (to p : N2) (a : Nat) (w : List Nat) (once : Bool) (hk : ∀ x ∈ E, okN x.1) (hf : ∀ x ∈ E, okN x.2.1) (hn : (E.map (·.1)).Nodup) (ht : (to, (p, a)) ∈ E) (hp : Path E p w) (ho : once = true → w = []) (hl : w.length + 1 < 2^40) :
    ACall Tryz.prog 31 [.mp 0, .agg (av2 to), .bool once] [.dict (esE E)] fun o H' => o = .ret (.hs 2 w.length 0 (w.length + 1) 1) ∧ ∃ b1 b3, H' = [.dict (esE E), b1, .cells w.length (iW (w ++ [a])), b3] := by
  refine ACall.of_sw 40 Tryz.func31 rfl Tryz.ntmps31 (by kernel_rfl) (Nat.le_of_ble_eq_true (by kernel_rfl)) ?_; refine SW.of_vc ?_
  repeat first | refine opsStep ?_ | refine codeStep ?_ | refine drawStep ?_
  refine look_hit hk hn ht ?_
  repeat first | refine opsStep ?_ | refine codeStep ?_ | refine drawStep ?_
  refine look_hit hk hn ht ?_
  repeat first | refine opsStep ?_ | refine codeStep ?_ | refine drawStep ?_
  refine loopE_of (ι := {x : N2 × List Nat × List Nat × Nat // Path E x.1 x.2.1 ∧ x.2.1 ++ x.2.2.1.reverse = w ++ [a] ∧ x.2.2.1.length = x.2.2.2 + 1 ∧ (once = true → x.2.1 = []) ∧ okN x.1})
    (fun x => (fr [(0, .mp 0), (2, .bool (once)), (7, .hs 2 (x.1.2.2.2) 0 ((x.1.2.2.2) + 1) 1), (8, .ref 3 0 0)], [.dict (esE E), .cells 0 (av2 to), .cells (x.1.2.2.2) (iW (x.1.2.2.1)), Blk.cells 0 (av2 (x.1.1))])) (fun x => x.1.2.1.length) ⟨(p, w, [a], 0), hp, by simp, rfl, ho, hf _ ht⟩ (Ent.fr' ⟨(by kernel_rfl), (by kernel_rfl), (by kernel_rfl), (by kernel_rfl), trivial⟩ (by kernel_rfl)) ?_
  rintro ⟨⟨q, u, ws, g⟩, hq, hw, hg, hone, hqo⟩
  simp only at hq hw hg hone hqo
  have hbl : u.length + (g + 1) = w.length + 1 := by have := congrArg List.length hw; simp at this; omega
  cases once with
  | true =>
    have hu : u = [] := hone rfl
    subst hu
    repeat first | refine opsStep ?_ | refine codeStep ?_ | refine drawStep ?_
    have hw' : ws.reverse = w ++ [a] := by simpa using hw
    have hgw : g = w.length := by have := congrArg List.length hw'; simp at this; omega
    refine callF [2] (rev_W g ws hg (by omega)) (by simp) (by intro b hb; simp at hb; subst hb; exact (by decide : 2 < 4)) rfl ?_ ?_ ?_ rfl ?_
    · show [some (Blk.cells g (iW ws))] = [some (Blk.cells g (rns _ (iW ws)))]
      rw [iW_rn]
    · simp [bels, AV.bel]
    · simp [blksBel, Blk.bel, iW_bel]
    rintro o H' ⟨rfl, rfl⟩
    repeat first | refine opsStep ?_ | refine codeStep ?_ | refine drawStep ?_
    refine finR (l := [(6, .hs 2 g 0 (g + 1) 1)]) (H₁ := [.dict (esE E), .cells 0 (av2 to), .cells g (iW (w ++ [a])), .cells 0 (av2 q)]) (v := .hs 2 g 0 (g + 1) 1) ⟨(by kernel_rfl), trivial⟩ (Eq.trans (b := [.dict (esE E), .cells 0 (av2 to), .cells g (rns (rnB [2] 4) (iW ws.reverse)), .cells 0 (av2 q)]) (by kernel_rfl) (by rw [iW_rn, hw'])) (Ent.refl _ _ _) (by kernel_rfl) ⟨by rw [hgw], _, _, by rw [hgw]⟩
  | false =>
    have he := eqlN hqo (show okN (0, 0) from ⟨by decide, by decide⟩)
    by_cases h0 : q = (0, 0)
    · rw [decide_eq_true h0] at he
      have hu : u = [] := by rw [h0] at hq; exact hq.zero
      subst hu
      repeat first | refine opsStep ?_ | refine codeStep ?_ | refine drawStep ?_
      refine ⟨_, he, ?_⟩
      repeat first | refine opsStep ?_ | refine codeStep ?_ | refine drawStep ?_
      have hw' : ws.reverse = w ++ [a] := by simpa using hw
      have hgw : g = w.length := by have := congrArg List.length hw'; simp at this; omega
      refine callF [2] (rev_W g ws hg (by omega)) (by simp) (by intro b hb; simp at hb; subst hb; exact (by decide : 2 < 4)) rfl ?_ ?_ ?_ rfl ?_
      · show [some (Blk.cells g (iW ws))] = [some (Blk.cells g (rns _ (iW ws)))]
        rw [iW_rn]
      · simp [bels, AV.bel]
      · simp [blksBel, Blk.bel, iW_bel]
      rintro o H' ⟨rfl, rfl⟩
      repeat first | refine opsStep ?_ | refine codeStep ?_ | refine drawStep ?_
      refine finR (l := [(6, .hs 2 g 0 (g + 1) 1)]) (H₁ := [.dict (esE E), .cells 0 (av2 to), .cells g (iW (w ++ [a])), .cells 0 (av2 q)]) (v := .hs 2 g 0 (g + 1) 1) ⟨(by kernel_rfl), trivial⟩ (Eq.trans (b := [.dict (esE E), .cells 0 (av2 to), .cells g (rns (rnB [2] 4) (iW ws.reverse)), .cells 0 (av2 q)]) (by kernel_rfl) (by rw [iW_rn, hw'])) (Ent.refl _ _ _) (by kernel_rfl) ⟨by rw [hgw], _, _, by rw [hgw]⟩
    · rw [decide_eq_false h0] at he
      obtain ⟨p2, a2, u2, hm, hq2, rfl⟩ : ∃ p2 a2 u2, (q, (p2, a2)) ∈ E ∧ Path E p2 u2 ∧ u = u2 ++ [a2] := by
        cases hq with
        | nil => exact absurd rfl h0
        | snoc h1 _ h3 => exact ⟨_, _, _, h1, h3, rfl⟩
      repeat first | refine opsStep ?_ | refine codeStep ?_ | refine drawStep ?_
      refine ⟨_, he, ?_⟩
      repeat first | refine opsStep ?_ | refine codeStep ?_ | refine drawStep ?_
      refine look_hit hk hn hm ?_
      repeat first | refine opsStep ?_ | refine codeStep ?_ | refine drawStep ?_
      refine guardE_of ⟨rfl, by simp [iW_length, hg]⟩ ?_
      repeat first | refine opsStep ?_ | refine codeStep ?_ | refine drawStep ?_
      refine guardE_of rfl ?_
      repeat first | refine opsStep ?_ | refine codeStep ?_ | refine drawStep ?_
      refine guardE_of ⟨by show g + 1 + 1 ≤ 9223372036854775807; omega, by show (g + 1 + 1) * 8 ≤ 140737488355328; omega⟩ ?_
      repeat first | refine opsStep ?_ | refine codeStep ?_ | refine drawStep ?_
      refine look_hit hk hn hm ?_
      repeat first | refine opsStep ?_ | refine codeStep ?_ | refine drawStep ?_
      refine ⟨⟨(p2, u2, ws ++ [a2], g + 1), hq2, by simpa using hw, by simp [hg], fun h => absurd h (by simp), hf _ hm⟩, (by show u2.length < (u2 ++ [a2]).length; simp), ?_⟩
      refine (Ent.fr' (l := [(0, .mp 0), (2, .bool false), (7, .hs 2 (g + 1) 0 (g + 1 + 1) 1), (8, .ref 5 0 0)]) (H' := [.dict (esE E), .cells 0 (av2 to), .cells (g + 1) (iW (ws ++ [a2])), .cells 0 (av2 q), .cells 0 [.int .i64 (a2 : Int)], .cells 0 (av2 p2)]) ⟨(by kernel_rfl), (by kernel_rfl), (by kernel_rfl), (by kernel_rfl), trivial⟩ ?_).trans ?_
      · refine Eq.trans (b := [.dict (esE E), .cells 0 (av2 to), .cells (g + 1) (((iW ws).drop 0).take ((g + 1) * 1) ++ [.int .i64 (a2 : Int)]), .cells 0 (av2 q), .cells 0 [.int .i64 (a2 : Int)], .cells 0 (av2 p2)]) (by kernel_rfl) ?_
        rw [List.drop_zero, List.take_of_length_le (by simp [iW_length, hg]), iW_snoc]
      · refine Ent.pick [0, 1, 2, 5] (by decide) (fun b hb => by simp at hb; show b < 6; omega) (fun b hb => ?_) _ _ rfl (frOk_rn ⟨rfl, rfl, rfl, rfl, trivial⟩) ?_ (by simp [frBel, AV.bel]) (by simp [blksBel, Blk.bel, av2_bel, iW_bel])
        · have : b = 0 := by have : b < 1 := hb; omega
          subst this; rfl
        · intro i x b hx hb
          match i with
          | 0 => simp at hx hb; subst hx; subst hb; simp [Blk.rn]
          | 1 => simp at hx hb; subst hx; subst hb; simp [Blk.rn, av2_rn]
          | 2 => simp at hx hb; subst hx; subst hb; simp [Blk.rn, iW_rn]
          | 3 => simp at hx hb; subst hx; subst hb; simp [Blk.rn, av2_rn]
          | i + 4 => simp at hx

end Tab

/- canon.Sound. -/
namespace Tab
open Go Go.Proofs
set_option maxRecDepth 10000
set_option linter.unusedVariables false
set_option linter.unusedSimpArgs false
set_option linter.unusedSectionVars false

theorem minD_ok {d : Den} (hd : DenOk d) (hr : rightS d = true) : DenOk (minD d) := by
  have hl := minR_len hr
  have h := hd.accept
  have h2 := (tracksS_parts (rightS_parts hr).1).2.2.2
  have hk6 := (tracksS_parts (rightS_parts hr).1).1
  refine ⟨hd.tracks, hd.names, by simp [minD]; omega, by simp [minD]; omega, fun r hrr => ?_⟩
  simp only [minD, List.mem_map] at hrr
  obtain ⟨q, _, rfl⟩ := hrr
  have : 2 ^ d.tracks.length ≤ 2 ^ 6 := Nat.pow_le_pow_right (by omega) hk6
  simp only [rowX, List.length_map, minF_length]
  omega
@[irreducible] def soundD (d : Den) : Bool := rightS d && soundS (minD d)
theorem soundD_ok {d : Den} (h : rightS d = true) : soundD d = soundS (minD d) := by rw [soundD, h, Bool.true_and]
theorem soundD_bad {d : Den} (h : rightS d = false) : soundD d = false := by rw [soundD, h, Bool.false_and]
theorem soundD_iff {d : Den} (h : rightS d = true) : soundD d = true ↔ SoundL d.tracks.length (lang d) := by rw [soundD_ok h]; exact sound_iff h

def sndRow (m : Den) (i : Nat) : Bool := (List.range (2 ^ m.tracks.length)).all fun a => decide (accN m.accept (stepN m.rows i a) = accN m.accept (stepN m.rows (stepN m.rows i a) a))
theorem soundS_bad {m : Den} {i a : Nat} (hi : i < m.accept.length) (ha : a < 2 ^ m.tracks.length) (h : accN m.accept (stepN m.rows i a) ≠ accN m.accept (stepN m.rows (stepN m.rows i a) a)) : soundS m = false := by
  rw [soundS, ← Bool.not_eq_true, Bool.and_eq_true, List.all_eq_true]
  rintro ⟨_, k⟩
  have := k i (List.mem_range.2 hi)
  rw [List.all_eq_true] at this
  exact h (of_decide_eq_true (this a (List.mem_range.2 ha)))
theorem soundS_ok {m : Den} (h0 : accN m.accept 0 = false) (h : ∀ i, i < m.accept.length → ∀ a, a < 2 ^ m.tracks.length → accN m.accept (stepN m.rows i a) = accN m.accept (stepN m.rows (stepN m.rows i a) a)) : soundS m = true := by
  rw [soundS, h0]
  simp only [Bool.not_false, Bool.true_and, List.all_eq_true, List.mem_range, decide_eq_true_eq]
  exact h

end Tab

/- Layer 15: words over fewer tracks; the law TrackMeans. -/
namespace Tab
open Go Go.Proofs
set_option maxRecDepth 10000
set_option linter.unusedVariables false
set_option linter.unusedSimpArgs false
set_option linter.unusedSectionVars false

def wordB (k : Nat) (v : List Int) : Bool := v.all fun x => decide (0 ≤ x) && decide (x < ((2 ^ k : Nat) : Int))
theorem wordB_iff {k v} : wordB k v = true ↔ ∀ x ∈ v, 0 ≤ x ∧ x < ((2 ^ k : Nat) : Int) := by simp [wordB]
theorem wordB_nat {k : Nat} {v : List Int} (h : wordB k v = true) : ∃ w : List Nat, v = w.map (fun a : Nat => (a : Int)) ∧ Lets k w := by
  have h := wordB_iff.1 h
  refine ⟨v.map Int.toNat, ?_, fun a ha => ?_⟩
  · rw [List.map_map]
    refine (List.map_id' v).symm.trans (List.map_congr_left fun x hx => ?_)
    have := h x hx
    simp only [Function.comp_apply]; omega
  · obtain ⟨x, hx, rfl⟩ := List.mem_map.1 ha
    have := h x hx
    omega
theorem wordB_bad {k : Nat} {v : List Int} {i : Nat} (hi : i < v.length) (h : v[i] < 0 ∨ ((2 ^ k : Nat) : Int) ≤ v[i]) : wordB k v = false := by
  rw [← Bool.not_eq_true]
  intro k
  have := wordB_iff.1 k _ (List.getElem_mem hi)
  omega

theorem or_bit (x a p t : Nat) (hx : x < 2 ^ t) (ha : a < 2 ^ 62) (hp : p ≤ 60) (ht : t ≤ 60) :
    IntKind.wrap .i64 ((BitVec.ofInt 64 (x : Int) ||| BitVec.ofInt 64 (IntKind.wrap .i64 (IntKind.wrap .i64 ((BitVec.ofInt 64 ((a : Int).fdiv (2 ^ (min (IntKind.wrap .u64 (p : Int)).toNat 64))) &&& BitVec.ofInt 64 1).toNat) * 2 ^ (min (IntKind.wrap .u64 (t : Int)).toNat 64)))).toNat) = ((x + a / 2 ^ p % 2 * 2 ^ t : Nat) : Int) := by
  have u : ∀ y : Nat, y ≤ 60 → IntKind.wrap .u64 (y : Int) = (y : Int) := fun y hy => by
    simp only [IntKind.wrap, IntKind.signed, IntKind.bits]
    simp; omega
  have e1 : (a : Int).fdiv (2 ^ (min (p : Int).toNat 64)) = ((a / 2 ^ p : Nat) : Int) := by
    rw [show min (p : Int).toNat 64 = p by simp; omega, show (2 : Int) ^ p = ((2 ^ p : Nat) : Int) by simp]
    rw [Int.fdiv_eq_ediv_of_nonneg _ (Int.natCast_nonneg _)]
    rfl
  rw [u p hp, u t ht, e1, and_one _ (Nat.lt_of_le_of_lt (Nat.div_le_self _ _) (by omega))]
  exact or_shift x (a / 2 ^ p % 2) t hx (by omega) ht

theorem places_snoc {called names : List (List UInt8)} {t : Nat} (h : t < called.length) : placesOf (called.take (t + 1)) names = placesOf (called.take t) names ++ [names.idxOf called[t]] := by
  rw [List.take_succ_eq_append_getElem h, placesOf, List.map_append]; rfl
theorem map_snoc {α β : Type} (f : α → β) {l : List α} {i : Nat} (h : i < l.length) : (l.take (i + 1)).map f = (l.take i).map f ++ [f l[i]] := by
  rw [List.take_succ_eq_append_getElem h, List.map_append]; rfl

theorem wid_step {d : Den} (hr : rightS d = true) {n : Nat} {P : List Nat} (hP : P.length = d.tracks.length) {q a : Nat} (hq : q < d.accept.length) (ha : a < 2 ^ n) :
    stepN (d.rows.map (ovRow n P)) q a = stepN d.rows q (gatN a P) := by
  have hl := rows_length hr
  have hq' : q < d.rows.length := by omega
  simp [stepN, List.getD_eq_getElem?_getD, hq', ovRow, ha]
theorem wid_run {d : Den} (hr : rightS d = true) {n : Nat} {P : List Nat} (hP : P.length = d.tracks.length) : ∀ (w : List Nat) {q : Nat}, q < d.accept.length → Lets n w →
    runN (d.rows.map (ovRow n P)) q w = runN d.rows q (w.map fun a => gatN a P)
  | [], q, _, _ => rfl
  | a :: w, q, hq, hw => by
    have hg := gatN_lt a P
    rw [hP] at hg
    obtain ⟨_, _, _, h4⟩ := stepN_ok hr hq hg
    show runN _ (stepN _ q a) w = runN _ (stepN _ q (gatN a P)) _
    rw [wid_step hr hP hq (hw a (by simp))]
    exact wid_run hr hP w h4 fun b hb => hw b (by simp [hb])

theorem gat_onto {n : Nat} {P : List Nat} (hn : P.Nodup) (hp : ∀ p ∈ P, p < n) {b : Nat} (hb : b < 2 ^ P.length) : ∃ a, a < 2 ^ n ∧ gatN a P = b := by
  refine ⟨gatN b ((List.range n).map fun j => P.idxOf j), by have := gatN_lt b ((List.range n).map fun j => P.idxOf j); simpa using this, ?_⟩
  rw [gat_comp b _ P fun p h => by simpa using hp p h]
  have e : P.map (fun p => ((List.range n).map fun j => P.idxOf j).getD p 0) = List.range P.length := by
    refine List.ext_getElem (by simp) fun i h1 h2 => ?_
    have hi : i < P.length := by simpa using h2
    have hpi := hp _ (List.getElem_mem hi)
    have hix : P.idxOf P[i] = i := by
      have hm := List.idxOf_lt_length_of_mem (List.getElem_mem hi)
      have e := List.getElem_idxOf hm
      rcases Nat.lt_trichotomy (P.idxOf P[i]) i with h1 | h1 | h1
      · exact absurd e (List.pairwise_iff_getElem.1 hn _ _ hm hi h1)
      · exact h1
      · exact absurd e.symm (List.pairwise_iff_getElem.1 hn _ _ hi hm h1)
    simp [List.getD_eq_getElem?_getD, hpi, hix]
  rw [e, gat_range hb]
theorem gat_onto_word {n : Nat} {P : List Nat} (hn : P.Nodup) (hp : ∀ p ∈ P, p < n) : ∀ (u : List Nat), Lets P.length u → ∃ v, Lets n v ∧ v.map (fun a => gatN a P) = u
  | [], _ => ⟨[], fun a ha => absurd ha (by simp), rfl⟩
  | b :: u, h => by
    obtain ⟨a, ha, e⟩ := gat_onto (n := n) hn hp (h b (by simp))
    obtain ⟨v, hv, e'⟩ := gat_onto_word hn hp u fun x hx => h x (by simp [hx])
    exact ⟨a :: v, fun x hx => by
      rcases List.mem_cons.1 hx with rfl | hx
      · exact ha
      · exact hv x hx, by rw [List.map_cons, e, e']⟩

theorem lets_gat {n : Nat} {P : List Nat} (v : List Nat) : Lets P.length (v.map fun a => gatN a P) := fun b hb => by
  obtain ⟨a, _, rfl⟩ := List.mem_map.1 hb
  exact gatN_lt a P
theorem lets_append {k : Nat} {u v : List Nat} (hu : Lets k u) (hv : Lets k v) : Lets k (u ++ v) := fun a ha => by
  rcases List.mem_append.1 ha with ha | ha
  · exact hu a ha
  · exact hv a ha

structure WidOk (d : Den) (names : List (List UInt8)) : Prop where
  right : rightS d = true
  names6 : names.length ≤ 6
  len : (placesOf d.tracks names).length = d.tracks.length
  nodup : (placesOf d.tracks names).Nodup
  lt : ∀ p ∈ placesOf d.tracks names, p < names.length
  wright : rightS (widenR d names) = true
  tracks : (widenR d names).tracks = names
  mem : ∀ s ∈ d.tracks, s ∈ names
theorem wid_ok {d : Den} {names : List (List UInt8)} (h : widenE d names = 0) : WidOk d names := by
  obtain ⟨hr, h2, h3, h4⟩ := widenE_of_ok h
  obtain ⟨k2, k3, _, _⟩ := tracksS_parts (rightS_parts hr).1
  have hin := inAll_iff.1 h4
  have hnd := strict_nodup (rises_strict k3)
  refine ⟨hr, h3, by simp [placesOf], ?_, ?_, ?_, by rw [widenR_ok h]; rfl, hin⟩
  · refine List.pairwise_iff_getElem.2 fun i j hi hj hij e => ?_
    have hi' : i < d.tracks.length := by simpa [placesOf] using hi
    have hj' : j < d.tracks.length := by simpa [placesOf] using hj
    simp only [placesOf, List.getElem_map] at e
    have := idx_inj' (hin _ (List.getElem_mem hi')) (hin _ (List.getElem_mem hj')) e
    exact List.pairwise_iff_getElem.1 hnd i j hi' hj' hij this
  · intro p hp
    obtain ⟨s, hs, rfl⟩ := List.mem_map.1 hp
    exact List.idxOf_lt_length_of_mem (hin s hs)
  · rw [widenR_ok h, widenD_ov]
    exact ovD_right hr h3 h2 (by simp [placesOf])

theorem wid_lang {d : Den} {names : List (List UInt8)} (h : widenE d names = 0) {v : List Nat} (hv : Lets names.length v) : lang (widenR d names) v = lang d (v.map fun a => gatN a (placesOf d.tracks names)) := by
  have ok := wid_ok h
  have hl := lets_gat (n := names.length) (P := placesOf d.tracks names) v
  rw [ok.len] at hl
  rw [lang, langR_let (by rw [ok.tracks]; exact hv), lang, langR_let hl, widenR_ok h]
  have e : (widenD d names).rows = d.rows.map (ovRow names.length (placesOf d.tracks names)) := by simp [widenD, Den.rows, Function.comp_def]
  rw [e, wid_run ok.right ok.len v (right_pos ok.right) hv]
  rfl
theorem wid_sound {d : Den} {names : List (List UInt8)} (h : widenE d names = 0) : soundD (widenR d names) = soundD d := by
  have ok := wid_ok h
  have hiff : SoundL names.length (lang (widenR d names)) ↔ SoundL d.tracks.length (lang d) := by
    have one : ∀ {a}, a < 2 ^ names.length → Lets names.length [a] := fun {a} ha x hx => by simp at hx; omega
    have two : ∀ {a}, a < 2 ^ names.length → Lets names.length [a, a] := fun {a} ha x hx => by simp at hx; omega
    constructor
    · rintro ⟨h1, h2⟩
      refine ⟨by rw [wid_lang h (fun a ha => absurd ha (by simp))] at h1; exact h1, fun u b hu hb => ?_⟩
      rw [← ok.len] at hu hb
      obtain ⟨a, ha, ea⟩ := gat_onto (n := names.length) ok.nodup ok.lt hb
      obtain ⟨v, hv, ev⟩ := gat_onto_word (n := names.length) ok.nodup ok.lt u hu
      have := h2 v a hv ha
      rw [wid_lang h (lets_append hv (one ha)), wid_lang h (lets_append hv (two ha)), List.map_append, List.map_append, ev] at this
      simpa [ea] using this
    · rintro ⟨h1, h2⟩
      refine ⟨by rw [wid_lang h (fun a ha => absurd ha (by simp))]; exact h1, fun v a hv ha => ?_⟩
      rw [wid_lang h (lets_append hv (one ha)), wid_lang h (lets_append hv (two ha)), List.map_append, List.map_append]
      have hl := lets_gat (n := names.length) (P := placesOf d.tracks names) v
      rw [ok.len] at hl
      have hg := gatN_lt a (placesOf d.tracks names)
      rw [ok.len] at hg
      exact h2 _ _ hl hg
  have e1 := soundD_iff ok.wright
  rw [ok.tracks, hiff, ← soundD_iff ok.right] at e1
  cases h1 : soundD (widenR d names) <;> cases h2 : soundD d <;> simp_all

end Tab

/- (compare.both).first: the first word that tells. -/
namespace Tab
open Go Go.Proofs
set_option maxRecDepth 10000
set_option linter.unusedVariables false
set_option linter.unusedSimpArgs false
set_option linter.unusedSectionVars false

section
variable (d e : Den)
def stp (p : N2) (a : Nat) : N2 := (stepN d.rows p.1 a, stepN e.rows p.2 a)
theorem runG_run (w : List Nat) : ∀ p : N2, w.foldl (stp d e) p = (runN d.rows p.1 w, runN e.rows p.2 w) := by
  induction w with
  | nil => intro p; rfl
  | cons a w ih => intro p; rw [List.foldl_cons, ih]; rfl
def askP (qf : Bool → Bool → Bool) (p : N2) : Bool := qf (accN d.accept p.1) (accN e.accept p.2)
def askT (qf : Bool → Bool → Bool) (v : List Nat) : Bool := askP d e qf (runG (stp d e) (0, 0) v)
theorem askT_eq (qf) (v : List Nat) : askT d e qf v = qf (accN d.accept (runN d.rows 0 v)) (accN e.accept (runN e.rows 0 v)) := by
  rw [askT, runG, runG_run]; rfl
noncomputable def cmpO (qf : Bool → Bool → Bool) : Option (List Nat) := firstO (2 ^ d.tracks.length) (askT d e qf)
/-- A pair of states. -/
def okP (p : N2) : Prop := p.1 < d.accept.length ∧ p.2 < e.accept.length

structure FiOk (qf : Bool → Bool → Bool) (E : Es) (W : List (List Nat)) (i a : Nat) : Prop where
  bf : Bf (stp d e) (0, 0) (2 ^ d.tracks.length) ((0, 0) :: E.map (·.1)) W i a
  nodup : (E.map (·.1)).Nodup
  ok : ∀ x ∈ E, okP d e x.1
  from' : ∀ x ∈ E, okP d e x.2.1
  path : ∀ (j : Nat) (p : N2) (w : List Nat), (((0, 0) : N2) :: E.map (·.1))[j]? = some p → W[j]? = some w → (j = 0 ∨ p ≠ (0, 0)) → Path E p w
  no : ∀ x ∈ E, askP d e qf x.1 = false
end

theorem Bf.wlen {σ : Type} {step : σ → Nat → σ} {s0 : σ} {K : Nat} {L : List σ} {W : List (List Nat)} {i a : Nat} (h : Bf step s0 K L W i a) : ∀ (j : Nat) (w : List Nat), W[j]? = some w → w.length ≤ j := by
  intro j
  induction j using Nat.strongRecOn with
  | _ j ih =>
    intro w hw
    by_cases h0 : j = 0
    · subst h0
      rw [h.zero, Option.some.injEq] at hw
      subst hw; simp
    · obtain ⟨j0, w0, a0, h1, h2, h3, _⟩ := h.from' j w (by omega) hw
      have := ih j0 h1 w0 h2
      rw [h3]; simp; omega

theorem pairs_len {n m : Nat} {l : List N2} (hn : l.Nodup) (hl : ∀ p ∈ l, p.1 < n ∧ p.2 < m) : l.length ≤ n * m := by
  have h := nodup_le (l := l.map fun p => p.1 * m + p.2) (n := n * m) ?_ ?_
  · simpa using h
  · refine List.pairwise_map.2 (List.Pairwise.imp_of_mem (fun {p q} hp hq hne e => hne ?_) hn)
    have h1 := hl p hp
    have h2 := hl q hq
    have e1 : p.1 = q.1 := by
      have a1 : (p.1 * m + p.2) / m = p.1 := by rw [Nat.mul_comm, Nat.mul_add_div (by omega), Nat.div_eq_of_lt h1.2]; omega
      have a2 : (q.1 * m + q.2) / m = q.1 := by rw [Nat.mul_comm, Nat.mul_add_div (by omega), Nat.div_eq_of_lt h2.2]; omega
      rw [← a1, e, a2]
    have e2 : p.2 = q.2 := by rw [e1] at e; omega
    exact Prod.ext e1 e2
  · intro x hx
    obtain ⟨p, hp, rfl⟩ := List.mem_map.1 hx
    obtain ⟨h1, h2⟩ := hl p hp
    calc p.1 * m + p.2 < p.1 * m + m := by omega
      _ = (p.1 + 1) * m := by rw [Nat.add_mul]; omega
      _ ≤ n * m := Nat.mul_le_mul_right _ h1

section
variable {d e : Den} {qf : Bool → Bool → Bool} {E : Es} {W : List (List Nat)} {i a : Nat}
theorem FiOk.start : FiOk d e qf [] [[]] 0 0 where
  bf := Bf.start _ _ _
  nodup := List.nodup_nil
  ok := by simp
  from' := by simp
  path := by
    intro j p w h1 h2 _
    cases j with
    | zero => simp at h1 h2; subst h1; subst h2; exact .nil
    | succ j => simp at h2
  no := by simp
theorem FiOk.len (h : FiOk d e qf E W i a) : E.length ≤ d.accept.length * e.accept.length := by
  have := pairs_len (l := E.map (·.1)) h.nodup fun p hp => by
    obtain ⟨x, hx, rfl⟩ := List.mem_map.1 hp
    exact h.ok x hx
  simpa using this
theorem FiOk.next (h : FiOk d e qf E W i (2 ^ d.tracks.length)) : FiOk d e qf E W (i + 1) 0 :=
  ⟨h.bf.next rfl, h.nodup, h.ok, h.from', h.path, h.no⟩
theorem FiOk.word (h : FiOk d e qf E W i a) {p : N2} (hp : (((0, 0) : N2) :: E.map (·.1))[i]? = some p) : ∃ w, W[i]? = some w ∧ runG (stp d e) (0, 0) w = p ∧ w.length ≤ i := by
  have hl := h.bf.len
  have hi : i < W.length := by rw [hl]; exact (List.getElem?_eq_some_iff.1 hp).1
  have hw := List.getElem?_eq_getElem hi
  have hr := (h.bf.run i _ hw).1
  rw [hp, Option.some.injEq] at hr
  exact ⟨W[i], hw, hr.symm, h.bf.wlen i _ hw⟩
theorem FiOk.hit (h : FiOk d e qf E W i a) (ha : a < 2 ^ d.tracks.length) {p : N2} (hp : (((0, 0) : N2) :: E.map (·.1))[i]? = some p) (hm : stp d e p a ∈ E.map (·.1)) : FiOk d e qf E W i (a + 1) := by
  obtain ⟨w, hw, hr, _⟩ := h.word hp
  obtain ⟨j, hj, e1⟩ := List.getElem_of_mem hm
  refine ⟨h.bf.hit ha hw (j := j + 1) (by omega) ?_, h.nodup, h.ok, h.from', h.path, h.no⟩
  rw [hr, List.getElem?_cons_succ, List.getElem?_eq_getElem hj, e1]
/-- Where a new pair is met. -/
theorem FiOk.fresh (h : FiOk d e qf E W i a) (ha : a < 2 ^ d.tracks.length) {p : N2} (hp : (((0, 0) : N2) :: E.map (·.1))[i]? = some p) (hm : stp d e p a ∉ E.map (·.1)) : ∃ w, W[i]? = some w ∧ runG (stp d e) (0, 0) w = p ∧ Path E p w ∧ w.length ≤ i ∧ (i = 0 → w = []) := by
  obtain ⟨w, hw, hr, hl⟩ := h.word hp
  refine ⟨w, hw, hr, h.path i p w hp hw ?_, hl, fun h0 => ?_⟩
  · by_cases h0 : i = 0
    · exact .inl h0
    · refine .inr fun hp0 => hm ?_
      subst hp0
      obtain ⟨j, w', k1, k2, k3, _⟩ := h.bf.done 0 [] a h.bf.zero ha (.inl (by omega))
      have hj := (h.bf.run j w' k2).1
      rw [k3] at hj
      obtain ⟨j, rfl⟩ : ∃ j', j = j' + 1 := ⟨j - 1, by omega⟩
      rw [List.getElem?_cons_succ] at hj
      exact List.mem_of_getElem? hj
  · subst h0
    have := h.bf.zero
    rw [hw, Option.some.injEq] at this
    exact this
theorem FiOk.miss (h : FiOk d e qf E W i a) (ha : a < 2 ^ d.tracks.length) {p : N2} (hp : (((0, 0) : N2) :: E.map (·.1))[i]? = some p) (hpo : okP d e p) (hto : okP d e (stp d e p a)) (hm : stp d e p a ∉ E.map (·.1)) (hq : askP d e qf (stp d e p a) = false) :
    ∃ W', FiOk d e qf (E ++ [(stp d e p a, (p, a))]) W' i (a + 1) := by
  obtain ⟨w, hw, hr, hpa, hl, _⟩ := h.fresh ha hp hm
  have hbf := h.bf.miss ha hw
  rw [hr] at hbf
  have hE : ((0, 0) : N2) :: (E ++ [(stp d e p a, (p, a))]).map (·.1) = (((0, 0) : N2) :: E.map (·.1)) ++ [stp d e p a] := by simp
  have hWl := h.bf.len
  refine ⟨W ++ [w ++ [a]], by rw [hE]; exact hbf, ?_, ?_, ?_, ?_, ?_⟩
  · rw [List.map_append]
    exact List.nodup_append.2 ⟨h.nodup, by simp, fun x hx y hy e' => by simp at hy; subst hy; subst e'; exact hm hx⟩
  · intro x hx
    rcases List.mem_append.1 hx with hx | hx
    · exact h.ok x hx
    · simp at hx; subst hx; exact hto
  · intro x hx
    rcases List.mem_append.1 hx with hx | hx
    · exact h.from' x hx
    · simp at hx; subst hx; exact hpo
  · intro j q u hj hu hne
    rw [hE] at hj
    by_cases hl : j < W.length
    · rw [List.getElem?_append_left (by rw [← hWl]; exact hl)] at hj
      rw [List.getElem?_append_left hl] at hu
      exact (h.path j q u hj hu hne).mono fun x hx => List.mem_append_left _ hx
    · have hu' := hu
      rw [List.getElem?_append_right (by omega)] at hu
      obtain ⟨k1, k2⟩ := List.getElem?_eq_some_iff.1 hu
      simp at k1
      have hjW : j = W.length := by omega
      subst hjW
      simp at k2
      rw [hWl, List.getElem?_append_right (Nat.le_refl _)] at hj
      simp at hj
      subst hj; subst k2
      have h0 : ¬ W.length = 0 := by rw [hWl]; simp
      exact .snoc (List.mem_append_right _ (by simp)) (hne.resolve_left h0) (hpa.mono fun x hx => List.mem_append_left _ hx)
  · intro x hx
    rcases List.mem_append.1 hx with hx | hx
    · exact h.no x hx
    · simp at hx; subst hx; exact hq
theorem FiOk.no' (h : FiOk d e qf E W i a) : ∀ (j : Nat) (s : N2), 0 < j → (((0, 0) : N2) :: E.map (·.1))[j]? = some s → askP d e qf s = false := by
  intro j s hj hs
  obtain ⟨j, rfl⟩ : ∃ j', j = j' + 1 := ⟨j - 1, by omega⟩
  rw [List.getElem?_cons_succ] at hs
  obtain ⟨x, hx, rfl⟩ := List.mem_map.1 (List.mem_of_getElem? hs)
  exact h.no x hx
theorem FiOk.found (h : FiOk d e qf E W i a) (ha : a < 2 ^ d.tracks.length) {p : N2} {w : List Nat} (hw : W[i]? = some w) (hr : runG (stp d e) (0, 0) w = p) (hq : askP d e qf (stp d e p a) = true) : cmpO d e qf = some (w ++ [a]) :=
  firstO_eq (h.bf.found ha hw (q := askP d e qf) (by rw [hr]; exact hq) h.no')
theorem FiOk.none (h : FiOk d e qf E W (E.length + 1) 0) : cmpO d e qf = none := by
  have hb := h.bf
  have e1 : E.length + 1 = (((0, 0) : N2) :: E.map (·.1)).length := by simp
  rw [e1] at hb
  exact firstO_eq (hb.none (q := askP d e qf) h.no')
end

end Tab

/- (compare.both).first, walked. -/
namespace Tab
open Go Go.Proofs
set_option maxRecDepth 10000
set_option linter.unusedVariables false
set_option linter.unusedSimpArgs false
set_option linter.unusedSectionVars false

def cpN (L : List N2) : List AV := L.flatMap av2
theorem cpN_length : ∀ L, (cpN L).length = L.length * 2
  | [] => rfl
  | p :: L => by have := cpN_length L; simp only [cpN, av2, List.flatMap_cons, List.length_append, List.length_cons, List.length_nil] at this ⊢; omega
theorem cpN_get : ∀ {L : List N2} {i : Nat} {p : N2}, L[i]? = some p → ((cpN L).drop (i * 2)).take 2 = av2 p
  | x :: L, 0, p, h => by simp at h; subst h; simp [cpN, av2]
  | x :: L, i + 1, p, h => by
    have := cpN_get (L := L) (i := i) (p := p) (by simpa using h)
    rw [show (i + 1) * 2 = i * 2 + 1 + 1 by omega]
    simpa [cpN, av2] using this
theorem cpN_bel (n L) : bels n (cpN L) := by
  rw [bels_iff]
  intro a ha
  obtain ⟨p, _, hp⟩ := List.mem_flatMap.1 ha
  simp [av2] at hp
  rcases hp with rfl | rfl <;> simp [AV.bel]
theorem cpN_snoc (L : List N2) (p : N2) : cpN (L ++ [p]) = cpN L ++ av2 p := by simp [cpN]
def firstAV : Option (List Nat) → AV
  | none => .tup [.sl .nil 0 [], .bool false]
  | some w => .tup [.sl .any w.length (iW w), .bool true]
theorem iW_closed (w : List Nat) : closeds (iW w) := aIs_closed .any (w.map fun n : Nat => (n : Int))
theorem firstAV_closed (o) : (firstAV o).closed := by cases o <;> simp [firstAV, AV.closed, closeds, iW_closed]

set_option maxHeartbeats 1000000 in
theorem cmp_first (qf : Bool → Bool → Bool) (q : FuncId) (hq : ∀ a b, Pure Tryz.prog q [.bool a, .bool b] (.bool (qf a b))) (d e : Den) (hd : rightS d = true) (he : rightS e = true) (hk : d.tracks.length = e.tracks.length) :
    Pure Tryz.prog 15 [.agg (d.cells ++ e.cells), (.fn (.func q) [] [])] (firstAV (cmpO d e qf)) := by
  have hpd := right_pos hd
  have hpe := right_pos he
  obtain ⟨k6, _, _, d256⟩ := tracksS_parts (rightS_parts hd).1
  obtain ⟨_, _, _, e256⟩ := tracksS_parts (rightS_parts he).1
  have hK64 : 2 ^ d.tracks.length ≤ 64 := by have : 2 ^ d.tracks.length ≤ 2 ^ 6 := Nat.pow_le_pow_right (by omega) k6; omega
  have hstep : ∀ (p : N2) (a : Nat), okP d e p → a < 2 ^ d.tracks.length → okP d e (stp d e p a) := fun p a hp ha =>
    ⟨(stepN_ok hd hp.1 ha).2.2.2, (stepN_ok he hp.2 (by rw [← hk]; exact ha)).2.2.2⟩
  have hNN : d.accept.length * e.accept.length ≤ 256 * 256 := Nat.mul_le_mul (by omega) (by omega)
  have hokn : ∀ p : N2, okP d e p → okN p := fun p h => ⟨by have := h.1; omega, by have := h.2; omega⟩
  obtain ⟨N, hN⟩ : ∃ N, d.accept.length * e.accept.length = N := ⟨_, rfl⟩
  rw [hN] at hNN
  refine Pure.of_read (by simp [closeds, AV.closed, Den.cells, aSs_closed, aBs_closed, aRs_closed]) (firstAV_closed _) (R := fun o H' => (cmpO d e qf = none ∧ o = .ret (.tup [.sl .nil 0 [], .bool false])) ∨ ∃ w b g, cmpO d e qf = some w ∧ o = .ret (.tup [.hs b g 0 w.length 1, .bool true]) ∧ H'[b]? = some (.cells g (iW w))) ?_ ?_
  rotate_left
  · rintro o H' (⟨h, rfl⟩ | ⟨w, b, g, h, rfl, hb⟩)
    · exact ⟨_, rfl, by rw [h]; exact .refl _⟩
    · refine ⟨_, rfl, ?_⟩
      rw [h]
      exact .tup (.cons (Rd.whole hb (by rw [iW_length]; omega)) (.cons (.refl _) .nil))
  refine ACall.of_sw 97 Tryz.func15 rfl Tryz.ntmps15 (by kernel_rfl) (Nat.le_of_ble_eq_true (by kernel_rfl)) ?_; refine SW.of_vc ?_
  repeat first | refine opsStep ?_ | refine codeStep ?_ | refine drawStep ?_
  refine loopE_of (ι := {x : Es × List (List Nat) × Nat // FiOk d e qf x.1 x.2.1 x.2.2 0 ∧ x.2.2 ≤ x.1.length + 1})
    (fun x => (fr [(1, (.fn (.func q) [] [])), (2, .ref 0 0 0), (6, .mp 1), (7, .hs 2 x.1.1.length 0 (x.1.1.length + 1) 2), (8, .int .i64 x.1.2.2)], [.cells 0 (d.cells ++ e.cells), .dict (esE (x.1.1)), .cells (x.1.1).length (cpN ((0, 0) :: (x.1.1).map (·.1)))])) (fun x => N + 2 - x.1.2.2) ⟨([], [[]], 0), FiOk.start, by simp⟩ (Ent.fr' ⟨(by kernel_rfl), (by kernel_rfl), (by kernel_rfl), (by kernel_rfl), (by kernel_rfl), trivial⟩ (by kernel_rfl)) ?_
  rintro ⟨⟨E, W, i⟩, hF, hi⟩
  simp only at hF hi
  have hEl := hF.len
  rw [hN] at hEl
  repeat first | refine opsStep ?_ | refine codeStep ?_ | refine drawStep ?_
  refine decB_dec (fun h => ?_) (fun h => ?_)
  · have hil : i < E.length + 1 := by have := h; simp at this; omega
    obtain ⟨p, hp⟩ : ∃ p, (((0, 0) : N2) :: E.map (·.1))[i]? = some p := ⟨_, List.getElem?_eq_getElem (by simpa using hil)⟩
    have hpo : okP d e p := by
      cases i with
      | zero => simp at hp; subst hp; exact ⟨hpd, hpe⟩
      | succ i =>
        rw [List.getElem?_cons_succ] at hp
        obtain ⟨x, hx, rfl⟩ := List.mem_map.1 (List.mem_of_getElem? hp)
        exact hF.ok x hx
    have hg1 := cpN_get hp
    have hgl : (cpN (((0, 0) : N2) :: E.map (·.1))).length = (E.length + 1) * 2 := by rw [cpN_length]; simp
    obtain ⟨s1, _⟩ := stepN_ok hd hpo.1 (show 0 < 2 ^ d.tracks.length from Nat.two_pow_pos _)
    have sg : d.next[p.1]? = some d.next[p.1] := List.getElem?_eq_getElem s1
    have srl : (d.next[p.1]).2.length = 2 ^ d.tracks.length := by
      have := (rowOk_parts ((rightS_parts hd).2.2 _ (List.getElem_mem s1))).1
      exact this
    repeat first | refine opsStep ?_ | refine codeStep ?_ | refine drawStep ?_
    refine guardE_of (by simp; omega) ?_
    repeat first | refine opsStep ?_ | refine codeStep ?_ | refine drawStep ?_
    refine guardE_of rfl ?_
    refine optE_of rfl ?_
    refine guardE_of (by show 0 + i * 2 + 2 ≤ _; rw [hgl]; omega) ?_
    repeat first | refine opsStep ?_ | refine codeStep ?_ | refine drawStep ?_
    refine guardE_of ⟨by show (((cpN (((0, 0) : N2) :: E.map (·.1))).drop (0 + i * 2)).take 2).length = 2; rw [Nat.zero_add, hg1]; rfl, by decide, by decide⟩ ?_
    iterate 1 refine opsStep ?_
    refine VCode.ent (Ent.fr' (l := [(1, (.fn (.func q) [] [])), (2, .ref 0 0 0), (6, .mp 1), (7, .hs 2 (E).length 0 ((E).length + 1) 2), (8, .int .i64 i), (9, .ref 3 0 0)]) (H' := [.cells 0 (d.cells ++ e.cells), .dict (esE (E)), .cells (E).length (cpN ((0, 0) :: (E).map (·.1)))] ++ [.cells 0 (av2 p)]) ⟨(by kernel_rfl), (by kernel_rfl), (by kernel_rfl), (by kernel_rfl), (by kernel_rfl), (by kernel_rfl), trivial⟩ (Eq.trans (b := [.cells 0 (d.cells ++ e.cells), .dict (esE (E)), .cells (E).length (cpN ((0, 0) :: (E).map (·.1)))] ++ [.cells 0 (over [.int .i64 0, .int .i64 0] 0 (((cpN (((0, 0) : N2) :: E.map (·.1))).drop (0 + i * 2)).take 2))]) (by kernel_rfl) (by rw [Nat.zero_add, hg1]; rfl))) ?_
    repeat first | refine opsStep ?_ | refine codeStep ?_ | refine drawStep ?_
    refine guardE_of (by simp; omega) ?_
    repeat first | refine opsStep ?_ | refine codeStep ?_ | refine drawStep ?_
    refine optE_of (c := aIs (d.next[p.1]).1 (d.next[p.1]).2) (by simp [Value.cells, sg]) ?_
    repeat first | refine opsStep ?_ | refine codeStep ?_ | refine drawStep ?_
    refine loopE_of (ι := {x : Es × List (List Nat) × Nat // FiOk d e qf x.1 x.2.1 i x.2.2 ∧ x.2.2 ≤ 2 ^ d.tracks.length ∧ (((0, 0) : N2) :: x.1.map (·.1))[i]? = some p})
      (fun x => (fr [(1, (.fn (.func q) [] [])), (2, .ref 0 0 0), (6, .mp 1), (7, .hs 2 (x.1.1).length 0 ((x.1.1).length + 1) 2), (8, .int .i64 i), (9, .ref 3 0 0), (34, .int .i64 (2 ^ d.tracks.length : Nat)), (35, .int .i64 x.1.2.2)], [.cells 0 (d.cells ++ e.cells), .dict (esE (x.1.1)), .cells (x.1.1).length (cpN ((0, 0) :: (x.1.1).map (·.1)))] ++ [.cells 0 (av2 p)])) (fun x => 2 ^ d.tracks.length - x.1.2.2) ⟨(E, W, 0), hF, Nat.zero_le _, hp⟩ (Ent.fr' ⟨(by kernel_rfl), (by kernel_rfl), (by kernel_rfl), (by kernel_rfl), (by kernel_rfl), (by kernel_rfl), ?_, (by kernel_rfl), trivial⟩ (by kernel_rfl)) ?_
    · refine Eq.trans (b := .int .i64 ((d.next[p.1]).2.length : Nat)) (by kernel_rfl) ?_
      rw [srl]
    rintro ⟨⟨E1, W1, a⟩, hF1, ha, hp1⟩
    simp only at hF1 ha hp1
    have hEl1 := hF1.len
    rw [hN] at hEl1
    have hil1 : i < E1.length + 1 := by have := (List.getElem?_eq_some_iff.1 hp1).1; simpa using this
    have hgl1 : (cpN (((0, 0) : N2) :: E1.map (·.1))).length = (E1.length + 1) * 2 := by rw [cpN_length]; simp
    repeat first | refine opsStep ?_ | refine codeStep ?_ | refine drawStep ?_
    refine decB_dec (fun g => ?_) (fun g => ?_)
    · have hal : a < 2 ^ d.tracks.length := Int.ofNat_lt.1 (show ((a : Nat) : Int) < ((2 ^ d.tracks.length : Nat) : Int) from g)
      obtain ⟨s1, s2, s3, s4⟩ := stepN_ok hd hpo.1 hal
      obtain ⟨t1, t2, t3, t4⟩ := stepN_ok he hpo.2 (show a < 2 ^ e.tracks.length by rw [← hk]; exact hal)
      have tg : e.next[p.2]? = some e.next[p.2] := List.getElem?_eq_getElem t1
      have s5 : (d.next[p.1]).2[a]? = some (stepN d.rows p.1 a : Int) := by rw [List.getElem?_eq_getElem s2, s3]
      have t5 : (e.next[p.2]).2[a]? = some (stepN e.rows p.2 a : Int) := by rw [List.getElem?_eq_getElem t2, t3]
      have hto := hstep p a hpo hal
      have hhit := hF1.hit hal hp1
      have hfresh := hF1.fresh hal hp1
      have hmiss := hF1.miss hal hp1 hpo hto
      have hfound := fun w => hF1.found hal (p := p) (w := w)
      have hnext : (stp d e p a) = (stepN d.rows p.1 a, stepN e.rows p.2 a) := rfl
      have hkE : ∀ x ∈ E1, okN x.1 := fun x hx => hokn _ (hF1.ok x hx)
      have hask : askP d e qf (stp d e p a) = qf (accN d.accept (stepN d.rows p.1 a)) (accN e.accept (stepN e.rows p.2 a)) := rfl
      rw [hask] at hmiss hfound
      generalize stp d e p a = to at *
      obtain ⟨c1, c2⟩ := to
      simp only [Prod.mk.injEq] at hnext
      obtain ⟨n1, n2⟩ := hnext
      rw [← n1] at s5 s4 hmiss hfound
      rw [← n2] at t5 t4 hmiss hfound
      have ad : d.accept[c1]? = some (accN d.accept c1) := by rw [accN, List.getD_eq_getElem?_getD, List.getElem?_eq_getElem s4]; rfl
      have ae : e.accept[c2]? = some (accN e.accept c2) := by rw [accN, List.getD_eq_getElem?_getD, List.getElem?_eq_getElem t4]; rfl
      have hqc := hq (accN d.accept c1) (accN e.accept c2)
      generalize accN d.accept c1 = x1 at *
      generalize accN e.accept c2 = x2 at *
      generalize d.next[p.1] = r1 at *
      generalize e.next[p.2] = r2 at *
      generalize qf x1 x2 = x3 at *
      repeat first | refine opsStep ?_ | refine codeStep ?_ | refine drawStep ?_
      refine SW.drawn rfl (by kernel_rfl) ?_
      repeat first | refine opsStep ?_ | refine codeStep ?_ | refine drawStep ?_
      refine guardE_of (by simp; omega) ?_
      repeat first | refine opsStep ?_ | refine codeStep ?_ | refine drawStep ?_
      refine optE_of (c := aIs r1.1 r1.2) (by simp [Value.cells, sg]) ?_
      repeat first | refine opsStep ?_ | refine codeStep ?_ | refine drawStep ?_
      refine guardE_of (by simp; omega) ?_
      repeat first | refine opsStep ?_ | refine codeStep ?_ | refine drawStep ?_
      refine optE_of (c := .int .i64 (c1 : Nat)) (by simp [Value.cells, s5]) ?_
      repeat first | refine opsStep ?_ | refine codeStep ?_ | refine drawStep ?_
      refine guardE_of (by simp; omega) ?_
      repeat first | refine opsStep ?_ | refine codeStep ?_ | refine drawStep ?_
      refine optE_of (c := aIs r2.1 r2.2) (by simp [Value.cells, tg]) ?_
      repeat first | refine opsStep ?_ | refine codeStep ?_ | refine drawStep ?_
      refine guardE_of (by simp; omega) ?_
      repeat first | refine opsStep ?_ | refine codeStep ?_ | refine drawStep ?_
      refine optE_of (c := .int .i64 (c2 : Nat)) (by simp [Value.cells, t5]) ?_
      repeat first | refine opsStep ?_ | refine codeStep ?_ | refine drawStep ?_
      refine ⟨by kernel_rfl, ?_⟩
      repeat first | refine opsStep ?_ | refine codeStep ?_ | refine drawStep ?_
      by_cases hm : (c1, c2) ∈ E1.map (·.1)
      · obtain ⟨s, hs⟩ : ∃ s, ((c1, c2), s) ∈ E1 := by
          obtain ⟨⟨x1, x2⟩, h1, h2⟩ := List.mem_map.1 hm
          exact ⟨x2, by simp only at h2; rw [← h2]; exact h1⟩
        refine look_hit (p := (c1, c2)) hkE hF1.nodup hs ?_
        repeat first | refine opsStep ?_ | refine codeStep ?_ | refine drawStep ?_
        refine ⟨⟨(E1, W1, a + 1), hhit hm, hal, hp1⟩, (by show 2 ^ d.tracks.length - (a + 1) < 2 ^ d.tracks.length - a; omega), Ent.frD (X := [.cells 0 (av2 (c1, c2)), .cells 0 (av3 s)]) ⟨(by kernel_rfl), (by kernel_rfl), (by kernel_rfl), (by kernel_rfl), (by kernel_rfl), (by kernel_rfl), (by kernel_rfl), inc_slot (i := a) (by omega), trivial⟩ (by kernel_rfl) (Nat.le_of_ble_eq_true (by kernel_rfl)) (by first | (simp [frBel, blksBel, Blk.bel, AV.bel, bels, bels_append, bels_map, aSs_bel, aIs_bel, aBs_bel, aRs_bel, aDen_bel, cells_bel]; done) | (simp only [List.drop_zero, ← List.map_take, ← List.map_drop, List.map_map, frBel, blksBel, Blk.bel, AV.bel, bels, bels_append, bels_map, aSs_bel, aIs_bel, aBs_bel, aRs_bel, aDen_bel, cells_bel]; simp [AV.bel, aSs_bel, aIs_bel, aBs_bel, aRs_bel, aDen_bel, cells_bel])) ?_⟩
        simp [blksBel, Blk.bel, Den.cells, bels, aSs_bel, aBs_bel, aRs_bel, cpN_bel, av2_bel]
      · obtain ⟨w, hw, hr, hpa, hwl, hw0⟩ := hfresh hm
        obtain ⟨W2, hF2⟩ : ∃ W2, x3 = false → FiOk d e qf (E1 ++ [((c1, c2), (p, a))]) W2 i (a + 1) := by
          cases h : x3 with
          | true => exact ⟨[], fun h => by simp at h⟩
          | false =>
            obtain ⟨W2, h2⟩ := hmiss hm h
            exact ⟨W2, fun _ => h2⟩
        have hway := cmp_way (E1 ++ [((c1, c2), (p, a))]) (c1, c2) p a w (decide ((i : Int) = 0)) (fun x hx => by
            rcases List.mem_append.1 hx with hx | hx
            · exact hkE x hx
            · simp at hx; subst hx; exact hokn _ hto) (fun x hx => by
            rcases List.mem_append.1 hx with hx | hx
            · exact hokn _ (hF1.from' x hx)
            · simp at hx; subst hx; exact hokn _ hpo) (by
            rw [List.map_append]
            exact List.nodup_append.2 ⟨hF1.nodup, by simp, fun x hx y hy e' => by simp at hy; subst hy; subst e'; exact hm hx⟩) (List.mem_append_right _ (by simp)) (hpa.mono fun x hx => List.mem_append_left _ hx) (fun h => hw0 (by have := of_decide_eq_true h; omega)) (by omega)
        refine look_miss (p := (c1, c2)) (hokn _ hto) hkE hm ?_
        repeat first | refine opsStep ?_ | refine codeStep ?_ | refine drawStep ?_
        refine put_new (p := (c1, c2)) (s := (p, a)) (hokn _ hto) hkE hm ?_
        repeat first | refine opsStep ?_ | refine codeStep ?_ | refine drawStep ?_
        refine SW.drawn rfl (by kernel_rfl) ?_
        repeat first | refine opsStep ?_ | refine codeStep ?_ | refine drawStep ?_
        refine guardE_of (by simp; omega) ?_
        repeat first | refine opsStep ?_ | refine codeStep ?_ | refine drawStep ?_
        refine optE_of (c := .bool x1) (by simp [Value.cells, ad]) ?_
        repeat first | refine opsStep ?_ | refine codeStep ?_ | refine drawStep ?_
        refine guardE_of (by simp; omega) ?_
        repeat first | refine opsStep ?_ | refine codeStep ?_ | refine drawStep ?_
        refine optE_of (c := .bool x2) (by simp [Value.cells, ae]) ?_
        repeat first | refine opsStep ?_ | refine codeStep ?_ | refine drawStep ?_
        refine .inl ⟨_, _, [], hqc, RdsN_refl _, .inr rfl, none_need, ?_⟩
        refine drawStep ?_
        refine ⟨by kernel_rfl, ?_⟩
        cases x3 with
        | true =>
          have hfd := hfound w hw hr rfl
          refine VCode.ent (Ent.fr' (l := [(1, (.fn (.func q) [] [])), (2, .ref 0 0 0), (6, .mp 1), (7, .hs 2 (E1).length 0 ((E1).length + 1) 2), (8, .int .i64 i), (9, .ref 3 0 0), (11, .ref 4 0 0), (34, .int .i64 (2 ^ d.tracks.length : Nat)), (35, .int .i64 a), (86, .bool true)]) (H' := [.cells 0 (d.cells ++ e.cells), .dict (esE (E1 ++ [((c1, c2), (p, a))])), .cells E1.length (cpN ((0, 0) :: E1.map (·.1))), .cells 0 (av2 p), .cells 0 (av2 (c1, c2)), .cells 0 (av3 ((0, 0), 0))]) ⟨(by kernel_rfl), (by kernel_rfl), (by kernel_rfl), (by kernel_rfl), (by kernel_rfl), (by kernel_rfl), (by kernel_rfl), (by kernel_rfl), (by kernel_rfl), (by kernel_rfl), trivial⟩ (by kernel_rfl)) ?_
          repeat first | refine opsStep ?_ | refine codeStep ?_ | refine drawStep ?_
          refine callF [1] hway (by simp) (by intro b hb; simp at hb; subst hb; exact (by decide : 1 < 6)) rfl ?_ ?_ ?_ rfl ?_
          · rfl
          · simp [bels, AV.bel, av2]
          · simp [blksBel, Blk.bel]
          rintro o H' ⟨rfl, b1, b3, rfl⟩
          repeat first | refine opsStep ?_ | refine codeStep ?_ | refine drawStep ?_
          refine finR (l := [(4, .hs 7 w.length 0 (w.length + 1) 1), (5, .bool true)]) (H₁ := [.cells 0 (d.cells ++ e.cells), .dict (esE (E1 ++ [((c1, c2), (p, a))])), .cells E1.length (cpN ((0, 0) :: E1.map (·.1))), .cells 0 (av2 p), .cells 0 (av2 (c1, c2)), .cells 0 (av3 ((0, 0), 0)), b1.rn (rnB [1] 6), .cells w.length (rns (rnB [1] 6) (iW (w ++ [a]))), b3.rn (rnB [1] 6)]) (v := .tup [.hs 7 w.length 0 (w.length + 1) 1, .bool true]) ⟨(by kernel_rfl), (by kernel_rfl), trivial⟩ (by kernel_rfl) (Ent.refl _ _ _) (by kernel_rfl) (.inr ⟨w ++ [a], 7, w.length, hfd, by simp, by rw [iW_rn]; rfl⟩)
        | false =>
          have hF2 := hF2 rfl
          have hE2 : (E1 ++ [((c1, c2), (p, a))]).length = E1.length + 1 := by simp
          have hmap : (((0, 0) : N2) :: (E1 ++ [((c1, c2), (p, a))]).map (·.1)) = (((0, 0) : N2) :: E1.map (·.1)) ++ [(c1, c2)] := by simp
          refine VCode.ent (Ent.fr' (l := [(1, (.fn (.func q) [] [])), (2, .ref 0 0 0), (6, .mp 1), (7, .hs 2 (E1).length 0 ((E1).length + 1) 2), (8, .int .i64 i), (9, .ref 3 0 0), (11, .ref 4 0 0), (34, .int .i64 (2 ^ d.tracks.length : Nat)), (35, .int .i64 a), (86, .bool false)]) (H' := [.cells 0 (d.cells ++ e.cells), .dict (esE (E1 ++ [((c1, c2), (p, a))])), .cells E1.length (cpN ((0, 0) :: E1.map (·.1))), .cells 0 (av2 p), .cells 0 (av2 (c1, c2)), .cells 0 (av3 ((0, 0), 0))]) ⟨(by kernel_rfl), (by kernel_rfl), (by kernel_rfl), (by kernel_rfl), (by kernel_rfl), (by kernel_rfl), (by kernel_rfl), (by kernel_rfl), (by kernel_rfl), (by kernel_rfl), trivial⟩ (by kernel_rfl)) ?_
          repeat first | refine opsStep ?_ | refine codeStep ?_ | refine drawStep ?_
          refine guardE_of ⟨rfl, by show 0 + (E1.length + 1) * 2 ≤ _; rw [hgl1]; omega⟩ ?_
          repeat first | refine opsStep ?_ | refine codeStep ?_ | refine drawStep ?_
          refine guardE_of rfl ?_
          repeat first | refine opsStep ?_ | refine codeStep ?_ | refine drawStep ?_
          refine guardE_of ⟨by show E1.length + 1 + 1 ≤ 9223372036854775807; omega, by show (E1.length + 1 + 1) * 16 ≤ 140737488355328; omega⟩ ?_
          repeat first | refine opsStep ?_ | refine codeStep ?_ | refine drawStep ?_
          refine ⟨⟨(E1 ++ [((c1, c2), (p, a))], W2, a + 1), hF2, hal, ?_⟩, (by show 2 ^ d.tracks.length - (a + 1) < 2 ^ d.tracks.length - a; omega), ?_⟩
          · show (((0, 0) : N2) :: (E1 ++ [((c1, c2), (p, a))]).map (·.1))[i]? = some p
            rw [hmap, List.getElem?_append_left (List.getElem?_eq_some_iff.1 hp1).1]; exact hp1
          · refine Ent.frD (l := [(1, (.fn (.func q) [] [])), (2, .ref 0 0 0), (6, .mp 1), (7, .hs 2 (E1 ++ [((c1, c2), (p, a))]).length 0 ((E1 ++ [((c1, c2), (p, a))]).length + 1) 2), (8, .int .i64 i), (9, .ref 3 0 0), (34, .int .i64 (2 ^ d.tracks.length : Nat)), (35, .int .i64 (a + 1 : Nat))])
              (H' := [Blk.cells 0 (d.cells ++ e.cells), .dict (esE (E1 ++ [((c1, c2), (p, a))])), .cells (E1 ++ [((c1, c2), (p, a))]).length (cpN ((0, 0) :: (E1 ++ [((c1, c2), (p, a))]).map (·.1))), .cells 0 (av2 p)]) (X := [Blk.cells 0 (av2 (c1, c2)), .cells 0 (av3 ((0, 0), 0)), .cells 0 (av2 (c1, c2))]) ⟨(by kernel_rfl), (by kernel_rfl), (by kernel_rfl), ?_, (by kernel_rfl), (by kernel_rfl), (by kernel_rfl), ?_, trivial⟩ ?_ (Nat.le_of_ble_eq_true (by kernel_rfl)) (by first | (simp [frBel, blksBel, Blk.bel, AV.bel, bels, bels_append, bels_map, aSs_bel, aIs_bel, aBs_bel, aRs_bel, aDen_bel, cells_bel]; done) | (simp only [List.drop_zero, ← List.map_take, ← List.map_drop, List.map_map, frBel, blksBel, Blk.bel, AV.bel, bels, bels_append, bels_map, aSs_bel, aIs_bel, aBs_bel, aRs_bel, aDen_bel, cells_bel]; simp [AV.bel, aSs_bel, aIs_bel, aBs_bel, aRs_bel, aDen_bel, cells_bel])) ?_
            · refine Eq.trans (b := AV.hs 2 (E1.length + 1) 0 (E1.length + 1 + 1) 2) (by kernel_rfl) ?_
              rw [hE2]
            · exact inc_slot (i := a) (by omega)
            · refine Eq.trans (b := [Blk.cells 0 (d.cells ++ e.cells), .dict (esE (E1 ++ [((c1, c2), (p, a))])), .cells (E1.length + 1) (((cpN (((0, 0) : N2) :: E1.map (·.1))).drop 0).take ((E1.length + 1) * 2) ++ av2 (c1, c2)), .cells 0 (av2 p), .cells 0 (av2 (c1, c2)), .cells 0 (av3 ((0, 0), 0)), .cells 0 (av2 (c1, c2))]) (by kernel_rfl) ?_
              rw [hmap, hE2, cpN_snoc, List.drop_zero, List.take_of_length_le (by omega)]; rfl
            · simp [blksBel, Blk.bel, Den.cells, bels, aSs_bel, aBs_bel, aRs_bel, cpN_bel, av2_bel]
    · have haq : a = 2 ^ d.tracks.length := by
        have h1 : ¬ ((a : Nat) : Int) < ((2 ^ d.tracks.length : Nat) : Int) := g
        have h2 := fun h => h1 (Int.ofNat_lt.2 h)
        omega
      subst haq
      repeat first | refine opsStep ?_ | refine codeStep ?_ | refine drawStep ?_
      refine ⟨⟨(E1, W1, i + 1), hF1.next, by simp only; omega⟩, (by show N + 2 - (i + 1) < N + 2 - i; omega), Ent.frD (X := [.cells 0 (av2 p)]) ⟨(by kernel_rfl), (by kernel_rfl), (by kernel_rfl), (by kernel_rfl), inc_slot (i := i) (by omega), trivial⟩ (by kernel_rfl) (Nat.le_of_ble_eq_true (by kernel_rfl)) (by first | (simp [frBel, blksBel, Blk.bel, AV.bel, bels, bels_append, bels_map, aSs_bel, aIs_bel, aBs_bel, aRs_bel, aDen_bel, cells_bel]; done) | (simp only [List.drop_zero, ← List.map_take, ← List.map_drop, List.map_map, frBel, blksBel, Blk.bel, AV.bel, bels, bels_append, bels_map, aSs_bel, aIs_bel, aBs_bel, aRs_bel, aDen_bel, cells_bel]; simp [AV.bel, aSs_bel, aIs_bel, aBs_bel, aRs_bel, aDen_bel, cells_bel])) ?_⟩
      simp [blksBel, Blk.bel, Den.cells, bels, aSs_bel, aBs_bel, aRs_bel, cpN_bel, av2_bel]
  · have hil : i = E.length + 1 := by
      have h1 : ¬ ((i : Nat) : Int) < ((E.length + 1 : Nat) : Int) := h
      have h2 := fun h => h1 (Int.ofNat_lt.2 h)
      omega
    subst hil
    repeat first | refine opsStep ?_ | refine codeStep ?_ | refine drawStep ?_
    exact finR (l := [(4, .sl .nil 0 []), (5, .bool false)]) (H₁ := [.cells 0 (d.cells ++ e.cells), .dict (esE (E)), .cells (E).length (cpN ((0, 0) :: (E).map (·.1)))]) (v := .tup [.sl .nil 0 [], .bool false]) ⟨(by kernel_rfl), (by kernel_rfl), trivial⟩ (by kernel_rfl) (Ent.refl _ _ _) (by kernel_rfl) (.inl ⟨hF.none, rfl⟩)

end Tab

/- The union of two machines' names, and a machine widened to it. -/
namespace Tab
open Go Go.Proofs
set_option maxRecDepth 10000
set_option linter.unusedVariables false
set_option linter.unusedSimpArgs false
set_option linter.unusedSectionVars false

def unN (d e : Den) : List (List UInt8) := togS (d.tracks ++ e.tracks)
theorem unN_rises {d e : Den} (h1 : rightS d = true) (h2 : rightS e = true) : risesS (unN d e) = true := by
  obtain ⟨_, a2, _, _⟩ := tracksS_parts (rightS_parts h1).1
  obtain ⟨_, b2, _, _⟩ := tracksS_parts (rightS_parts h2).1
  refine strict_rises (tog_strict _) fun s hs => ?_
  rcases List.mem_append.1 ((tog_mem _ _).1 hs) with h | h
  · exact rises_names a2 s h
  · exact rises_names b2 s h
theorem unN_in {d e : Den} : inAll d.tracks (unN d e) = true ∧ inAll e.tracks (unN d e) = true :=
  ⟨inAll_iff.2 fun s hs => (tog_mem _ _).2 (List.mem_append_left _ hs), inAll_iff.2 fun s hs => (tog_mem _ _).2 (List.mem_append_right _ hs)⟩
theorem unN_len {d e : Den} (h1 : rightS d = true) (h2 : rightS e = true) : (unN d e).length ≤ 12 := by
  obtain ⟨a1, _, _, _⟩ := tracksS_parts (rightS_parts h1).1
  obtain ⟨b1, _, _, _⟩ := tracksS_parts (rightS_parts h2).1
  have := tog_len (d.tracks ++ e.tracks)
  rw [List.length_append] at this
  rw [unN]; omega
theorem unN_sizes {d e : Den} (hd : DenOk d) (he : DenOk e) : ∀ s ∈ unN d e, s.length ≤ 140737488351232 := fun s hs => by
  rcases List.mem_append.1 ((tog_mem _ _).1 hs) with h | h
  · exact hd.names s h
  · exact he.names s h
theorem widenD_right {d : Den} {names : List (List UInt8)} (h : rightS d = true) (h1 : names.length ≤ 6) (h2 : risesS names = true) : rightS (widenD d names) = true := by
  rw [widenD_ov]; exact ovD_right h h1 h2 (by simp [placesOf])
theorem widenD_den {d : Den} {names : List (List UInt8)} (hd : DenOk d) (hn : names.length * 16 ≤ 140737488351232) (hns : ∀ s ∈ names, s.length ≤ 140737488351232) (w0 : widenE d names = 0) : DenOk (widenD d names) := by
  have := widenR_ok_den (d := d) (names := names) hd hn hns
  rwa [widenR_ok w0] at this


end Tab

/- compare.opened, Within, Same, Apart. -/
namespace Tab
open Go Go.Proofs
set_option maxRecDepth 10000
set_option linter.unusedVariables false
set_option linter.unusedSimpArgs false
set_option linter.unusedSectionVars false

@[irreducible] def opE (a b : Aut) : Int := if (checkS a && checkS b) = true then (if (unN (unpD a) (unpD b)).length ≤ 6 then 0 else 150) else 3
@[irreducible] def opA (a b : Aut) : Den := if opE a b = 0 then widenD (unpD a) (unN (unpD a) (unpD b)) else den0
@[irreducible] def opB (a b : Aut) : Den := if opE a b = 0 then widenD (unpD b) (unN (unpD a) (unpD b)) else den0
theorem opE_bad {a b : Aut} (h : (checkS a && checkS b) = false) : opE a b = 3 := by rw [opE, h]; rfl
theorem opE_wide {a b : Aut} (h : (checkS a && checkS b) = true) (h2 : ¬ (unN (unpD a) (unpD b)).length ≤ 6) : opE a b = 150 := by rw [opE, if_pos h, if_neg h2]
theorem opE_ok {a b : Aut} (h : (checkS a && checkS b) = true) (h2 : (unN (unpD a) (unpD b)).length ≤ 6) : opE a b = 0 := by rw [opE, if_pos h, if_pos h2]
theorem opE_zero {a b : Aut} (h : opE a b = 0) : checkS a = true ∧ checkS b = true ∧ (unN (unpD a) (unpD b)).length ≤ 6 := by
  cases h1 : checkS a && checkS b with
  | false => rw [opE_bad h1] at h; simp at h
  | true =>
    obtain ⟨g1, g2⟩ := Bool.and_eq_true_iff.1 h1
    by_cases h2 : (unN (unpD a) (unpD b)).length ≤ 6
    · exact ⟨g1, g2, h2⟩
    · rw [opE_wide h1 h2] at h; simp at h
theorem opA_bad {a b : Aut} (h : opE a b ≠ 0) : opA a b = den0 ∧ opB a b = den0 := by rw [opA, opB, if_neg h, if_neg h]; exact ⟨rfl, rfl⟩
theorem opA_ok {a b : Aut} (h : opE a b = 0) : opA a b = widenD (unpD a) (unN (unpD a) (unpD b)) ∧ opB a b = widenD (unpD b) (unN (unpD a) (unpD b)) := by rw [opA, opB, if_pos h, if_pos h]; exact ⟨rfl, rfl⟩
theorem unpD_den {a : Aut} (ha : AutOk a) : DenOk (unpD a) := by
  rw [unpD]
  split
  · rename_i h
    obtain ⟨hr, _, _⟩ := unpD_right h
    rw [unpD_ok h] at hr
    obtain ⟨k6, _, _, k256⟩ := tracksS_parts (rightS_parts hr).1
    have hp : 2 ^ a.tracks.length ≤ 2 ^ 6 := Nat.pow_le_pow_right (by omega) k6
    refine ⟨ha.tracks, ha.names, ha.accept, ?_, fun r hr => ?_⟩
    · simp only [List.length_map, List.length_range]
      have : (a.accept.length : Int) ≤ 256 := k256
      omega
    · simp only [Den.rows, List.map_map, List.mem_map, List.mem_range] at hr
      obtain ⟨q, _, rfl⟩ := hr
      simp only [Function.comp_apply, rowC_length]
      omega
  · exact den0_ok
/-- What is known where both tables are right and the tracks few enough. -/
theorem op_made {a b : Aut} (h : opE a b = 0) : rightS (unpD a) = true ∧ rightS (unpD b) = true ∧ widenE (unpD a) (unN (unpD a) (unpD b)) = 0 ∧ widenE (unpD b) (unN (unpD a) (unpD b)) = 0 ∧ rightS (opA a b) = true ∧ rightS (opB a b) = true ∧ (opA a b).tracks = unN (unpD a) (unpD b) ∧ (opB a b).tracks = unN (unpD a) (unpD b) := by
  obtain ⟨h1, h2, h6⟩ := opE_zero h
  obtain ⟨r1, _, _⟩ := unpD_right h1
  obtain ⟨r2, _, _⟩ := unpD_right h2
  obtain ⟨e1, e2⟩ := opA_ok h
  obtain ⟨i1, i2⟩ := unN_in (d := unpD a) (e := unpD b)
  have hu := unN_rises r1 r2
  rw [e1, e2]
  exact ⟨r1, r2, widenE_ok r1 hu h6 i1, widenE_ok r2 hu h6 i2, widenD_right r1 h6 hu, widenD_right r2 h6 hu, rfl, rfl⟩

@[simp] theorem two_closed (d e : Den) : closeds (d.cells ++ e.cells) := by simp [closeds, Den.cells, aSs_closed, aBs_closed, aRs_closed]
theorem cmp_opened (a b : Aut) (ha : AutOk a) (hb : AutOk b) : Pure Tryz.prog 14 [aAut a, aAut b] (.tup [.agg ((opA a b).cells ++ (opB a b).cells), .int .i64 (opE a b)]) := by
  have hua := table_Unpack a ha
  have hub := table_Unpack b hb
  have oka := unpD_den ha
  have okb := unpD_den hb
  cases h1 : checkS a with
  | false =>
    have he := opE_bad (a := a) (b := b) (by rw [h1]; rfl)
    obtain ⟨e1, e2⟩ := opA_bad (a := a) (b := b) (by rw [he]; decide)
    rw [he, e1, e2]
    rw [unpE_bad h1, unpD_bad h1] at hua
    refine Pure.of_sw 62 Tryz.func14 rfl Tryz.ntmps14 (by kernel_rfl) (Nat.le_of_ble_eq_true (by kernel_rfl)) (by simp [closeds, AV.closed, aSs_closed, aIs_closed, aBs_closed, aRs_closed, aDen_closed, aCs_closed, aAut_closed]) (by simp [AV.closed, closeds, aSs_closed, aIs_closed, aBs_closed, aRs_closed, aDen_closed, aCs_closed, aAut_closed]) ?_; refine SW.of_vc ?_
    repeat first | refine opsStep ?_ | refine codeStep ?_ | refine drawStep ?_
    refine callP hua ?_
    repeat first | refine opsStep ?_ | refine codeStep ?_ | refine drawStep ?_
    exact finV (v' := .tup [.agg (den0.cells ++ den0.cells), .int .i64 3]) (by kernel_rfl) rfl
  | true =>
  cases h2 : checkS b with
  | false =>
    have he := opE_bad (a := a) (b := b) (by rw [h1, h2]; rfl)
    obtain ⟨e1, e2⟩ := opA_bad (a := a) (b := b) (by rw [he]; decide)
    rw [he, e1, e2]
    rw [unpE_zero.2 h1] at hua
    rw [unpE_bad h2, unpD_bad h2] at hub
    generalize unpD a = d at *
    refine Pure.of_sw 62 Tryz.func14 rfl Tryz.ntmps14 (by kernel_rfl) (Nat.le_of_ble_eq_true (by kernel_rfl)) (by simp [closeds, AV.closed, aSs_closed, aIs_closed, aBs_closed, aRs_closed, aDen_closed, aCs_closed, aAut_closed]) (by simp [AV.closed, closeds, aSs_closed, aIs_closed, aBs_closed, aRs_closed, aDen_closed, aCs_closed, aAut_closed]) ?_; refine SW.of_vc ?_
    repeat first | refine opsStep ?_ | refine codeStep ?_ | refine drawStep ?_
    refine callP hua ?_
    repeat first | refine opsStep ?_ | refine codeStep ?_ | refine drawStep ?_
    refine callP hub ?_
    repeat first | refine opsStep ?_ | refine codeStep ?_ | refine drawStep ?_
    exact finV (v' := .tup [.agg (den0.cells ++ den0.cells), .int .i64 3]) (by kernel_rfl) rfl
  | true =>
  rw [unpE_zero.2 h1] at hua
  rw [unpE_zero.2 h2] at hub
  obtain ⟨r1, _, _⟩ := unpD_right h1
  obtain ⟨r2, _, _⟩ := unpD_right h2
  have hwide := opE_wide (a := a) (b := b) (by rw [h1, h2]; rfl)
  have hgood := opE_ok (a := a) (b := b) (by rw [h1, h2]; rfl)
  have hbad := opA_bad (a := a) (b := b)
  have hok := opA_ok (a := a) (b := b)
  obtain ⟨i1, i2⟩ := unN_in (d := unpD a) (e := unpD b)
  have hu := unN_rises r1 r2
  have hul := unN_len r1 r2
  have hus := unN_sizes oka okb
  obtain ⟨jd1, jd2, jd3, jd4⟩ := tracksS_parts (rightS_parts r1).1
  obtain ⟨je1, je2, je3, je4⟩ := tracksS_parts (rightS_parts r2).1
  have hd1 := oka.tracks
  have he1 := okb.tracks
  have hun := glyph_Union (unpD a).tk (unpD b).tk (unpD a).tracks (unpD b).tracks (by omega) (fun s hs => by have := oka.names s hs; omega) (fun s hs => by have := okb.names s hs; omega) jd2 je2
  rw [← unN] at hun
  have hwa := track_Widen_pure .any (unpD a) (unN (unpD a) (unpD b)) oka (by omega) hus
  have hwb := track_Widen_pure .any (unpD b) (unN (unpD a) (unpD b)) okb (by omega) hus
  by_cases h6 : (unN (unpD a) (unpD b)).length ≤ 6
  · have he := hgood h6
    obtain ⟨e1, e2⟩ := hok he
    have w0 := widenE_ok r1 hu h6 i1
    have v0 := widenE_ok r2 hu h6 i2
    rw [widenR_ok w0, w0] at hwa
    rw [widenR_ok v0, v0] at hwb
    rw [he, e1, e2]
    generalize widenD (unpD a) (unN (unpD a) (unpD b)) = wa at *
    generalize widenD (unpD b) (unN (unpD a) (unpD b)) = wb at *
    generalize unN (unpD a) (unpD b) = names at *
    generalize unpD a = d at *
    generalize unpD b = e at *
    refine Pure.of_sw 62 Tryz.func14 rfl Tryz.ntmps14 (by kernel_rfl) (Nat.le_of_ble_eq_true (by kernel_rfl)) (by simp [closeds, AV.closed, aSs_closed, aIs_closed, aBs_closed, aRs_closed, aDen_closed, aCs_closed, aAut_closed]) (by simp [AV.closed, closeds, aSs_closed, aIs_closed, aBs_closed, aRs_closed, aDen_closed, aCs_closed, aAut_closed]) ?_; refine SW.of_vc ?_
    repeat first | refine opsStep ?_ | refine codeStep ?_ | refine drawStep ?_
    refine callP hua ?_
    repeat first | refine opsStep ?_ | refine codeStep ?_ | refine drawStep ?_
    refine callP hub ?_
    repeat first | refine opsStep ?_ | refine codeStep ?_ | refine drawStep ?_
    refine callP hun ?_
    iterate 6 refine opsStep ?_
    refine VCode.ent (Ent.fr' (l := [(2, .ref 0 0 0), (3, .ref 1 0 0), (4, .ref 2 0 0), (6, .ref 3 0 0), (7, .int .i64 0), (8, .ref 4 0 0), (9, aSs .any names)]) (H' := [.cells 0 a.cells, .cells 0 b.cells, .cells 0 (den0.cells ++ den0.cells), .cells 0 d.cells, .cells 0 e.cells]) ⟨(by kernel_rfl), (by kernel_rfl), (by kernel_rfl), (by kernel_rfl), (by kernel_rfl), (by kernel_rfl), (by kernel_rfl), trivial⟩ (by kernel_rfl)) ?_
    repeat first | refine opsStep ?_ | refine codeStep ?_ | refine drawStep ?_
    refine callP hwa ?_
    repeat first | refine opsStep ?_ | refine codeStep ?_ | refine drawStep ?_
    refine callP hwb ?_
    repeat first | refine opsStep ?_ | refine codeStep ?_ | refine drawStep ?_
    exact finV (v' := .tup [.agg (wa.cells ++ wb.cells), .int .i64 0]) (by kernel_rfl) rfl
  · have he := hwide h6
    obtain ⟨e1, e2⟩ := hbad (by rw [he]; decide)
    have w0 := widenE_wide r1 hu h6
    rw [widenR_bad (by rw [w0]; decide), w0] at hwa
    rw [he, e1, e2]
    generalize unN (unpD a) (unpD b) = names at *
    generalize unpD a = d at *
    generalize unpD b = e at *
    refine Pure.of_sw 62 Tryz.func14 rfl Tryz.ntmps14 (by kernel_rfl) (Nat.le_of_ble_eq_true (by kernel_rfl)) (by simp [closeds, AV.closed, aSs_closed, aIs_closed, aBs_closed, aRs_closed, aDen_closed, aCs_closed, aAut_closed]) (by simp [AV.closed, closeds, aSs_closed, aIs_closed, aBs_closed, aRs_closed, aDen_closed, aCs_closed, aAut_closed]) ?_; refine SW.of_vc ?_
    repeat first | refine opsStep ?_ | refine codeStep ?_ | refine drawStep ?_
    refine callP hua ?_
    repeat first | refine opsStep ?_ | refine codeStep ?_ | refine drawStep ?_
    refine callP hub ?_
    repeat first | refine opsStep ?_ | refine codeStep ?_ | refine drawStep ?_
    refine callP hun ?_
    iterate 6 refine opsStep ?_
    refine VCode.ent (Ent.fr' (l := [(2, .ref 0 0 0), (3, .ref 1 0 0), (4, .ref 2 0 0), (6, .ref 3 0 0), (7, .int .i64 0), (8, .ref 4 0 0), (9, aSs .any names)]) (H' := [.cells 0 a.cells, .cells 0 b.cells, .cells 0 (den0.cells ++ den0.cells), .cells 0 d.cells, .cells 0 e.cells]) ⟨(by kernel_rfl), (by kernel_rfl), (by kernel_rfl), (by kernel_rfl), (by kernel_rfl), (by kernel_rfl), (by kernel_rfl), trivial⟩ (by kernel_rfl)) ?_
    repeat first | refine opsStep ?_ | refine codeStep ?_ | refine drawStep ?_
    refine callP hwa ?_
    repeat first | refine opsStep ?_ | refine codeStep ?_ | refine drawStep ?_
    exact finV (v' := .tup [.agg (den0.cells ++ den0.cells), .int .i64 150]) (by kernel_rfl) rfl

end Tab

/- tabardref12.Copy; tabardlaw21.wide. -/
namespace Tab
open Go Go.Proofs
set_option maxRecDepth 10000
set_option linter.unusedVariables false
set_option linter.unusedSimpArgs false
set_option linter.unusedSectionVars false

def copyA (a : Aut) : Aut := ⟨.any, a.tracks, .any, a.accept, .any, a.starts, .any, a.arena⟩
theorem copyA_ok {a : Aut} (h : AutOk a) : AutOk (copyA a) := ⟨h.1, h.2, h.3, h.4, h.5, h.6⟩
theorem copyA_check (a : Aut) : checkS (copyA a) = checkS a := rfl
theorem copyA_unp (a : Aut) : unpD (copyA a) = unpD a ∧ unpE (copyA a) = unpE a := by
  constructor
  · rw [unpD, unpD]; rfl
  · rw [unpE, unpE]; rfl
set_option maxHeartbeats 1000000 in
theorem r12_Copy (a : Aut) (ha : AutOk a) : Pure Tryz.prog 6 [aAut a] (aAut (copyA a)) := by
  have d1 := ha.tracks
  have d2 := ha.accept
  have d3 := ha.starts
  have d4 := ha.arena
  have hcc := cc3_length a.arena
  refine Pure.of_read (by simp [closeds, aAut_closed]) (aAut_closed _) (R := fun o H' => o = .ret (.agg [.hs 2 1 0 a.tracks.length 1, .hs 3 1 0 a.accept.length 1, .hs 4 1 0 a.starts.length 1, .hs 5 1 0 a.arena.length 3]) ∧ ∃ b0 b1, H' = [b0, b1, .cells 1 (a.tracks.map .str), .cells 1 (a.accept.map .bool), .cells 1 (a.starts.map (.int .i64)), .cells 1 (cc3 a.arena)]) ?_ ?_
  rotate_left
  · rintro o H' ⟨rfl, b0, b1, rfl⟩
    exact ⟨_, rfl, .agg (.cons (Rd.whole rfl (by simp [copyA])) (.cons (Rd.whole rfl (by simp [copyA])) (.cons (Rd.whole rfl (by simp [copyA])) (.cons (Rd.whole rfl hcc.symm) .nil))))⟩
  refine ACall.of_sw 20 Tryz.func6 rfl Tryz.ntmps6 (by kernel_rfl) (Nat.le_of_ble_eq_true (by kernel_rfl)) ?_; refine SW.of_vc ?_
  repeat first | refine opsStep ?_ | refine codeStep ?_ | refine drawStep ?_
  refine SW.drawn rfl (by kernel_rfl) ?_
  repeat first | refine opsStep ?_ | refine codeStep ?_ | refine drawStep ?_
  refine guardE_of (by simp [Value.cells]) ?_
  refine guardE_of ⟨by omega, by show (0 + a.tracks.length) * 16 ≤ 140737488355328; omega⟩ ?_
  repeat first | refine opsStep ?_ | refine codeStep ?_ | refine drawStep ?_
  refine guardE_of (by simp [Value.cells]) ?_
  refine guardE_of ⟨by omega, by show (0 + a.accept.length) * 1 ≤ 140737488355328; omega⟩ ?_
  repeat first | refine opsStep ?_ | refine codeStep ?_ | refine drawStep ?_
  refine guardE_of (by simp [Value.cells]) ?_
  refine guardE_of ⟨by omega, by show (0 + a.starts.length) * 8 ≤ 140737488355328; omega⟩ ?_
  repeat first | refine opsStep ?_ | refine codeStep ?_ | refine drawStep ?_
  refine guardE_of (by show (cc3 a.arena).length = a.arena.length * 3; exact hcc) ?_
  refine guardE_of ⟨by omega, by show (0 + a.arena.length) * 24 ≤ 140737488355328; omega⟩ ?_
  repeat first | refine opsStep ?_ | refine codeStep ?_ | refine drawStep ?_
  refine ⟨by kernel_rfl, ?_⟩
  repeat first | refine opsStep ?_ | refine codeStep ?_ | refine drawStep ?_
  exact finR (l := [(2, .ref 1 0 0)]) (H₁ := [.cells 0 a.cells, .cells 0 [.hs 2 1 0 a.tracks.length 1, .hs 3 1 0 a.accept.length 1, .hs 4 1 0 a.starts.length 1, .hs 5 1 0 a.arena.length 3], .cells 1 (a.tracks.map .str), .cells 1 (a.accept.map .bool), .cells 1 (a.starts.map (.int .i64)), .cells 1 (cc3 a.arena)]) (v := .agg [.hs 2 1 0 a.tracks.length 1, .hs 3 1 0 a.accept.length 1, .hs 4 1 0 a.starts.length 1, .hs 5 1 0 a.arena.length 3]) ⟨(by kernel_rfl), trivial⟩ (Eq.trans (b := [.cells 0 a.cells, .cells 0 [.hs 2 1 0 (0 + a.tracks.length) 1, .hs 3 1 0 (0 + a.accept.length) 1, .hs 4 1 0 (0 + a.starts.length) 1, .hs 5 1 0 (0 + a.arena.length) 3], .cells 1 (a.tracks.map .str), .cells 1 (a.accept.map .bool), .cells 1 (a.starts.map (.int .i64)), .cells 1 (cc3 a.arena)]) (by kernel_rfl) (by simp only [Nat.zero_add])) (Ent.refl _ _ _) (by kernel_rfl) ⟨rfl, _, _, rfl⟩

end Tab

/- compare.Within, Same, Apart, as values. -/
namespace Tab
open Go Go.Proofs
set_option maxRecDepth 10000
set_option linter.unusedVariables false
set_option linter.unusedSimpArgs false
set_option linter.unusedSectionVars false

def qW (a b : Bool) : Bool := a && !b
def qS (a b : Bool) : Bool := a != b
theorem cmp_W1 (a b : Bool) : Pure Tryz.prog 23 [.bool a, .bool b] (.bool (qW a b)) := by
  cases a with
  | false =>
    refine Pure.of_sw 10 Tryz.func23 rfl Tryz.ntmps23 (by kernel_rfl) (Nat.le_of_ble_eq_true (by kernel_rfl)) (by simp [closeds, AV.closed, aSs_closed, aIs_closed, aBs_closed, aRs_closed, aDen_closed]) (by simp [AV.closed, closeds, aSs_closed, aIs_closed, aBs_closed, aRs_closed, aDen_closed]) ?_; refine SW.of_vc ?_
    repeat first | refine opsStep ?_ | refine codeStep ?_ | refine drawStep ?_
    exact finB (b' := false) (by kernel_rfl) rfl
  | true =>
    refine Pure.of_sw 10 Tryz.func23 rfl Tryz.ntmps23 (by kernel_rfl) (Nat.le_of_ble_eq_true (by kernel_rfl)) (by simp [closeds, AV.closed, aSs_closed, aIs_closed, aBs_closed, aRs_closed, aDen_closed]) (by simp [AV.closed, closeds, aSs_closed, aIs_closed, aBs_closed, aRs_closed, aDen_closed]) ?_; refine SW.of_vc ?_
    repeat first | refine opsStep ?_ | refine codeStep ?_ | refine drawStep ?_
    exact finB (b' := !b) (by kernel_rfl) rfl
theorem cmp_S1 (a b : Bool) : Pure Tryz.prog 24 [.bool a, .bool b] (.bool (qS a b)) := by
  refine Pure.of_sw 8 Tryz.func24 rfl Tryz.ntmps24 (by kernel_rfl) (Nat.le_of_ble_eq_true (by kernel_rfl)) (by simp [closeds, AV.closed, aSs_closed, aIs_closed, aBs_closed, aRs_closed, aDen_closed]) (by simp [AV.closed, closeds, aSs_closed, aIs_closed, aBs_closed, aRs_closed, aDen_closed]) ?_; refine SW.of_vc ?_
  repeat first | refine opsStep ?_ | refine codeStep ?_ | refine drawStep ?_
  exact finB (b' := a != b) (by kernel_rfl) rfl
theorem cmp_A1 (a b : Bool) : Pure Tryz.prog 16 [.bool a, .bool b] (.bool (qS a b)) := by
  refine Pure.of_sw 8 Tryz.func16 rfl Tryz.ntmps16 (by kernel_rfl) (Nat.le_of_ble_eq_true (by kernel_rfl)) (by simp [closeds, AV.closed, aSs_closed, aIs_closed, aBs_closed, aRs_closed, aDen_closed]) (by simp [AV.closed, closeds, aSs_closed, aIs_closed, aBs_closed, aRs_closed, aDen_closed]) ?_; refine SW.of_vc ?_
  repeat first | refine opsStep ?_ | refine codeStep ?_ | refine drawStep ?_
  exact finB (b' := a != b) (by kernel_rfl) rfl

noncomputable def tellO (q : Bool → Bool → Bool) (a b : Aut) : Option (List Nat) := if opE a b = 0 then cmpO (opA a b) (opB a b) q else none
noncomputable def noneB (q : Bool → Bool → Bool) (a b : Aut) : Bool := decide (opE a b = 0) && (tellO q a b).isNone
theorem tellO_ok {q a b} (h : opE a b = 0) : tellO q a b = cmpO (opA a b) (opB a b) q := by rw [tellO, if_pos h]
theorem noneB_bad {q a b} (h : opE a b ≠ 0) : noneB q a b = false := by rw [noneB, decide_eq_false h]; rfl
theorem noneB_ok {q a b} (h : opE a b = 0) : noneB q a b = (cmpO (opA a b) (opB a b) q).isNone := by rw [noneB, decide_eq_true h, tellO_ok h]; rfl

theorem cmp_Within (a b : Aut) (ha : AutOk a) (hb : AutOk b) : Pure Tryz.prog 11 [aAut a, aAut b] (.tup [.bool (noneB qW a b), .int .i64 (opE a b)]) := by
  have ho := cmp_opened a b ha hb
  have hm := fun h => op_made (a := a) (b := b) h
  have hbd := fun h => noneB_bad (q := qW) (a := a) (b := b) h
  have hgd := fun h => noneB_ok (q := qW) (a := a) (b := b) h
  have hfs := fun h1 h2 h3 => cmp_first qW _ cmp_W1 (opA a b) (opB a b) h1 h2 h3
  generalize opA a b = x at *
  generalize opB a b = y at *
  generalize opE a b = z at *
  generalize noneB qW a b = v at *
  refine Pure.of_sw 26 Tryz.func11 rfl Tryz.ntmps11 (by kernel_rfl) (Nat.le_of_ble_eq_true (by kernel_rfl)) (by simp [closeds, AV.closed, aSs_closed, aIs_closed, aBs_closed, aRs_closed, aDen_closed, aCs_closed, aAut_closed]) (by simp [AV.closed, closeds, aSs_closed, aIs_closed, aBs_closed, aRs_closed, aDen_closed, aCs_closed, aAut_closed]) ?_; refine SW.of_vc ?_
  repeat first | refine opsStep ?_ | refine codeStep ?_ | refine drawStep ?_
  refine callP ho ?_
  repeat first | refine opsStep ?_ | refine codeStep ?_ | refine drawStep ?_
  refine decB_dec (fun hz => ?_) (fun hz => ?_)
  · have hz : ¬ z = 0 := hz
    repeat first | refine opsStep ?_ | refine codeStep ?_ | refine drawStep ?_
    exact finV (v' := .tup [.bool false, .int .i64 z]) (by kernel_rfl) (by rw [hbd hz])
  have hz : z = 0 := Decidable.of_not_not hz
  obtain ⟨_, _, _, _, r1, r2, t1, t2⟩ := hm hz
  have hfs := hfs r1 r2 (by rw [t1, t2])
  have hgd := hgd hz
  cases ho' : cmpO x y qW with
  | none =>
    rw [ho'] at hfs hgd
    repeat first | refine opsStep ?_ | refine codeStep ?_ | refine drawStep ?_
    refine callP hfs ?_
    repeat first | refine opsStep ?_ | refine codeStep ?_ | refine drawStep ?_
    exact finV (v' := .tup [.bool true, .int .i64 0]) (by kernel_rfl) (by rw [hgd, hz]; rfl)
  | some w =>
    rw [ho'] at hfs hgd
    repeat first | refine opsStep ?_ | refine codeStep ?_ | refine drawStep ?_
    refine callP hfs ?_
    repeat first | refine opsStep ?_ | refine codeStep ?_ | refine drawStep ?_
    exact finV (v' := .tup [.bool false, .int .i64 0]) (by kernel_rfl) (by rw [hgd, hz]; rfl)
theorem cmp_Same (a b : Aut) (ha : AutOk a) (hb : AutOk b) : Pure Tryz.prog 12 [aAut a, aAut b] (.tup [.bool (noneB qS a b), .int .i64 (opE a b)]) := by
  have ho := cmp_opened a b ha hb
  have hm := fun h => op_made (a := a) (b := b) h
  have hbd := fun h => noneB_bad (q := qS) (a := a) (b := b) h
  have hgd := fun h => noneB_ok (q := qS) (a := a) (b := b) h
  have hfs := fun h1 h2 h3 => cmp_first qS _ cmp_S1 (opA a b) (opB a b) h1 h2 h3
  generalize opA a b = x at *
  generalize opB a b = y at *
  generalize opE a b = z at *
  generalize noneB qS a b = v at *
  refine Pure.of_sw 26 Tryz.func12 rfl Tryz.ntmps12 (by kernel_rfl) (Nat.le_of_ble_eq_true (by kernel_rfl)) (by simp [closeds, AV.closed, aSs_closed, aIs_closed, aBs_closed, aRs_closed, aDen_closed, aCs_closed, aAut_closed]) (by simp [AV.closed, closeds, aSs_closed, aIs_closed, aBs_closed, aRs_closed, aDen_closed, aCs_closed, aAut_closed]) ?_; refine SW.of_vc ?_
  repeat first | refine opsStep ?_ | refine codeStep ?_ | refine drawStep ?_
  refine callP ho ?_
  repeat first | refine opsStep ?_ | refine codeStep ?_ | refine drawStep ?_
  refine decB_dec (fun hz => ?_) (fun hz => ?_)
  · have hz : ¬ z = 0 := hz
    repeat first | refine opsStep ?_ | refine codeStep ?_ | refine drawStep ?_
    exact finV (v' := .tup [.bool false, .int .i64 z]) (by kernel_rfl) (by rw [hbd hz])
  have hz : z = 0 := Decidable.of_not_not hz
  obtain ⟨_, _, _, _, r1, r2, t1, t2⟩ := hm hz
  have hfs := hfs r1 r2 (by rw [t1, t2])
  have hgd := hgd hz
  cases ho' : cmpO x y qS with
  | none =>
    rw [ho'] at hfs hgd
    repeat first | refine opsStep ?_ | refine codeStep ?_ | refine drawStep ?_
    refine callP hfs ?_
    repeat first | refine opsStep ?_ | refine codeStep ?_ | refine drawStep ?_
    exact finV (v' := .tup [.bool true, .int .i64 0]) (by kernel_rfl) (by rw [hgd, hz]; rfl)
  | some w =>
    rw [ho'] at hfs hgd
    repeat first | refine opsStep ?_ | refine codeStep ?_ | refine drawStep ?_
    refine callP hfs ?_
    repeat first | refine opsStep ?_ | refine codeStep ?_ | refine drawStep ?_
    exact finV (v' := .tup [.bool false, .int .i64 0]) (by kernel_rfl) (by rw [hgd, hz]; rfl)

noncomputable def apV (a b : Aut) : AV := if opE a b = 0 then (match tellO qS a b with | none => .tup [.sl .nil 0 [], .sl .nil 0 [], .int .i64 4] | some w => .tup [aSs .any (unN (unpD a) (unpD b)), .sl .any w.length (iW w), .int .i64 0]) else .tup [.sl .nil 0 [], .sl .nil 0 [], .int .i64 (opE a b)]
theorem cmp_Apart (a b : Aut) (ha : AutOk a) (hb : AutOk b) : Pure Tryz.prog 5 [aAut a, aAut b] (apV a b) := by
  have ho := cmp_opened a b ha hb
  have hm := fun h => op_made (a := a) (b := b) h
  have hxt := fun h => (opA_ok (a := a) (b := b) h).1
  have hbd : ∀ h : opE a b ≠ 0, apV a b = .tup [.sl .nil 0 [], .sl .nil 0 [], .int .i64 (opE a b)] := fun h => by rw [apV, if_neg h]
  have hnn : ∀ h : opE a b = 0, cmpO (opA a b) (opB a b) qS = none → apV a b = .tup [.sl .nil 0 [], .sl .nil 0 [], .int .i64 4] := fun h h2 => by rw [apV, if_pos h, tellO_ok h, h2]
  have hss : ∀ (h : opE a b = 0) w, cmpO (opA a b) (opB a b) qS = some w → apV a b = .tup [aSs .any (unN (unpD a) (unpD b)), .sl .any w.length (iW w), .int .i64 0] := fun h w h2 => by rw [apV, if_pos h, tellO_ok h, h2]
  have hcl : (apV a b).closed := by
    rw [apV]
    split
    · split <;> simp [AV.closed, closeds, aSs_closed, iW_closed]
    · simp [AV.closed, closeds]
  have hfs := fun h1 h2 h3 => cmp_first qS _ cmp_A1 (opA a b) (opB a b) h1 h2 h3
  have htk : ∀ h : opE a b = 0, (opA a b).tk = .any := fun h => by rw [hxt h]; rfl
  generalize apV a b = v at *
  generalize opA a b = x at *
  generalize opB a b = y at *
  generalize opE a b = z at *
  refine Pure.of_sw 31 Tryz.func5 rfl Tryz.ntmps5 (by kernel_rfl) (Nat.le_of_ble_eq_true (by kernel_rfl)) (by simp [closeds, aAut_closed]) hcl ?_; refine SW.of_vc ?_
  repeat first | refine opsStep ?_ | refine codeStep ?_ | refine drawStep ?_
  refine callP ho ?_
  repeat first | refine opsStep ?_ | refine codeStep ?_ | refine drawStep ?_
  refine decB_dec (fun hz => ?_) (fun hz => ?_)
  · have hz : ¬ z = 0 := hz
    repeat first | refine opsStep ?_ | refine codeStep ?_ | refine drawStep ?_
    exact finV (v' := .tup [.sl .nil 0 [], .sl .nil 0 [], .int .i64 z]) (by kernel_rfl) (by rw [hbd hz])
  have hz : z = 0 := Decidable.of_not_not hz
  obtain ⟨_, _, _, _, r1, r2, t1, t2⟩ := hm hz
  have hfs := hfs r1 r2 (by rw [t1, t2])
  have hnn := hnn hz
  have hss := hss hz
  have htk := htk hz
  cases ho' : cmpO x y qS with
  | none =>
    rw [ho'] at hfs
    repeat first | refine opsStep ?_ | refine codeStep ?_ | refine drawStep ?_
    refine callP hfs ?_
    repeat first | refine opsStep ?_ | refine codeStep ?_ | refine drawStep ?_
    exact finV (v' := .tup [.sl .nil 0 [], .sl .nil 0 [], .int .i64 4]) (by kernel_rfl) (by rw [hnn ho'])
  | some w =>
    rw [ho'] at hfs
    repeat first | refine opsStep ?_ | refine codeStep ?_ | refine drawStep ?_
    refine callP hfs ?_
    repeat first | refine opsStep ?_ | refine codeStep ?_ | refine drawStep ?_
    exact finV (v' := .tup [aSs x.tk x.tracks, .sl .any w.length (iW w), .int .i64 0]) (by kernel_rfl) (by rw [hss w ho', htk, t1])

end Tab

/- What Within and Same say, by words over any greater tracks: plain. -/
namespace Tab
open Go
set_option maxRecDepth 10000
set_option linter.unusedVariables false
set_option linter.unusedSimpArgs false
set_option linter.unusedSectionVars false

/-- What a table takes of words over greater tracks. -/
def extT (a : Aut) (T : List (List UInt8)) (y : List Nat) : Bool := lang (unpD a) (y.map fun x => gatN x (placesOf (unpD a).tracks T))
theorem gat_places {A U T : List (List UInt8)} (h1 : ∀ s ∈ A, s ∈ U) (x : Nat) : gatN (gatN x (placesOf U T)) (placesOf A U) = gatN x (placesOf A T) := by
  rw [gat_comp]
  · congr 1
    refine List.ext_getElem (by simp [placesOf]) fun i q1 q2 => ?_
    have hi : i < A.length := by simpa [placesOf] using q2
    have hm := List.idxOf_lt_length_of_mem (h1 _ (List.getElem_mem hi))
    simp only [placesOf, List.getElem_map, List.getD_eq_getElem?_getD, List.getElem?_map, List.getElem?_eq_getElem hm, Option.map_some, Option.getD_some]
    rw [List.getElem_idxOf hm]
  · intro b hb
    obtain ⟨s, hs, rfl⟩ := List.mem_map.1 hb
    simp only [placesOf, List.length_map]
    exact List.idxOf_lt_length_of_mem (h1 s hs)
theorem op_lang {a b : Aut} (h : opE a b = 0) {v : List Nat} (hv : Lets (unN (unpD a) (unpD b)).length v) : lang (opA a b) v = extT a (unN (unpD a) (unpD b)) v ∧ lang (opB a b) v = extT b (unN (unpD a) (unpD b)) v := by
  obtain ⟨_, _, w0, v0, _⟩ := op_made h
  have h1 := wid_lang w0 hv
  have h2 := wid_lang v0 hv
  rw [widenR_ok w0] at h1
  rw [widenR_ok v0] at h2
  rw [(opA_ok h).1, (opA_ok h).2]
  exact ⟨h1, h2⟩
theorem ask_lang {a b : Aut} (h : opE a b = 0) (q : Bool → Bool → Bool) {v : List Nat} (hv : Lets (unN (unpD a) (unpD b)).length v) : askT (opA a b) (opB a b) q v = q (extT a (unN (unpD a) (unpD b)) v) (extT b (unN (unpD a) (unpD b)) v) := by
  obtain ⟨_, _, _, _, _, _, t1, t2⟩ := op_made h
  obtain ⟨e1, e2⟩ := op_lang h hv
  rw [askT_eq, ← e1, ← e2, lang, lang, langR_let (by rw [t1]; exact hv), langR_let (by rw [t2]; exact hv)]
/-- The first word, or none: over the two tables' own tracks. -/
theorem cmpO_spec (d e : Den) (q : Bool → Bool → Bool) (hd : rightS d = true) (he : rightS e = true) (hk : d.tracks.length = e.tracks.length) : FirstW (2 ^ d.tracks.length) (askT d e q) (cmpO d e q) := by
  classical
  by_cases h : ∃ w, FirstW (2 ^ d.tracks.length) (askT d e q) (some w)
  · obtain ⟨w, hw⟩ := h
    rw [cmpO, firstO_eq hw]; exact hw
  · have hn : FirstW (2 ^ d.tracks.length) (askT d e q) none := by
      intro v h1 h2
      refine Bool.eq_false_iff.2 fun h3 => h ?_
      have key : ∀ (n : Nat) (v : List Nat), v.length = n → v ≠ [] → (∀ x ∈ v, x < 2 ^ d.tracks.length) → askT d e q v = true → ∃ w, FirstW (2 ^ d.tracks.length) (askT d e q) (some w) := by
        intro n
        induction n using Nat.strongRecOn with
        | _ n ih =>
          intro v hn hne hv ht
          by_cases hs : ∃ u, u.length < n ∧ u ≠ [] ∧ (∀ x ∈ u, x < 2 ^ d.tracks.length) ∧ askT d e q u = true
          · obtain ⟨u, u1, u2, u3, u4⟩ := hs
            exact ih u.length u1 u rfl u2 u3 u4
          · have hn0 : n ≠ 0 := by rw [← hn]; exact fun e => hne (List.length_eq_zero_iff.1 e)
            have lem : ∀ (m : Nat) (v : List Nat), v.length = n → (∀ x ∈ v, x < 2 ^ d.tracks.length) → askT d e q v = true → (v.foldl (fun s x => s * 2 ^ d.tracks.length + x) 0) = m → ∃ w, FirstW (2 ^ d.tracks.length) (askT d e q) (some w) := by
              intro m
              induction m using Nat.strongRecOn with
              | _ m ihm =>
                intro v hn hv ht hm
                by_cases hl : ∃ u, u.length = n ∧ (∀ x ∈ u, x < 2 ^ d.tracks.length) ∧ askT d e q u = true ∧ lexL u v = true
                · obtain ⟨u, u1, u2, u3, u4⟩ := hl
                  refine ihm _ ?_ u u1 u2 u3 rfl
                  rw [← hm]
                  have num : ∀ (u v : List Nat) (s t : Nat), u.length = v.length → (∀ x ∈ u, x < 2 ^ d.tracks.length) → (∀ x ∈ v, x < 2 ^ d.tracks.length) → s < t → u.foldl (fun s x => s * 2 ^ d.tracks.length + x) s < v.foldl (fun s x => s * 2 ^ d.tracks.length + x) t := by
                    intro u
                    induction u with
                    | nil => intro v s t hl _ _ hst; cases v with
                      | nil => exact hst
                      | cons _ _ => simp at hl
                    | cons a u ihu =>
                      intro v s t hl hu hv hst
                      cases v with
                      | nil => simp at hl
                      | cons b v =>
                        refine ihu v _ _ (by simpa using hl) (fun x hx => hu x (by simp [hx])) (fun x hx => hv x (by simp [hx])) ?_
                        have ha := hu a (by simp)
                        have : (s + 1) * 2 ^ d.tracks.length ≤ t * 2 ^ d.tracks.length := Nat.mul_le_mul_right _ hst
                        rw [Nat.add_mul, Nat.one_mul] at this
                        show s * 2 ^ d.tracks.length + a < t * 2 ^ d.tracks.length + b
                        omega
                  have num2 : ∀ (u v : List Nat) (s : Nat), u.length = v.length → (∀ x ∈ u, x < 2 ^ d.tracks.length) → (∀ x ∈ v, x < 2 ^ d.tracks.length) → lexL u v = true → u.foldl (fun s x => s * 2 ^ d.tracks.length + x) s < v.foldl (fun s x => s * 2 ^ d.tracks.length + x) s := by
                    intro u
                    induction u with
                    | nil => intro v s _ _ _ h; simp [lexL] at h
                    | cons a u ihu =>
                      intro v s hl hu hv h
                      cases v with
                      | nil => simp [lexL] at h
                      | cons b v =>
                        simp only [lexL, Bool.or_eq_true, Bool.and_eq_true, decide_eq_true_eq] at h
                        rcases h with h | ⟨rfl, h⟩
                        · exact num u v _ _ (by simpa using hl) (fun x hx => hu x (by simp [hx])) (fun x hx => hv x (by simp [hx])) (show s * 2 ^ d.tracks.length + a < s * 2 ^ d.tracks.length + b by omega)
                        · exact ihu v _ (by simpa using hl) (fun x hx => hu x (by simp [hx])) (fun x hx => hv x (by simp [hx])) h
                  exact num2 u v 0 (by omega) u2 hv u4
                · have hne : v ≠ [] := by
                    intro e0
                    subst e0
                    exact hn0 hn.symm
                  refine ⟨v, hne, hv, ht, fun u u1 u2 u3 => ?_⟩
                  refine sle_of_not fun hlt => ?_
                  rcases hlt with hlt | ⟨h1, h2⟩
                  · exact hs ⟨u, by omega, u1, u2, u3⟩
                  · exact hl ⟨u, by omega, u2, u3, h2⟩
            exact lem _ v hn hv ht rfl
      exact key _ v rfl h1 h2 h3
    rw [cmpO, firstO_eq hn]; exact hn

theorem none_iff {a b : Aut} {q : Bool → Bool → Bool} (h : opE a b = 0) : noneB q a b = true ↔ ∀ v, v ≠ [] → Lets (unN (unpD a) (unpD b)).length v → q (extT a (unN (unpD a) (unpD b)) v) (extT b (unN (unpD a) (unpD b)) v) = false := by
  obtain ⟨_, _, _, _, r1, r2, t1, t2⟩ := op_made h
  have hs := cmpO_spec (opA a b) (opB a b) q r1 r2 (by rw [t1, t2])
  rw [t1] at hs
  rw [noneB_ok h]
  cases ho : cmpO (opA a b) (opB a b) q with
  | none =>
    rw [ho] at hs
    exact ⟨fun _ v h1 h2 => by rw [← ask_lang h q h2]; exact hs v h1 h2, fun _ => rfl⟩
  | some w =>
    rw [ho] at hs
    obtain ⟨w1, w2, w3, _⟩ := hs
    refine ⟨fun h => by simp at h, fun hh => ?_⟩
    have := hh w w1 w2
    rw [← ask_lang h q w2, w3] at this
    simp at this
/-- Likewise over any greater tracks. -/
theorem none_over {a b : Aut} {q : Bool → Bool → Bool} (h : opE a b = 0) {T : List (List UInt8)} (hT : T.Nodup) (hs : ∀ s ∈ unN (unpD a) (unpD b), s ∈ T) : noneB q a b = true ↔ ∀ y, y ≠ [] → Lets T.length y → q (extT a T y) (extT b T y) = false := by
  rw [none_iff h]
  obtain ⟨i1, i2⟩ := unN_in (d := unpD a) (e := unpD b)
  have i1 := inAll_iff.1 i1
  have i2 := inAll_iff.1 i2
  have hUn : (unN (unpD a) (unpD b)).Nodup := strict_nodup (tog_strict _)
  generalize unN (unpD a) (unpD b) = U at *
  have hlen : (placesOf U T).length = U.length := by simp [placesOf]
  have hc : ∀ (x : Aut) (y : List Nat), (∀ s ∈ (unpD x).tracks, s ∈ U) → extT x U (y.map fun z => gatN z (placesOf U T)) = extT x T y := fun x y hx => by
    rw [extT, extT, List.map_map]
    congr 1
    exact List.map_congr_left fun z _ => gat_places hx z
  have hnd : (placesOf U T).Nodup := by
    refine List.pairwise_iff_getElem.2 fun i j hi hj hij e => ?_
    have hi' : i < U.length := by simpa [placesOf] using hi
    have hj' : j < U.length := by simpa [placesOf] using hj
    simp only [placesOf, List.getElem_map] at e
    have := idx_inj' (hs _ (List.getElem_mem hi')) (hs _ (List.getElem_mem hj')) e
    exact List.pairwise_iff_getElem.1 hUn i j hi' hj' hij this
  have hlt : ∀ p ∈ placesOf U T, p < T.length := by
    intro p hp
    obtain ⟨s, hs', rfl⟩ := List.mem_map.1 hp
    exact List.idxOf_lt_length_of_mem (hs s hs')
  constructor
  · intro hh y hy hyl
    have hv := lets_gat (n := T.length) (P := placesOf U T) y
    rw [hlen] at hv
    have := hh _ (by simpa using hy) hv
    rwa [hc a y i1, hc b y i2] at this
  · intro hh v hv hvl
    rw [← hlen] at hvl
    obtain ⟨y, y1, y2⟩ := gat_onto_word (n := T.length) hnd hlt v hvl
    have hy : y ≠ [] := by intro e; subst e; simp at y2; exact hv y2
    have := hh y hy y1
    rw [← hc a y i1, ← hc b y i2, y2] at this
    exact this

theorem within_self {a : Aut} (h : opE a a = 0) : noneB qW a a = true := (none_iff h).2 fun v _ _ => by rw [qW]; cases extT a (unN (unpD a) (unpD a)) v <;> rfl
theorem opE_self {a : Aut} (h : opE a a ≠ 0) : opE a a = 3 := by
  cases hc : checkS a with
  | false => exact opE_bad (by rw [hc]; rfl)
  | true =>
    obtain ⟨r, _, _⟩ := unpD_right hc
    obtain ⟨k6, hs, _, _⟩ := tracksS_parts (rightS_parts r).1
    have hu : unN (unpD a) (unpD a) = (unpD a).tracks := by
      rw [unN]; exact strict_eq (tog_strict _) (rises_strict hs) fun x => by rw [tog_mem, List.mem_append, or_self]
    exact absurd (opE_ok (a := a) (b := a) (by rw [hc]; rfl) (by rw [hu]; omega)) h
theorem within_trans {a b c : Aut} (h1 : opE a b = 0) (h2 : opE b c = 0) (h3 : opE a c = 0) (n1 : noneB qW a b = true) (n2 : noneB qW b c = true) : noneB qW a c = true := by
  obtain ⟨T, hT, hTn⟩ : ∃ T : List (List UInt8), T.Nodup ∧ ∀ s, s ∈ T ↔ s ∈ (unpD a).tracks ++ (unpD b).tracks ++ (unpD c).tracks :=
    ⟨togS ((unpD a).tracks ++ (unpD b).tracks ++ (unpD c).tracks), strict_nodup (tog_strict _), fun s => tog_mem _ s⟩
  have sub : ∀ {x y : Aut}, (∀ s ∈ (unpD x).tracks, s ∈ T) → (∀ s ∈ (unpD y).tracks, s ∈ T) → ∀ s ∈ unN (unpD x) (unpD y), s ∈ T := fun {x y} hx hy s hs => by
    rcases List.mem_append.1 ((tog_mem _ _).1 hs) with h | h
    · exact hx s h
    · exact hy s h
  have ta : ∀ s ∈ (unpD a).tracks, s ∈ T := fun s h => (hTn s).2 (by simp [h])
  have tb : ∀ s ∈ (unpD b).tracks, s ∈ T := fun s h => (hTn s).2 (by simp [h])
  have tc : ∀ s ∈ (unpD c).tracks, s ∈ T := fun s h => (hTn s).2 (by simp [h])
  have g1 := (none_over h1 hT (sub ta tb)).1 n1
  have g2 := (none_over h2 hT (sub tb tc)).1 n2
  refine (none_over h3 hT (sub ta tc)).2 fun y hy hyl => ?_
  have k1 := g1 y hy hyl
  have k2 := g2 y hy hyl
  revert k1 k2
  cases extT a T y <;> cases extT b T y <;> cases extT c T y <;> simp [qW]

end Tab

/- tabardref12.Same of a copy; tabardref21.Open, told. -/
namespace Tab
open Go Go.Proofs
set_option maxRecDepth 10000
set_option linter.unusedVariables false
set_option linter.unusedSimpArgs false
set_option linter.unusedSectionVars false

theorem r12_SameC (a : Aut) (ha : AutOk a) : Pure Tryz.prog 13 [aAut (copyA a), aAut a] (.bool true) := by
  have d1 := ha.tracks
  have d2 := ha.accept
  have d3 := ha.starts
  have d4 := ha.arena
  have h1 := r12_texts .any a.tk a.tracks a.tracks (by omega) (by omega)
  have h2 := r12_flags .any a.ak a.accept a.accept (by omega) (by omega)
  have h3 := r12_ints .any a.sk a.starts a.starts (by omega) (by omega)
  rw [decide_eq_true rfl] at h1 h2 h3
  refine Pure.of_sw 55 Tryz.func13 rfl Tryz.ntmps13 (by kernel_rfl) (Nat.le_of_ble_eq_true (by kernel_rfl)) (by simp [closeds, AV.closed, aSs_closed, aIs_closed, aBs_closed, aRs_closed, aDen_closed, aCs_closed, aAut_closed]) (by simp [AV.closed, closeds, aSs_closed, aIs_closed, aBs_closed, aRs_closed, aDen_closed, aCs_closed, aAut_closed]) ?_; refine SW.of_vc ?_
  repeat first | refine opsStep ?_ | refine codeStep ?_ | refine drawStep ?_
  refine callP h1 ?_
  repeat first | refine opsStep ?_ | refine codeStep ?_ | refine drawStep ?_
  refine callP h2 ?_
  repeat first | refine opsStep ?_ | refine codeStep ?_ | refine drawStep ?_
  refine callP h3 ?_
  repeat first | refine opsStep ?_ | refine codeStep ?_ | refine drawStep ?_
  refine decB_false (decide_eq_false fun h => h rfl) ?_
  repeat first | refine opsStep ?_ | refine codeStep ?_ | refine drawStep ?_
  refine loopE_of (ι := {i : Nat // i ≤ a.arena.length}) (fun i => (fr [(2, .ref 0 0 0), (3, .ref 1 0 0), (5, .int .i64 i.1)], [.cells 0 (copyA a).cells, .cells 0 a.cells])) (fun i => a.arena.length - i.1) ⟨0, by omega⟩ (Ent.fr' ⟨(by kernel_rfl), (by kernel_rfl), (by kernel_rfl), trivial⟩ (by kernel_rfl)) ?_
  rintro ⟨i, hi⟩
  repeat first | refine opsStep ?_ | refine codeStep ?_ | refine drawStep ?_
  refine decB_dec (fun h => ?_) (fun h => ?_)
  · have hia : i < a.arena.length := by have := h; simp [copyA] at this; omega
    obtain ⟨g1, g2⟩ := cc3_get (List.getElem?_eq_getElem hia)
    have he : EqlE Tryz.prog 65 (((cc3 a.arena).drop (i * 3)).take 3) (((cc3 a.arena).drop (i * 3)).take 3) true := by
      rw [g1]
      have := eqlC (ha.cubes _ (List.getElem_mem hia)) (ha.cubes _ (List.getElem_mem hia))
      rwa [decide_eq_true rfl] at this
    repeat first | refine opsStep ?_ | refine codeStep ?_ | refine drawStep ?_
    refine SW.drawn rfl (by kernel_rfl) ?_
    repeat first | refine opsStep ?_ | refine codeStep ?_ | refine drawStep ?_
    refine guardE_of (by simp [copyA]; omega) ?_
    repeat first | refine opsStep ?_ | refine codeStep ?_ | refine drawStep ?_
    refine guardE_of g2 ?_
    repeat first | refine opsStep ?_ | refine codeStep ?_ | refine drawStep ?_
    refine guardE_of (by simp; omega) ?_
    repeat first | refine opsStep ?_ | refine codeStep ?_ | refine drawStep ?_
    refine guardE_of g2 ?_
    repeat first | refine opsStep ?_ | refine codeStep ?_ | refine drawStep ?_
    refine ⟨_, he, ?_⟩
    repeat first | refine opsStep ?_ | refine codeStep ?_ | refine drawStep ?_
    refine ⟨by kernel_rfl, ?_⟩
    repeat first | refine opsStep ?_ | refine codeStep ?_ | refine drawStep ?_
    refine ⟨⟨i + 1, by omega⟩, (by show a.arena.length - (i + 1) < a.arena.length - i; omega), Ent.fr' ⟨(by kernel_rfl), (by kernel_rfl), inc_slot (i := i) (by omega), trivial⟩ (by kernel_rfl)⟩
  · repeat first | refine opsStep ?_ | refine codeStep ?_ | refine drawStep ?_
    exact finB (b' := true) (by kernel_rfl) rfl

theorem r21_Open (a b : Aut) (ha : AutOk a) (hb : AutOk b) : Pure Tryz.prog 7 [aAut a, aAut b] (.tup [.agg ((opA a b).cells ++ (opB a b).cells), .int .i64 (opE a b)]) := by
  have hua := r12_Unpack a ha
  have hub := r12_Unpack b hb
  have oka := unpD_den ha
  have okb := unpD_den hb
  cases h1 : checkS a with
  | false =>
    have he := opE_bad (a := a) (b := b) (by rw [h1]; rfl)
    obtain ⟨e1, e2⟩ := opA_bad (a := a) (b := b) (by rw [he]; decide)
    rw [he, e1, e2]
    rw [h1] at hua
    generalize unpD a = d at *
    generalize unpD b = e at *
    generalize checkS b = cb at *
    refine Pure.of_sw 59 Tryz.func7 rfl Tryz.ntmps7 (by kernel_rfl) (Nat.le_of_ble_eq_true (by kernel_rfl)) (by simp [closeds, AV.closed, aSs_closed, aIs_closed, aBs_closed, aRs_closed, aDen_closed, aCs_closed, aAut_closed]) (by simp [AV.closed, closeds, aSs_closed, aIs_closed, aBs_closed, aRs_closed, aDen_closed, aCs_closed, aAut_closed]) ?_; refine SW.of_vc ?_
    repeat first | refine opsStep ?_ | refine codeStep ?_ | refine drawStep ?_
    refine callP hua ?_
    repeat first | refine opsStep ?_ | refine codeStep ?_ | refine drawStep ?_
    refine callP hub ?_
    repeat first | refine opsStep ?_ | refine codeStep ?_ | refine drawStep ?_
    exact finV (v' := .tup [.agg (den0.cells ++ den0.cells), .int .i64 3]) (by kernel_rfl) rfl
  | true =>
  cases h2 : checkS b with
  | false =>
    have he := opE_bad (a := a) (b := b) (by rw [h1, h2]; rfl)
    obtain ⟨e1, e2⟩ := opA_bad (a := a) (b := b) (by rw [he]; decide)
    rw [he, e1, e2]
    rw [h1] at hua
    rw [h2] at hub
    generalize unpD a = d at *
    generalize unpD b = e at *
    refine Pure.of_sw 59 Tryz.func7 rfl Tryz.ntmps7 (by kernel_rfl) (Nat.le_of_ble_eq_true (by kernel_rfl)) (by simp [closeds, AV.closed, aSs_closed, aIs_closed, aBs_closed, aRs_closed, aDen_closed, aCs_closed, aAut_closed]) (by simp [AV.closed, closeds, aSs_closed, aIs_closed, aBs_closed, aRs_closed, aDen_closed, aCs_closed, aAut_closed]) ?_; refine SW.of_vc ?_
    repeat first | refine opsStep ?_ | refine codeStep ?_ | refine drawStep ?_
    refine callP hua ?_
    repeat first | refine opsStep ?_ | refine codeStep ?_ | refine drawStep ?_
    refine callP hub ?_
    repeat first | refine opsStep ?_ | refine codeStep ?_ | refine drawStep ?_
    exact finV (v' := .tup [.agg (den0.cells ++ den0.cells), .int .i64 3]) (by kernel_rfl) rfl
  | true =>
  rw [h1] at hua
  rw [h2] at hub
  obtain ⟨r1, _, _⟩ := unpD_right h1
  obtain ⟨r2, _, _⟩ := unpD_right h2
  have hwide := opE_wide (a := a) (b := b) (by rw [h1, h2]; rfl)
  have hgood := opE_ok (a := a) (b := b) (by rw [h1, h2]; rfl)
  have hbad := opA_bad (a := a) (b := b)
  have hok := opA_ok (a := a) (b := b)
  obtain ⟨i1, i2⟩ := unN_in (d := unpD a) (e := unpD b)
  have hu := unN_rises r1 r2
  have hul := unN_len r1 r2
  have hus := unN_sizes oka okb
  obtain ⟨jd1, jd2, jd3, jd4⟩ := tracksS_parts (rightS_parts r1).1
  obtain ⟨je1, je2, je3, je4⟩ := tracksS_parts (rightS_parts r2).1
  have hto := r04_Together .any ((unpD a).tracks ++ (unpD b).tracks) (by rw [List.length_append]; omega)
  rw [← unN] at hto
  have hw1 := r15_Widen .any (unpD a) (unN (unpD a) (unpD b)) oka (by omega) hus
  have hw2 := r15_Widen .any (unpD b) (unN (unpD a) (unpD b)) okb (by omega) hus
  have hd1 := oka.tracks
  have he1 := okb.tracks
  by_cases h6 : (unN (unpD a) (unpD b)).length ≤ 6
  · have he := hgood h6
    obtain ⟨e1, e2⟩ := hok he
    have w0 := widenE_ok r1 hu h6 i1
    have v0 := widenE_ok r2 hu h6 i2
    rw [widenR_ok w0, w0] at hw1
    rw [widenR_ok v0, v0] at hw2
    rw [he, e1, e2]
    generalize widenD (unpD a) (unN (unpD a) (unpD b)) = wa at *
    generalize widenD (unpD b) (unN (unpD a) (unpD b)) = wb at *
    generalize unN (unpD a) (unpD b) = names at *
    generalize unpD a = d at *
    generalize unpD b = e at *
    have hsl : aSs .any (d.tracks ++ e.tracks) = .sl .any (0 + d.tracks.length + e.tracks.length) (((([] : List AV).take (0 * 1) ++ d.tracks.map AV.str).drop 0).take ((0 + d.tracks.length) * 1) ++ e.tracks.map .str) := by
      rw [Nat.zero_mul, List.take_zero, List.nil_append, List.drop_zero, List.take_of_length_le (by simp), aSs, List.length_append, List.map_append, Nat.zero_add]
    rw [hsl] at hto
    refine Pure.of_sw 59 Tryz.func7 rfl Tryz.ntmps7 (by kernel_rfl) (Nat.le_of_ble_eq_true (by kernel_rfl)) (by simp [closeds, AV.closed, aSs_closed, aIs_closed, aBs_closed, aRs_closed, aDen_closed, aCs_closed, aAut_closed]) (by simp [AV.closed, closeds, aSs_closed, aIs_closed, aBs_closed, aRs_closed, aDen_closed, aCs_closed, aAut_closed]) ?_; refine SW.of_vc ?_
    repeat first | refine opsStep ?_ | refine codeStep ?_ | refine drawStep ?_
    refine callP hua ?_
    repeat first | refine opsStep ?_ | refine codeStep ?_ | refine drawStep ?_
    refine callP hub ?_
    repeat first | refine opsStep ?_ | refine codeStep ?_ | refine drawStep ?_
    refine SW.drawn rfl (by kernel_rfl) ?_
    iterate 4 refine drawStep ?_
    refine guardE_of (by simp [Value.cells]) ?_
    refine guardE_of ⟨by omega, by show (0 + d.tracks.length) * 16 ≤ 140737488355328; omega⟩ ?_
    iterate 2 refine drawStep ?_
    refine drawFrz ?_
    refine guardE_of ⟨rfl, by simp [Value.cells]⟩ ?_
    refine guardE_of (by simp [Value.cells]) ?_
    refine guardE_of ⟨by omega, by show (0 + d.tracks.length + e.tracks.length) * 16 ≤ 140737488355328; omega⟩ ?_
    refine ⟨rfl, rfl, (by show (0 + d.tracks.length + e.tracks.length) * 1 = ((([] : List AV).take (0 * 1) ++ d.tracks.map AV.str).drop 0 |>.take ((0 + d.tracks.length) * 1) |>.append (e.tracks.map AV.str)).length; simp), ?_⟩
    repeat first | refine opsStep ?_ | refine codeStep ?_ | refine drawStep ?_
    refine .inl ⟨_, _, [], hto, RdsN_refl _, .inr rfl, none_need, ?_⟩
    repeat first | refine opsStep ?_ | refine codeStep ?_ | refine drawStep ?_
    refine ⟨by kernel_rfl, ?_⟩
    refine VCode.ent (Ent.frD (l := [(4, .ref 2 0 0), (6, .ref 3 0 0), (8, .ref 4 0 0), (10, aSs .any names)]) (X := [.fro 2 (((([] : List AV).take (0 * 1) ++ d.tracks.map AV.str).drop 0).take ((0 + d.tracks.length) * 1) ++ e.tracks.map .str)]) (H' := [.cells 0 a.cells, .cells 0 b.cells, .cells 0 (den0.cells ++ den0.cells), .cells 0 d.cells, .cells 0 e.cells]) ⟨(by kernel_rfl), (by kernel_rfl), (by kernel_rfl), (by kernel_rfl), trivial⟩ (by kernel_rfl) (Nat.le_of_ble_eq_true (by kernel_rfl)) (by simp [frBel, AV.bel, aSs_bel]) (by simp [blksBel, Blk.bel, bels, AV.bel, Aut.cells, Den.cells, den0, aSs_bel, aBs_bel, aIs_bel, aRs_bel])) ?_
    repeat first | refine opsStep ?_ | refine codeStep ?_ | refine drawStep ?_
    refine decB_dec (fun h7 => ?_) (fun h7 => ?_)
    · exact absurd h7 (by omega)
    repeat first | refine opsStep ?_ | refine codeStep ?_ | refine drawStep ?_
    refine callP hw1 ?_
    repeat first | refine opsStep ?_ | refine codeStep ?_ | refine drawStep ?_
    refine callP hw2 ?_
    repeat first | refine opsStep ?_ | refine codeStep ?_ | refine drawStep ?_
    exact finV (v' := .tup [.agg (wa.cells ++ wb.cells), .int .i64 0]) (by kernel_rfl) rfl
  · have he := hwide h6
    obtain ⟨e1, e2⟩ := hbad (by rw [he]; decide)
    rw [he, e1, e2]
    generalize unN (unpD a) (unpD b) = names at *
    generalize unpD a = d at *
    generalize unpD b = e at *
    have hsl : aSs .any (d.tracks ++ e.tracks) = .sl .any (0 + d.tracks.length + e.tracks.length) (((([] : List AV).take (0 * 1) ++ d.tracks.map AV.str).drop 0).take ((0 + d.tracks.length) * 1) ++ e.tracks.map .str) := by
      rw [Nat.zero_mul, List.take_zero, List.nil_append, List.drop_zero, List.take_of_length_le (by simp), aSs, List.length_append, List.map_append, Nat.zero_add]
    rw [hsl] at hto
    refine Pure.of_sw 59 Tryz.func7 rfl Tryz.ntmps7 (by kernel_rfl) (Nat.le_of_ble_eq_true (by kernel_rfl)) (by simp [closeds, AV.closed, aSs_closed, aIs_closed, aBs_closed, aRs_closed, aDen_closed, aCs_closed, aAut_closed]) (by simp [AV.closed, closeds, aSs_closed, aIs_closed, aBs_closed, aRs_closed, aDen_closed, aCs_closed, aAut_closed]) ?_; refine SW.of_vc ?_
    repeat first | refine opsStep ?_ | refine codeStep ?_ | refine drawStep ?_
    refine callP hua ?_
    repeat first | refine opsStep ?_ | refine codeStep ?_ | refine drawStep ?_
    refine callP hub ?_
    repeat first | refine opsStep ?_ | refine codeStep ?_ | refine drawStep ?_
    refine SW.drawn rfl (by kernel_rfl) ?_
    iterate 4 refine drawStep ?_
    refine guardE_of (by simp [Value.cells]) ?_
    refine guardE_of ⟨by omega, by show (0 + d.tracks.length) * 16 ≤ 140737488355328; omega⟩ ?_
    iterate 2 refine drawStep ?_
    refine drawFrz ?_
    refine guardE_of ⟨rfl, by simp [Value.cells]⟩ ?_
    refine guardE_of (by simp [Value.cells]) ?_
    refine guardE_of ⟨by omega, by show (0 + d.tracks.length + e.tracks.length) * 16 ≤ 140737488355328; omega⟩ ?_
    refine ⟨rfl, rfl, (by show (0 + d.tracks.length + e.tracks.length) * 1 = ((([] : List AV).take (0 * 1) ++ d.tracks.map AV.str).drop 0 |>.take ((0 + d.tracks.length) * 1) |>.append (e.tracks.map AV.str)).length; simp), ?_⟩
    repeat first | refine opsStep ?_ | refine codeStep ?_ | refine drawStep ?_
    refine .inl ⟨_, _, [], hto, RdsN_refl _, .inr rfl, none_need, ?_⟩
    repeat first | refine opsStep ?_ | refine codeStep ?_ | refine drawStep ?_
    refine ⟨by kernel_rfl, ?_⟩
    refine VCode.ent (Ent.frD (l := [(4, .ref 2 0 0), (6, .ref 3 0 0), (8, .ref 4 0 0), (10, aSs .any names)]) (X := [.fro 2 (((([] : List AV).take (0 * 1) ++ d.tracks.map AV.str).drop 0).take ((0 + d.tracks.length) * 1) ++ e.tracks.map .str)]) (H' := [.cells 0 a.cells, .cells 0 b.cells, .cells 0 (den0.cells ++ den0.cells), .cells 0 d.cells, .cells 0 e.cells]) ⟨(by kernel_rfl), (by kernel_rfl), (by kernel_rfl), (by kernel_rfl), trivial⟩ (by kernel_rfl) (Nat.le_of_ble_eq_true (by kernel_rfl)) (by simp [frBel, AV.bel, aSs_bel]) (by simp [blksBel, Blk.bel, bels, AV.bel, Aut.cells, Den.cells, den0, aSs_bel, aBs_bel, aIs_bel, aRs_bel])) ?_
    repeat first | refine opsStep ?_ | refine codeStep ?_ | refine drawStep ?_
    refine decB_dec (fun h7 => ?_) (fun h7 => ?_)
    · repeat first | refine opsStep ?_ | refine codeStep ?_ | refine drawStep ?_
      exact finV (v' := .tup [.agg (den0.cells ++ den0.cells), .int .i64 150]) (by kernel_rfl) rfl
    · exact absurd h7 (by omega)

end Tab

/- Places met level by level: plain. -/
namespace Tab
open Go
set_option maxRecDepth 10000
set_option linter.unusedVariables false
set_option linter.unusedSimpArgs false
set_option linter.unusedSectionVars false

theorem metL_new : ∀ (l acc r : List Nat), metL acc l = acc ++ r → ∀ y ∈ r, y ∉ acc := by
  intro l
  induction l with
  | nil => intro acc r h y hy; simp [metL] at h; subst h; simp at hy
  | cons z l ih =>
    intro acc r h y hy
    rw [metL] at h
    split at h
    · exact ih acc r h y hy
    · rename_i hz
      obtain ⟨r', hr'⟩ := metL_prefix l (acc ++ [z])
      have h2 : acc ++ r = acc ++ ([z] ++ r') := by rw [← h, hr', List.append_assoc]
      have h3 := List.append_cancel_left h2
      subst h3
      rcases List.mem_append.1 hy with hy | hy
      · simp at hy; subst hy; exact hz
      · intro hya
        exact ih (acc ++ [z]) r' hr' y hy (by simp [hya])
section
variable (K : Nat) (st : Nat → Nat → Nat)
def tosC (x : Nat) : List Nat := (List.range K).map (st x)
theorem tosC_length (x) : (tosC K st x).length = K := by simp [tosC]
theorem tosC_get (x a) (h : a < (tosC K st x).length) : (tosC K st x)[a] = st x a := by simp [tosC]
def lvS (M last : List Nat) : List Nat := metL M (last.flatMap (tosC K st))
def lvL : Nat → List Nat → List Nat → List (List Nat)
  | 0, _, _ => []
  | n + 1, M, last => if last = [] then [] else (lvS K st M last).drop M.length :: lvL n (lvS K st M last) ((lvS K st M last).drop M.length)
theorem lvL_nil (n M) : lvL K st n M [] = [] := by cases n <;> simp [lvL]
theorem lvL_cons {n M last} (h : last ≠ []) : lvL K st (n + 1) M last = (lvS K st M last).drop M.length :: lvL K st n (lvS K st M last) ((lvS K st M last).drop M.length) := by rw [lvL, if_neg h]
theorem lvS_pre (M last) : lvS K st M last = M ++ (lvS K st M last).drop M.length := by
  obtain ⟨r, hr⟩ := metL_prefix (last.flatMap (tosC K st)) M
  rw [← lvS] at hr
  rw [hr]; simp
theorem lvS_mem (M last y) : y ∈ lvS K st M last ↔ y ∈ M ∨ ∃ x ∈ last, ∃ a, a < K ∧ st x a = y := by
  rw [lvS, metL_mem]
  simp [tosC]

/-- Every place of a level is where a word of so many letters leads. -/
theorem lvL_sound : ∀ (n k : Nat) (M last : List Nat), (∀ x ∈ last, ∃ w : List Nat, w.length = k ∧ (∀ a ∈ w, a < K) ∧ runG st 0 w = x) → ∀ (j : Nat) (row : List Nat), (lvL K st n M last)[j]? = some row → ∀ x ∈ row, ∃ w : List Nat, w.length = k + j + 1 ∧ (∀ a ∈ w, a < K) ∧ runG st 0 w = x
  | 0, _, _, _, _, j, row, h, _, _ => by simp [lvL] at h
  | n + 1, k, M, last, hl, j, row, h, x, hx => by
    by_cases hn : last = []
    · subst hn; rw [lvL_nil] at h; simp at h
    rw [lvL_cons K st hn] at h
    have hrow : ∀ y ∈ (lvS K st M last).drop M.length, ∃ w : List Nat, w.length = k + 1 ∧ (∀ a ∈ w, a < K) ∧ runG st 0 w = y := by
      obtain ⟨r, hr⟩ := metL_prefix (last.flatMap (tosC K st)) M
      intro y hy
      have hy1 : y ∈ r := by rw [lvS, hr] at hy; simpa using hy
      have hy2 : y ∈ last.flatMap (tosC K st) := by
        clear hy hl h
        rcases (metL_mem y (last.flatMap (tosC K st)) M).1 (by rw [hr]; simp [hy1]) with h | h
        · exact absurd h (metL_new _ _ _ hr y hy1)
        · exact h
      obtain ⟨x0, hx0, ha⟩ := List.mem_flatMap.1 hy2
      obtain ⟨a, ha1, ha2⟩ := List.mem_map.1 ha
      obtain ⟨w, h1, h2, h3⟩ := hl x0 hx0
      refine ⟨w ++ [a], by simp [h1], fun b hb => ?_, by rw [runG_snoc, h3, ha2]⟩
      rcases List.mem_append.1 hb with hb | hb
      · exact h2 b hb
      · simp at hb; subst hb; exact List.mem_range.1 ha1
    cases j with
    | zero => simp only [List.getElem?_cons_zero, Option.some.injEq] at h; subst h; exact hrow x hx
    | succ j =>
      rw [List.getElem?_cons_succ] at h
      obtain ⟨w, h1, h2⟩ := lvL_sound n (k + 1) _ _ hrow j row h x hx
      exact ⟨w, by omega, h2⟩

def lvEnough (N n : Nat) (M last : List Nat) : Prop := last = [] ∨ N - M.length + 2 ≤ n
theorem lvEnough.next {N n : Nat} {M last : List Nat} (h : lvEnough N (n + 1) M last) (hl : last ≠ []) (hn : (lvS K st M last).length ≤ N) : lvEnough N n (lvS K st M last) ((lvS K st M last).drop M.length) := by
  rcases h with h | h
  · exact absurd h hl
  by_cases hz : (lvS K st M last).drop M.length = []
  · exact .inl hz
  · refine .inr ?_
    have h1 : ((lvS K st M last).drop M.length).length ≠ 0 := fun e => hz (List.length_eq_zero_iff.1 e)
    rw [List.length_drop] at h1
    omega

theorem runG_cons' {σ : Type} (s : σ → Nat → σ) (x : σ) (a : Nat) (w : List Nat) : runG s x (a :: w) = runG s (s x a) w := rfl
/-- Each word leads to a place of a level that isn't behind its length. -/
theorem lvL_cover (N : Nat) : ∀ (n : Nat) (M last S : List Nat), lvEnough N n M last → (∀ x ∈ S, ∀ a, a < K → st x a ∈ M) → (∀ x ∈ M, x ∈ S ∨ x ∈ last) → (∀ n M last, lvEnough N n M last → True) → (∀ x ∈ M, x < N) → (∀ x ∈ last, x < N) → M.Nodup → (∀ x a, x < N → a < K → st x a < N) →
    ∀ (v : List Nat), v ≠ [] → (∀ a ∈ v, a < K) → ∀ x, x ∈ S ∨ x ∈ last → runG st x v ∈ M ∨ ∃ (j : Nat) (row : List Nat), (lvL K st n M last)[j]? = some row ∧ runG st x v ∈ row ∧ j + 1 ≤ v.length := by
  intro n
  induction n with
  | zero =>
    intro M last S he hS hM _ _ _ _ _ v
    have hl : last = [] := by rcases he with h | h; exact h; omega
    subst hl
    induction v with
    | nil => intro h; exact absurd rfl h
    | cons a v ih =>
      intro _ hv x hx
      have hx' : x ∈ S := by rcases hx with h | h; exact h; simp at h
      have hy := hS x hx' a (hv a (by simp))
      by_cases hve : v = []
      · subst hve; exact .inl hy
      · rcases ih hve (fun b hb => hv b (by simp [hb])) (st x a) (hM _ hy) with h | ⟨j, row, h1, h2, h3⟩
        · exact .inl h
        · rw [lvL_nil] at h1; simp at h1
  | succ n ihn =>
    intro M last S he hS hM _ hMN hlN hMd hst v
    by_cases hl : last = []
    · subst hl
      induction v with
      | nil => intro h; exact absurd rfl h
      | cons a v ih =>
        intro _ hv x hx
        have hx' : x ∈ S := by rcases hx with h | h; exact h; simp at h
        have hy := hS x hx' a (hv a (by simp))
        by_cases hve : v = []
        · subst hve; exact .inl hy
        · rcases ih hve (fun b hb => hv b (by simp [hb])) (st x a) (hM _ hy) with h | ⟨j, row, h1, h2, h3⟩
          · exact .inl h
          · rw [lvL_nil] at h1; simp at h1
    · have hpre := lvS_pre K st M last
      have hSN : ∀ y ∈ lvS K st M last, y < N := fun y hy => by
        rcases (lvS_mem K st M last y).1 hy with h | ⟨x, hx, a, ha, rfl⟩
        · exact hMN y h
        · exact hst x a (hlN x hx) ha
      have hSd : (lvS K st M last).Nodup := metL_nodup _ _ hMd
      have hSl : (lvS K st M last).length ≤ N := nodup_le hSd hSN
      have he' := he.next K st hl hSl
      have hdrop : ∀ y ∈ (lvS K st M last).drop M.length, y < N := fun y hy => hSN y (List.mem_of_mem_drop hy)
      have hsplit : ∀ y ∈ lvS K st M last, y ∈ M ∨ y ∈ (lvS K st M last).drop M.length := fun y hy => by rw [hpre] at hy; exact List.mem_append.1 hy
      have IH := ihn (lvS K st M last) ((lvS K st M last).drop M.length) (S ++ last) he'
        (fun x hx a ha => by
          rcases List.mem_append.1 hx with h | h
          · exact (lvS_mem K st M last _).2 (.inl (hS x h a ha))
          · exact (lvS_mem K st M last _).2 (.inr ⟨x, h, a, ha, rfl⟩))
        (fun x hx => by
          rcases hsplit x hx with h | h
          · exact .inl (List.mem_append.2 (hM x h))
          · exact .inr h) (fun _ _ _ _ => trivial) hSN hdrop hSd hst
      rw [lvL_cons K st hl]
      generalize lvL K st n (lvS K st M last) ((lvS K st M last).drop M.length) = T at *
      generalize (lvS K st M last).drop M.length = nx at *
      induction v with
      | nil => intro h; exact absurd rfl h
      | cons a v ih =>
        intro _ hv x hx
        have ha := hv a (by simp)
        have hv' : ∀ b ∈ v, b < K := fun b hb => hv b (by simp [hb])
        rw [runG_cons']
        have old : st x a ∈ M → runG st (st x a) v ∈ M ∨ ∃ (j : Nat) (row : List Nat), (nx :: T)[j]? = some row ∧ runG st (st x a) v ∈ row ∧ j + 1 ≤ (a :: v).length := fun hy => by
          by_cases hve : v = []
          · subst hve; exact .inl hy
          · rcases ih hve hv' (st x a) (hM _ hy) with h | ⟨j, row, h1, h2, h3⟩
            · exact .inl h
            · exact .inr ⟨j, row, h1, h2, by simp; omega⟩
        rcases hx with hx | hx
        · exact old (hS x hx a ha)
        · rcases hsplit _ ((lvS_mem K st M last _).2 (.inr ⟨x, hx, a, ha, rfl⟩)) with hy | hy
          · exact old hy
          · by_cases hve : v = []
            · subst hve; exact .inr ⟨0, nx, rfl, hy, by simp⟩
            · rcases IH v hve hv' (st x a) (.inr hy) with h | ⟨j, row, h1, h2, h3⟩
              · rcases hsplit _ h with h | h
                · exact .inl h
                · exact .inr ⟨0, nx, rfl, h, by simp⟩
              · exact .inr ⟨j + 1, row, by simpa using h1, h2, by simp; omega⟩
end

/-- Which places are met. -/
def metB (N : Nat) (M : List Nat) : List Bool := (List.range N).map fun x => decide (x ∈ M)
theorem metB_length (N M) : (metB N M).length = N := by simp [metB]
theorem metB_get {N M x} (h : x < N) : (metB N M)[x]? = some (decide (x ∈ M)) := by simp [metB, h]
theorem metB_set (N M x) : (metB N M).set x true = metB N (M ++ [x]) := by
  refine List.ext_getElem (by simp [metB]) fun j h1 h2 => ?_
  simp only [metB, List.getElem_set, List.getElem_map, List.getElem_range, List.mem_append, List.mem_singleton]
  by_cases e : x = j
  · subst e; simp
  · rw [if_neg e]
    have : ¬ j = x := fun h => e h.symm
    simp [this]
theorem metB_nil (N) : metB N [] = List.replicate N false := by
  refine List.ext_getElem (by simp [metB]) fun j h1 h2 => ?_
  simp [metB]

end Tab

/- tabardref21: told, Reached, Length. -/
namespace Tab
open Go Go.Proofs
set_option maxRecDepth 10000
set_option linter.unusedVariables false
set_option linter.unusedSimpArgs false
set_option linter.unusedSectionVars false

def askQ (q : Int) (a b : Bool) : Bool := (a && !b) || (decide (q = 1) && (b && !a))
/-- A pair's number, and the number of the pair that a letter leads to. -/
def stC (d e : Den) (x a : Nat) : Nat := stepN d.rows (x / e.accept.length) a * e.accept.length + stepN e.rows (x % e.accept.length) a
def tellC (d e : Den) (q : Int) (x : Nat) : Bool := askQ q (accN d.accept (x / e.accept.length)) (accN e.accept (x % e.accept.length))

theorem divmod_lt {x n m : Nat} (h : x < m * n) (hn : 0 < n) : x / n < m ∧ x % n < n := ⟨Nat.div_lt_of_lt_mul (by rw [Nat.mul_comm]; exact h), Nat.mod_lt _ hn⟩
theorem pair_lt {p q n m : Nat} (hp : p < m) (hq : q < n) : p * n + q < m * n := by
  calc p * n + q < p * n + n := by omega
    _ = (p + 1) * n := by rw [Nat.add_mul]; omega
    _ ≤ m * n := Nat.mul_le_mul_right _ hp

theorem r21_told (d e : Den) (q : Int) (hd : rightS d = true) (he : rightS e = true) (x : Nat) (hx : x < d.accept.length * e.accept.length) :
    Pure Tryz.prog 22 [.agg (d.cells ++ e.cells), .int .i64 x, .int .i64 q] (.bool (tellC d e q x)) := by
  have hpe := right_pos he
  obtain ⟨_, _, _, d256⟩ := tracksS_parts (rightS_parts hd).1
  obtain ⟨_, _, _, e256⟩ := tracksS_parts (rightS_parts he).1
  obtain ⟨h1, h2⟩ := divmod_lt hx hpe
  have hn0 : ¬ ((e.accept.length : Nat) : Int) = 0 := by omega
  have hx64 : x < 2 ^ 20 := by have := Nat.mul_le_mul (show d.accept.length ≤ 256 by omega) (show e.accept.length ≤ 256 by omega); omega
  have w1 : IntKind.wrap .i64 (((x : Nat) : Int).tdiv (e.accept.length : Nat)) = ((x / e.accept.length : Nat) : Int) := by
    rw [show ((x : Nat) : Int).tdiv (e.accept.length : Nat) = ((x / e.accept.length : Nat) : Int) from rfl]
    have := Nat.div_le_self x e.accept.length
    generalize x / e.accept.length = y at *
    rw [IntWalk.i64_in _ (by omega)]
  have w2 : ((x : Nat) : Int).tmod (e.accept.length : Nat) = ((x % e.accept.length : Nat) : Int) := rfl
  have ad : d.accept[x / e.accept.length]? = some (accN d.accept (x / e.accept.length)) := by rw [accN, List.getD_eq_getElem?_getD, List.getElem?_eq_getElem h1]; rfl
  have ae : e.accept[x % e.accept.length]? = some (accN e.accept (x % e.accept.length)) := by rw [accN, List.getD_eq_getElem?_getD, List.getElem?_eq_getElem h2]; rfl
  rw [tellC]
  generalize accN d.accept (x / e.accept.length) = x1 at *
  generalize accN e.accept (x % e.accept.length) = x2 at *
  generalize x / e.accept.length = p1 at *
  generalize x % e.accept.length = p2 at *
  refine Pure.of_sw 47 Tryz.func22 rfl Tryz.ntmps22 (by kernel_rfl) (Nat.le_of_ble_eq_true (by kernel_rfl)) (by simp [closeds, AV.closed, aSs_closed, aIs_closed, aBs_closed, aRs_closed, aDen_closed, aCs_closed, aAut_closed]) (by simp [AV.closed, closeds, aSs_closed, aIs_closed, aBs_closed, aRs_closed, aDen_closed, aCs_closed, aAut_closed]) ?_; refine SW.of_vc ?_
  repeat first | refine opsStep ?_ | refine codeStep ?_ | refine drawStep ?_
  refine SW.drawn rfl (by kernel_rfl) ?_
  repeat first | refine opsStep ?_ | refine codeStep ?_ | refine drawStep ?_
  refine optE_of (c := .int .i64 p1) (by show (if ((e.accept.length : Nat) : Int) = 0 then none else some (AV.int .i64 (IntKind.wrap .i64 (((x : Nat) : Int).tdiv (e.accept.length : Nat))))) = _; rw [if_neg hn0, w1]) ?_
  repeat first | refine opsStep ?_ | refine codeStep ?_ | refine drawStep ?_
  refine guardE_of (by simp; omega) ?_
  repeat first | refine opsStep ?_ | refine codeStep ?_ | refine drawStep ?_
  refine optE_of (c := .bool x1) (by simp [Value.cells, ad]) ?_
  repeat first | refine opsStep ?_ | refine codeStep ?_ | refine drawStep ?_
  refine optE_of (c := .int .i64 p2) (by show (if ((e.accept.length : Nat) : Int) = 0 then none else some (AV.int .i64 (((x : Nat) : Int).tmod (e.accept.length : Nat)))) = _; rw [if_neg hn0, w2]) ?_
  repeat first | refine opsStep ?_ | refine codeStep ?_ | refine drawStep ?_
  refine guardE_of (by simp; omega) ?_
  repeat first | refine opsStep ?_ | refine codeStep ?_ | refine drawStep ?_
  refine optE_of (c := .bool x2) (by simp [Value.cells, ae]) ?_
  repeat first | refine opsStep ?_ | refine codeStep ?_ | refine drawStep ?_
  refine ⟨by kernel_rfl, ?_⟩
  cases x1 <;> cases x2
  · repeat first | refine opsStep ?_ | refine codeStep ?_ | refine drawStep ?_
    refine decB_dec (fun hq => ?_) (fun hq => ?_)
    · repeat first | refine opsStep ?_ | refine codeStep ?_ | refine drawStep ?_
      exact finV (v' := .bool false) (by kernel_rfl) (by simp [askQ])
    · repeat first | refine opsStep ?_ | refine codeStep ?_ | refine drawStep ?_
      exact finV (v' := .bool false) (by kernel_rfl) (by simp [askQ])
  · repeat first | refine opsStep ?_ | refine codeStep ?_ | refine drawStep ?_
    refine decB_dec (fun hq => ?_) (fun hq => ?_)
    · repeat first | refine opsStep ?_ | refine codeStep ?_ | refine drawStep ?_
      exact finV (v' := .bool true) (by kernel_rfl) (by simp [askQ, hq])
    · repeat first | refine opsStep ?_ | refine codeStep ?_ | refine drawStep ?_
      exact finV (v' := .bool false) (by kernel_rfl) (by simp [askQ, hq])
  · repeat first | refine opsStep ?_ | refine codeStep ?_ | refine drawStep ?_
    exact finV (v' := .bool true) (by kernel_rfl) (by simp [askQ])
  · repeat first | refine opsStep ?_ | refine codeStep ?_ | refine drawStep ?_
    refine decB_dec (fun hq => ?_) (fun hq => ?_)
    · repeat first | refine opsStep ?_ | refine codeStep ?_ | refine drawStep ?_
      exact finV (v' := .bool false) (by kernel_rfl) (by simp [askQ])
    · repeat first | refine opsStep ?_ | refine codeStep ?_ | refine drawStep ?_
      exact finV (v' := .bool false) (by kernel_rfl) (by simp [askQ])

end Tab
