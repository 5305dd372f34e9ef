/- Lemmas for this claim: part 13. No condition. -/
import Derived.Test.YtgadapklmphliaaZ0
import Derived.Test.YtgadapklmphliaaZ9
import Derived.Test.YtgadapklmphliaaZ10
import Derived.Test.YtgadapklmphliaaZ11
import Derived.DeepKeys4
/- Pairs of numbers as keys. -/
namespace Tab
open Go Go.Proofs
set_option maxRecDepth 10000
set_option linter.unusedVariables false
set_option linter.unusedSimpArgs false
set_option linter.unusedSectionVars false

def pv2 (p : Int × Int) : Value := .agg #[.int .i64 p.1, .int .i64 p.2]
theorem pv2_inj {p q : Int × Int} (h : pv2 p = pv2 q) : p = q := by
  obtain ⟨a, b⟩ := p
  obtain ⟨c, d⟩ := q
  simp only [pv2, Value.agg.injEq, Array.mk.injEq, List.cons.injEq, Value.int.injEq, true_and, and_true] at h
  simp [h.1, h.2]
def ok2 (p : Int × Int) : Prop := (-(2^63) ≤ p.1 ∧ p.1 < 2^63) ∧ (-(2^63) ≤ p.2 ∧ p.2 < 2^63)
theorem lits2 {t : TypeId} (hu : Try.prog.underlying t = some (.array 2 3)) (hc : Try.prog.cellsOf t = 2) {a b : Int} (h : ok2 (a, b)) (n : Nat) : Try.prog.keyLits (n + 2) t [.int .i64 a, .int .i64 b] = some [.int .i64 a, .int .i64 b] := by
  have hi : Try.prog.underlying 3 = some (.int .i64) := (by kernel_rfl)
  have hc1 : Try.prog.cellsOf 3 = 1 := (by kernel_rfl)
  have hw : ∀ x : Int, (-(2^63) ≤ x ∧ x < 2^63) → (Lit.int .i64 x).wf = true := fun x h => by
    simp only [Lit.wf, Bool.and_eq_true, decide_eq_true_eq, show IntKind.i64.min = -9223372036854775808 from rfl, show IntKind.i64.max = 9223372036854775807 from rfl]
    omega
  have e1 : ∀ (n : Nat) (x : Int), (-(2^63) ≤ x ∧ x < 2^63) → Try.prog.keyLits (n + 1) 3 [.int .i64 x] = some [.int .i64 x] := fun n x h => by
    unfold Program.keyLits
    rw [hi]
    exact if_pos ⟨rfl, hw x h⟩
  unfold Program.keyLits
  rw [hu]
  simp only
  rw [if_pos (by rw [hc]; rfl), hc1]
  simp [List.range_succ, e1 n a h.1, e1 n b h.2]
theorem key2 {t : TypeId} (hu : Try.prog.underlying t = some (.array 2 3)) (hc : Try.prog.cellsOf t = 2) (hk : Try.prog.keyType t = true) {p : Int × Int} (h : ok2 p) : ∃ l, keyOf Try.prog t (pv2 p) = some l := by
  obtain ⟨a, b⟩ := p
  unfold keyOf
  rw [hu]
  obtain ⟨n, hn⟩ : ∃ n, Try.prog.types.size = n + 1 := ⟨Try.prog.types.size - 1, by have : 0 < Try.prog.types.size := (Nat.le_of_ble_eq_true (by kernel_rfl)); omega⟩
  refine ⟨.string (keyBytes [.int .i64 a, .int .i64 b]), ?_⟩
  have hf : Value.formed Try.prog t (pv2 (a, b)) = true := by simp only [Value.formed, pv2, hu, hc]; rfl
  show (if (Try.prog.keyType t && Value.formed Try.prog t (pv2 (a, b))) = true then Option.map (fun ls => Lit.string (keyBytes ls)) (Try.prog.keyLits (Try.prog.types.size + 1) t (pv2 (a, b)).cells.toList) else none) = _
  rw [hk, hf]
  rw [if_pos (show (true && true) = true from rfl), hn, show (pv2 (a, b)).cells.toList = [.int .i64 a, .int .i64 b] from rfl, lits2 hu hc h n]
  rfl
theorem eql2 {t : TypeId} (hu : Try.prog.underlying t = some (.array 2 3)) (hc : Try.prog.cellsOf t = 2) (hk : Try.prog.keyTypeAt 2 t = true) (hg : Try.prog.eqGuardType Try.prog.depth t = false) {a b c d : Int} (h1 : ok2 (a, b)) (h2 : ok2 (c, d)) :
    EqlE Try.prog t [.int .i64 a, .int .i64 b] [.int .i64 c, .int .i64 d] (decide ((a, b) = (c, d))) := by
  have hf : ∀ x y : Int, Value.formed Try.prog t (.agg #[.int .i64 x, .int .i64 y]) = true := fun x y => by simp only [Value.formed, hu, hc]; rfl
  refine .mk (xs := [.int .i64 a, .int .i64 b]) (ys := [.int .i64 c, .int .i64 d]) (la := [.int .i64 a, .int .i64 b]) (lb := [.int .i64 c, .int .i64 d]) (D := 0 + 2) (D' := 0 + 2) (m := 2) ?_ rfl rfl (lits2 hu hc h1 0) (lits2 hu hc h2 0) hk (by decide) (hf a b) (hf c d) hg
  rw [decide_eq_true_eq]
  simp

theorem keyed2 : Maps.Keyed Try.prog 151 := Maps.Keyed.of_law (deep_law_laid ((by kernel_rfl) : laidOutB Try.prog = true) (m := 2) (by decide) (of_decide_eq_true (by kernel_rfl)) (by kernel_rfl) (by kernel_rfl))

end Tab

/- Pairs of numbers, numbered as they are met. -/
namespace Tab
open Go Go.Proofs
set_option maxRecDepth 10000
set_option linter.unusedVariables false
set_option linter.unusedSimpArgs false
set_option linter.unusedSectionVars false

theorem mapPI : NumMap Try.prog 211 151 3 where
  map := (by kernel_rfl)
  law := Maps.Keyed.of_law (deep_law_laid ((by kernel_rfl) : laidOutB Try.prog = true) (m := 2) (by decide) (of_decide_eq_true (by kernel_rfl)) (by kernel_rfl) (by kernel_rfl))
  zero := mapII.zero
theorem keyP {p : Int × Int} (h : ok2 p) : ∃ l, keyOf Try.prog 151 (pv2 p) = some l := by
  have hu : Try.prog.underlying 151 = some (.array 2 3) := (by kernel_rfl)
  obtain ⟨a, b⟩ := p
  unfold keyOf
  rw [hu]
  have hi : Try.prog.underlying 3 = some (.int .i64) := (by kernel_rfl)
  have hc : Try.prog.cellsOf 151 = 2 := (by kernel_rfl)
  have hc1 : Try.prog.cellsOf 3 = 1 := (by kernel_rfl)
  have hw : ∀ x : Int, (-(2^63) ≤ x ∧ x < 2^63) → (Lit.int .i64 x).wf = true := fun x h => by
    simp only [Lit.wf, Bool.and_eq_true, decide_eq_true_eq, show IntKind.i64.min = -9223372036854775808 from rfl, show IntKind.i64.max = 9223372036854775807 from rfl]
    omega
  have e1 : ∀ (n : Nat) (x : Int), (-(2^63) ≤ x ∧ x < 2^63) → Try.prog.keyLits (n + 1) 3 [.int .i64 x] = some [.int .i64 x] := fun n x h => by
    unfold Program.keyLits
    rw [hi]
    exact if_pos ⟨rfl, hw x h⟩
  have e2 : ∀ n : Nat, Try.prog.keyLits (n + 2) 151 [.int .i64 a, .int .i64 b] = some [.int .i64 a, .int .i64 b] := fun n => by
    unfold Program.keyLits
    rw [hu]
    simp only
    rw [if_pos (by rw [hc]; rfl), hc1]
    simp [List.range_succ, e1 n a h.1, e1 n b h.2]
  obtain ⟨n, hn⟩ : ∃ n, Try.prog.types.size = n + 1 := ⟨Try.prog.types.size - 1, by have : 0 < Try.prog.types.size := (Nat.le_of_ble_eq_true (by kernel_rfl)); omega⟩
  refine ⟨.string (keyBytes [.int .i64 a, .int .i64 b]), ?_⟩
  show (if (Try.prog.keyType 151 && Value.formed Try.prog 151 (pv2 (a, b))) = true then Option.map (fun ls => Lit.string (keyBytes ls)) (Try.prog.keyLits (Try.prog.types.size + 1) 151 (pv2 (a, b)).cells.toList) else none) = _
  rw [if_pos (by kernel_rfl), hn]
  rw [show (pv2 (a, b)).cells.toList = [.int .i64 a, .int .i64 b] from rfl, e2 n]
  rfl

/-- What the closure answers: the number of a pair; and the pairs that are met then. -/
def met2 (L : List (Int × Int)) (p : Int × Int) : List (Int × Int) := if p ∈ L then L else L ++ [p]
theorem canon_split1 (a b : Int) (L : List (Int × Int)) (d : Den) (x3 : List Int) (hL : L.Nodup) (hl : L.length < 2^40) (hok : ∀ p ∈ L, ok2 p) (hp : ok2 (a, b)) :
    ACall Try.prog 168 [.int .i64 a, .int .i64 b, .ref 2 0 0] [.cells 0 d.cells, .dict (dI (L.map pv2)), .cells 0 [.mp 1], .cells 0 (x3.map (.int .i64))]
      fun o H' => o = .ret (.int .i64 ((met2 L (a, b)).idxOf (a, b) : Nat)) ∧ H' = [.cells 0 d.cells, .dict (dI ((met2 L (a, b)).map pv2)), .cells 0 [.mp 1], .cells 0 (x3.map (.int .i64))] := by
  have hn2 : (L.map pv2).Nodup := List.Pairwise.map _ (fun p q h e => h (pv2_inj e)) hL
  have hks : ∀ x ∈ L.map pv2, ∃ q, keyOf Try.prog 151 x = some q := fun x hx => by
    obtain ⟨y, hy, rfl⟩ := List.mem_map.1 hx
    exact keyP (hok y hy)
  obtain ⟨lx, hlx⟩ := keyP hp
  refine ACall.of_sw 26 Try.func168 rfl Try.ntmps168 (by kernel_rfl) (Nat.le_of_ble_eq_true (by kernel_rfl)) ?_; refine SW.of_vc ?_
  repeat first | refine opsStep ?_ | refine codeStep ?_ | refine drawStep ?_
  refine look_num mapPI (kv := pv2 (a, b)) (by kernel_rfl) hlx hn2 hks (fun p hp => ?_) (fun hp => ?_)
  · obtain ⟨q, hq, hqe⟩ : ∃ q, L[p]? = some q ∧ pv2 q = pv2 (a, b) := by
      rw [List.getElem?_map, Option.map_eq_some_iff] at hp; exact hp
    have hqe := pv2_inj hqe
    subst hqe
    have hm := List.mem_of_getElem? hq
    have hix : L.idxOf (a, b) = p := by
      obtain ⟨k1, e1⟩ := List.getElem?_eq_some_iff.1 hq
      have hlt := List.idxOf_lt_length_of_mem hm
      have e2 := List.getElem_idxOf hlt
      rcases Nat.lt_trichotomy (L.idxOf (a, b)) p with k | k | k
      · exact absurd (e2.trans e1.symm) (List.pairwise_iff_getElem.1 hL _ _ hlt k1 k)
      · exact k
      · exact absurd (e1.trans e2.symm) (List.pairwise_iff_getElem.1 hL _ _ k1 hlt k)
    repeat first | refine opsStep ?_ | refine codeStep ?_ | refine drawStep ?_
    refine finR (l := [(5, .int .i64 (p : Nat))]) (v := .int .i64 (p : Nat)) (H₁ := [.cells 0 d.cells, .dict (dI (L.map pv2)), .cells 0 [.mp 1], .cells 0 (x3.map (.int .i64))] ++ [.cells 0 [.int .i64 a, .int .i64 b]]) ⟨(by kernel_rfl), trivial⟩ (by kernel_rfl) (Ent.drop (Nat.le_of_ble_eq_true (by kernel_rfl)) (by first | (simp [frBel, blksBel, Blk.bel, AV.bel, bels, bels_append, bels_map, aSs_bel, aIs_bel, aBs_bel, aRs_bel, aDen_bel, cells_bel]; done) | (simp only [List.drop_zero, ← List.map_take, ← List.map_drop, List.map_map, frBel, blksBel, Blk.bel, AV.bel, bels, bels_append, bels_map, aSs_bel, aIs_bel, aBs_bel, aRs_bel, aDen_bel, cells_bel]; simp [AV.bel, aSs_bel, aIs_bel, aBs_bel, aRs_bel, aDen_bel, cells_bel])) (by first | (simp [frBel, blksBel, Blk.bel, AV.bel, bels, bels_append, bels_map, aSs_bel, aIs_bel, aBs_bel, aRs_bel, aDen_bel, cells_bel]; done) | (simp only [List.drop_zero, ← List.map_take, ← List.map_drop, List.map_map, frBel, blksBel, Blk.bel, AV.bel, bels, bels_append, bels_map, aSs_bel, aIs_bel, aBs_bel, aRs_bel, aDen_bel, cells_bel]; simp [AV.bel, aSs_bel, aIs_bel, aBs_bel, aRs_bel, aDen_bel, cells_bel]))) (by kernel_rfl) ?_
    rw [met2, if_pos hm, hix]
    exact ⟨rfl, rfl⟩
  · have hm : (a, b) ∉ L := fun h => hp (List.mem_map.2 ⟨_, h, rfl⟩)
    repeat first | refine opsStep ?_ | refine codeStep ?_ | refine drawStep ?_
    refine put_num mapPI (kv := pv2 (a, b)) (n := (dI (L.map pv2)).length) (by kernel_rfl) hlx hks hp (dI_length _) ?_
    repeat first | refine opsStep ?_ | refine codeStep ?_ | refine drawStep ?_
    refine finR (l := [(5, .int .i64 ((dI (L.map pv2)).length : Nat))]) (v := .int .i64 ((dI (L.map pv2)).length : Nat)) (H₁ := [.cells 0 d.cells, .dict (dI (L.map pv2 ++ [pv2 (a, b)])), .cells 0 [.mp 1], .cells 0 (x3.map (.int .i64))] ++ [.cells 0 [.int .i64 a, .int .i64 b]]) ⟨(by kernel_rfl), trivial⟩ (by kernel_rfl) (Ent.drop (Nat.le_of_ble_eq_true (by kernel_rfl)) (by first | (simp [frBel, blksBel, Blk.bel, AV.bel, bels, bels_append, bels_map, aSs_bel, aIs_bel, aBs_bel, aRs_bel, aDen_bel, cells_bel]; done) | (simp only [List.drop_zero, ← List.map_take, ← List.map_drop, List.map_map, frBel, blksBel, Blk.bel, AV.bel, bels, bels_append, bels_map, aSs_bel, aIs_bel, aBs_bel, aRs_bel, aDen_bel, cells_bel]; simp [AV.bel, aSs_bel, aIs_bel, aBs_bel, aRs_bel, aDen_bel, cells_bel])) (by first | (simp [frBel, blksBel, Blk.bel, AV.bel, bels, bels_append, bels_map, aSs_bel, aIs_bel, aBs_bel, aRs_bel, aDen_bel, cells_bel]; done) | (simp only [List.drop_zero, ← List.map_take, ← List.map_drop, List.map_map, frBel, blksBel, Blk.bel, AV.bel, bels, bels_append, bels_map, aSs_bel, aIs_bel, aBs_bel, aRs_bel, aDen_bel, cells_bel]; simp [AV.bel, aSs_bel, aIs_bel, aBs_bel, aRs_bel, aDen_bel, cells_bel]))) (by kernel_rfl) ?_
    rw [met2, if_neg hm, dI_length, List.length_map, List.idxOf_append, if_neg hm, List.map_append]
    exact ⟨by simp, rfl⟩

end Tab

/- The states told apart once more. -/
namespace Tab
open Go Go.Proofs
set_option maxRecDepth 10000
set_option linter.unusedVariables false
set_option linter.unusedSimpArgs false
set_option linter.unusedSectionVars false

/-- A row: the pairs met and the number, ahead of the letter a. -/
def rowN (cls : List Int) (r : List Int) (L : List (Int × Int)) (n : Nat) : Nat → List (Int × Int) × Nat
  | 0 => (L, n)
  | a + 1 =>
    let x := rowN cls r L n a
    let p : Int × Int := ((x.2 : Int) * (r.length + 1) + a, cls.getD (r.getD a 0).toNat 0)
    (met2 x.1 p, (met2 x.1 p).idxOf p)
theorem met2_length (L p) : (met2 L p).length ≤ L.length + 1 := by rw [met2]; split <;> simp
theorem met2_mem (L p) : p ∈ met2 L p := by rw [met2]; split <;> simp_all
theorem met2_idx (L p) : (met2 L p).idxOf p ≤ L.length := by
  have := List.idxOf_lt_length_of_mem (met2_mem L p)
  have := met2_length L p
  omega
theorem rowN_bound (cls r L) (n : Nat) : ∀ a, (rowN cls r L n a).1.length ≤ L.length + a ∧ (rowN cls r L n a).2 ≤ max n (L.length + a)
  | 0 => ⟨Nat.le_refl _, Nat.le_max_left _ _⟩
  | a + 1 => by
    obtain ⟨h1, h2⟩ := rowN_bound cls r L n a
    simp only [rowN]
    have := met2_length (rowN cls r L n a).1 (((rowN cls r L n a).2 : Int) * (r.length + 1) + a, cls.getD (r.getD a 0).toNat 0)
    have := met2_idx (rowN cls r L n a).1 (((rowN cls r L n a).2 : Int) * (r.length + 1) + a, cls.getD (r.getD a 0).toNat 0)
    constructor <;> omega
theorem met2_nodup {L p} (h : List.Nodup L) : (met2 L p).Nodup := by
  rw [met2]
  split
  · exact h
  · rename_i hx
    exact List.nodup_append.2 ⟨h, by simp, by intro a ha b hb e; simp only [List.mem_singleton] at hb; subst hb; subst e; exact hx ha⟩
theorem rowN_nodup (cls r L) (n : Nat) (h : List.Nodup L) : ∀ a, (rowN cls r L n a).1.Nodup
  | 0 => h
  | a + 1 => by simp only [rowN]; exact met2_nodup (rowN_nodup cls r L n h a)

theorem ok2_mk {a b : Int} (h1 : -(2^63) ≤ a) (h2 : a < 2^63) (h3 : -(2^63) ≤ b) (h4 : b < 2^63) : ok2 (a, b) := ⟨⟨h1, h2⟩, ⟨h3, h4⟩⟩
theorem rowN_ok {cls r : List Int} (hc : ∀ v ∈ cls, 0 ≤ v ∧ v ≤ 300) (hr : r.length ≤ 64) {L : List (Int × Int)} {n : Nat} (hL : ∀ p ∈ L, ok2 p) (hl : L.length ≤ 2^30) (hn : n ≤ 2^30) : ∀ a, a ≤ r.length → ∀ p ∈ (rowN cls r L n a).1, ok2 p
  | 0, _ => hL
  | a + 1, ha => by
    have ih := rowN_ok hc hr hL hl hn a (by omega)
    have hb := (rowN_bound cls r L n a).2
    simp only [rowN]
    intro p hp
    rw [met2] at hp
    have : p ∈ (rowN cls r L n a).1 ∨ p = (((rowN cls r L n a).2 : Int) * (r.length + 1) + a, cls.getD (r.getD a 0).toNat 0) := by
      split at hp
      · exact .inl hp
      · simpa using hp
    rcases this with h | h
    · exact ih p h
    · subst h
      have h2 : ((rowN cls r L n a).2 : Int) * (r.length + 1) ≤ 2^31 * 65 := Int.mul_le_mul (by omega) (by omega) (by omega) (by omega)
      have h3 : 0 ≤ ((rowN cls r L n a).2 : Int) * (r.length + 1) := Int.mul_nonneg (by omega) (by omega)
      refine ok2_mk (by omega) (by omega) ?_ ?_
      all_goals
       simp only [List.getD_eq_getElem?_getD]
       cases e : cls[(r[a]?.getD 0).toNat]? with
       | none => simp
       | some v => have := hc v (List.mem_of_getElem? e); simp only [Option.getD_some]; omega

/-- The pairs met ahead of the row q, and the row's number. -/
def spL (cls : List Int) (rows : List (List Int)) : Nat → List (Int × Int)
  | 0 => []
  | q + 1 => (rowN cls (rows.getD q []) (spL cls rows q) (cls.getD q 0).toNat (rows.getD q []).length).1
def spV (cls : List Int) (rows : List (List Int)) (q : Nat) : Nat := (rowN cls (rows.getD q []) (spL cls rows q) (cls.getD q 0).toNat (rows.getD q []).length).2
def spN (cls : List Int) (rows : List (List Int)) : List Int := (List.range rows.length).map fun q => (spV cls rows q : Int)

theorem cls_le {cls : List Int} (hc : ∀ v ∈ cls, 0 ≤ v ∧ v ≤ 300) (q : Nat) : (cls.getD q 0).toNat ≤ 300 ∧ 0 ≤ cls.getD q 0 := by
  simp only [List.getD_eq_getElem?_getD]
  cases e : cls[q]? with
  | none => simp
  | some v => have := hc v (List.mem_of_getElem? e); simp only [Option.getD_some]; omega
theorem spL_ok {cls : List Int} {rows : List (List Int)} (hc : ∀ v ∈ cls, 0 ≤ v ∧ v ≤ 300) (hr : ∀ r ∈ rows, r.length ≤ 64) : ∀ q, q ≤ rows.length → rows.length ≤ 256 → (spL cls rows q).length ≤ q * 64 ∧ (spL cls rows q).Nodup ∧ ∀ p ∈ spL cls rows q, ok2 p
  | 0, _, _ => ⟨Nat.zero_le _, List.nodup_nil, by simp [spL]⟩
  | q + 1, hq, h256 => by
    obtain ⟨h1, h2, h3⟩ := spL_ok hc hr q (by omega) h256
    have hg : rows.getD q [] ∈ rows := by simp [List.getD_eq_getElem?_getD, show q < rows.length by omega]
    have hrl := hr _ hg
    have hcl := (cls_le hc q).1
    have hb := (rowN_bound cls (rows.getD q []) (spL cls rows q) (cls.getD q 0).toNat (rows.getD q []).length).1
    refine ⟨by rw [spL]; omega, rowN_nodup _ _ _ _ h2 _, ?_⟩
    rw [spL]
    exact rowN_ok hc hrl h3 (by omega) (by omega) _ (Nat.le_refl _)

theorem canon_split (k : SK) (d : Den) (hd : DenOk d) (hr : rightS d = true) (cls : List Int) (hl : cls.length = d.accept.length) (hc : ∀ v ∈ cls, 0 ≤ v ∧ v ≤ 300) :
    Pure Try.prog 146 [aDen d, aIs k cls] (.tup [aIs .any (denL (spN cls d.rows)), .int .i64 ((metL [] (spN cls d.rows)).length : Nat)]) := by
  obtain ⟨g1, g2, g3⟩ := rightS_parts hr
  obtain ⟨j1, j2, j3, j4⟩ := tracksS_parts g1
  have hrl : d.rows.length = cls.length := by simp [Den.rows]; omega
  have hn := hd.next
  have hrow : ∀ r ∈ d.rows, r.length ≤ 64 := fun r h => by rw [rows_len hr r h]; exact by have : 2 ^ d.tracks.length ≤ 2 ^ 6 := Nat.pow_le_pow_right (by omega) j1; omega
  have hsp := fun q (h : q ≤ d.rows.length) => spL_ok hc hrow q h (by omega)
  refine Pure.of_sw 61 Try.func146 rfl Try.ntmps146 (by kernel_rfl) (Nat.le_of_ble_eq_true (by kernel_rfl)) (by simp [closeds, AV.closed, aSs_closed, aIs_closed, aBs_closed, aRs_closed, aDen_closed]) (by simp [AV.closed, closeds, aSs_closed, aIs_closed, aBs_closed, aRs_closed, aDen_closed]) ?_; refine SW.of_vc ?_
  repeat first | refine opsStep ?_ | refine codeStep ?_ | refine drawStep ?_
  refine guardE_of ⟨by omega, by omega, by show (8 : Int) * (cls.length : Int) ≤ 281474976710656; omega, by omega⟩ ?_
  repeat first | refine opsStep ?_ | refine codeStep ?_ | refine drawStep ?_
  refine loopE_of (ι := {q : Nat // q ≤ cls.length})
    (fun q => (fr [(1, aIs k cls), (2, .ref 0 0 0), (7, .fn (.func 168) [] [.ref 2 0 0]), (8, .hs 3 0 0 cls.length 1), (20, aRs d.nk d.next), (21, .int .i64 d.next.length), (22, .int .i64 q.1)], [Blk.cells 0 d.cells, .dict (dI ((spL cls d.rows q.1).map pv2)), .cells 0 [.mp 1], .cells 0 ((partL (fun j => (spV cls d.rows j : Int)) cls.length (q.1)).map (.int .i64))]))
    (fun q => cls.length - q.1) ⟨0, by omega⟩ (Ent.fr' ⟨(by kernel_rfl), (by kernel_rfl), (by kernel_rfl), (by kernel_rfl), (by kernel_rfl), (by kernel_rfl), (by kernel_rfl), trivial⟩ ?_) ?_
  · refine Eq.trans (b := [.cells 0 d.cells, .dict [], .cells 0 [.mp 1], Blk.cells 0 (reps [.int .i64 0] cls.length)]) (by kernel_rfl) ?_
    rw [reps_one, partL_zero]; simp [spL, dI_nil]
  rintro ⟨q, hq⟩
  obtain ⟨m1, m2, m3⟩ := hsp q (by omega)
  have hpl := partL_length (fun j => (spV cls d.rows j : Int)) cls.length q
  repeat first | refine opsStep ?_ | refine codeStep ?_ | refine drawStep ?_
  refine decB_dec (fun h => ?_) (fun h => ?_)
  · have hqn : q < d.next.length := by have := h; simp at this; omega
    have hrw : d.rows.getD q [] = (d.next[q]).2 := by simp [Den.rows, List.getD_eq_getElem?_getD, hqn]
    have hlen := (rowOk_parts (g3 _ (List.getElem_mem hqn))).1
    have hval := (rowOk_parts (g3 _ (List.getElem_mem hqn))).2
    have h64 : (d.next[q]).2.length ≤ 64 := by rw [← hrw]; exact hrow _ (by rw [hrw]; exact List.mem_map.2 ⟨_, List.getElem_mem hqn, rfl⟩)
    have hcq := cls_le hc q
    have e1 : spL cls d.rows (q + 1) = (rowN cls (d.next[q]).2 (spL cls d.rows q) (cls.getD q 0).toNat (d.next[q]).2.length).1 := by rw [spL, hrw]
    have e2 : spV cls d.rows q = (rowN cls (d.next[q]).2 (spL cls d.rows q) (cls.getD q 0).toNat (d.next[q]).2.length).2 := by rw [spV, hrw]
    generalize hLe : spL cls d.rows q = L at *
    repeat first | refine opsStep ?_ | refine codeStep ?_ | refine drawStep ?_
    refine guardE_of (by simp; omega) ?_
    repeat first | refine opsStep ?_ | refine codeStep ?_ | refine drawStep ?_
    refine optE_of (c := aIs (d.next[q]).1 (d.next[q]).2) (by simp [Value.cells, hqn]) ?_
    repeat first | refine opsStep ?_ | refine codeStep ?_ | refine drawStep ?_
    refine guardE_of (by simp; omega) ?_
    repeat first | refine opsStep ?_ | refine codeStep ?_ | refine drawStep ?_
    refine optE_of (c := .int .i64 ((cls.getD q 0).toNat : Nat)) ?_ ?_
    · simp [Value.cells, List.getD_eq_getElem?_getD, show q < cls.length by omega]
      have := hcq.2
      simp [List.getD_eq_getElem?_getD, show q < cls.length by omega] at this
      omega
    repeat first | refine opsStep ?_ | refine codeStep ?_ | refine drawStep ?_
    generalize hre : d.next[q] = r at *
    refine loopE_of (ι := {a : Nat // a ≤ r.2.length})
      (fun a => (fr [(1, aIs k cls), (2, .ref 0 0 0), (7, .fn (.func 168) [] [.ref 2 0 0]), (8, .hs 3 0 0 cls.length 1), (9, .int .i64 q), (10, aIs r.1 r.2), (11, .int .i64 ((rowN cls r.2 L (cls.getD q 0).toNat a.1).2 : Nat)), (20, aRs d.nk d.next), (21, .int .i64 d.next.length), (22, .int .i64 q), (31, aIs r.1 r.2), (32, .int .i64 r.2.length), (33, .int .i64 a.1)], [Blk.cells 0 d.cells, .dict (dI (((rowN cls r.2 L (cls.getD q 0).toNat a.1).1).map pv2)), .cells 0 [.mp 1], .cells 0 ((partL (fun j => (spV cls d.rows j : Int)) cls.length (q)).map (.int .i64))]))
      (fun a => r.2.length - a.1) ⟨0, by omega⟩ (Ent.fr' ⟨(by kernel_rfl), (by kernel_rfl), (by kernel_rfl), (by kernel_rfl), (by kernel_rfl), (by kernel_rfl), (by kernel_rfl), (by kernel_rfl), (by kernel_rfl), (by kernel_rfl), (by kernel_rfl), (by kernel_rfl), (by kernel_rfl), trivial⟩ (by kernel_rfl)) ?_
    rintro ⟨a, ha⟩
    have hb := rowN_bound cls r.2 L (cls.getD q 0).toNat a
    have hnd := rowN_nodup cls r.2 L (cls.getD q 0).toNat m2 a
    have hok := rowN_ok hc h64 m3 (by omega) (by omega) (n := (cls.getD q 0).toNat) a ha
    repeat first | refine opsStep ?_ | refine codeStep ?_ | refine drawStep ?_
    refine decB_dec (fun h => ?_) (fun h => ?_)
    · have hal : a < r.2.length := by have := h; simp at this; omega
      have hv := hval _ (List.getElem_mem hal)
      have e3 : rowN cls r.2 L (cls.getD q 0).toNat (a + 1) = (met2 (rowN cls r.2 L (cls.getD q 0).toNat a).1 (((rowN cls r.2 L (cls.getD q 0).toNat a).2 : Int) * (r.2.length + 1) + a, cls.getD (r.2.getD a 0).toNat 0), (met2 (rowN cls r.2 L (cls.getD q 0).toNat a).1 (((rowN cls r.2 L (cls.getD q 0).toNat a).2 : Int) * (r.2.length + 1) + a, cls.getD (r.2.getD a 0).toNat 0)).idxOf (((rowN cls r.2 L (cls.getD q 0).toNat a).2 : Int) * (r.2.length + 1) + a, cls.getD (r.2.getD a 0).toNat 0)) := rfl
      generalize rowN cls r.2 L (cls.getD q 0).toNat a = x at *
      obtain ⟨xl, xn⟩ := x
      simp only at hb hnd hok e3
      have ga : r.2.getD a 0 = r.2[a] := by simp [List.getD_eq_getElem?_getD, hal]
      rw [ga] at e3
      have hct := cls_le hc (r.2[a]).toNat
      have w1 : IntKind.wrap .i64 ((r.2.length : Int) + 1) = r.2.length + 1 := IntWalk.i64_in _ (by omega)
      have u1 : (xn : Int) * ((r.2.length : Int) + 1) ≤ 2^31 * 65 := Int.mul_le_mul (by omega) (by omega) (by omega) (by omega)
      have u2 : 0 ≤ (xn : Int) * ((r.2.length : Int) + 1) := Int.mul_nonneg (by omega) (by omega)
      have w2 : IntKind.wrap .i64 ((xn : Int) * ((r.2.length : Int) + 1)) = (xn : Int) * (r.2.length + 1) := IntWalk.i64_in _ (by omega)
      have w3 : IntKind.wrap .i64 ((xn : Int) * ((r.2.length : Int) + 1) + (a : Int)) = (xn : Int) * (r.2.length + 1) + a := IntWalk.i64_in _ (by omega)
      have hcall := canon_split1 ((xn : Int) * (r.2.length + 1) + a) (cls.getD (r.2[a]).toNat 0) xl d (partL (fun j => (spV cls d.rows j : Int)) cls.length q) hnd (by omega) hok (ok2_mk (by omega) (by omega) (by omega) (by omega))
      repeat first | refine opsStep ?_ | refine codeStep ?_ | refine drawStep ?_
      refine guardE_of (by simp; omega) ?_
      repeat first | refine opsStep ?_ | refine codeStep ?_ | refine drawStep ?_
      refine optE_of (c := .int .i64 r.2[a]) (by simp [Value.cells, hal]) ?_
      repeat first | refine opsStep ?_ | refine codeStep ?_ | refine drawStep ?_
      refine guardE_of (by omega) ?_
      repeat first | refine opsStep ?_ | refine codeStep ?_ | refine drawStep ?_
      refine optE_of (c := .int .i64 (cls.getD (r.2[a]).toNat 0)) (by simp [Value.cells, List.getD_eq_getElem?_getD, show (r.2[a]).toNat < cls.length by omega]) ?_
      rw [w1, w2, w3]
      repeat first | refine opsStep ?_ | refine codeStep ?_ | refine drawStep ?_
      refine callH hcall ?_
      repeat first | refine opsStep ?_ | refine codeStep ?_ | refine drawStep ?_
      refine ⟨⟨a + 1, by omega⟩, (by show r.2.length - (a + 1) < r.2.length - a; omega), Ent.fr' ⟨(by kernel_rfl), (by kernel_rfl), (by kernel_rfl), (by kernel_rfl), (by kernel_rfl), (by kernel_rfl), ?_, (by kernel_rfl), (by kernel_rfl), (by kernel_rfl), (by kernel_rfl), (by kernel_rfl), inc_slot (i := a) (by omega), trivial⟩ ?_⟩
      · show AV.int .i64 _ = AV.int .i64 ((rowN cls r.2 L (cls.getD q 0).toNat (a + 1)).2 : Nat)
        rw [e3]
      · refine Eq.trans (b := [Blk.cells 0 d.cells, .dict (dI ((met2 xl ((xn : Int) * (r.2.length + 1) + a, cls.getD (r.2[a]).toNat 0)).map pv2)), .cells 0 [.mp 1], .cells 0 ((partL (fun j => (spV cls d.rows j : Int)) cls.length (q)).map (.int .i64))]) (by kernel_rfl) ?_
        show _ = [Blk.cells 0 d.cells, .dict (dI (((rowN cls r.2 L (cls.getD q 0).toNat (a + 1)).1).map pv2)), .cells 0 [.mp 1], .cells 0 ((partL (fun j => (spV cls d.rows j : Int)) cls.length (q)).map (.int .i64))]
        rw [e3]
    · have hal : a = r.2.length := by have := h; simp at this; omega
      subst hal
      rw [← e1, ← e2]
      repeat first | refine opsStep ?_ | refine codeStep ?_ | refine drawStep ?_
      refine guardE_of (by simp; omega) ?_
      repeat first | refine opsStep ?_ | refine codeStep ?_ | refine drawStep ?_
      refine guardE_of ⟨rfl, by decide, by show 0 + q * 1 + 1 ≤ ((partL (fun j => (spV cls d.rows j : Int)) cls.length q).map (AV.int .i64)).length; rw [List.length_map, hpl]; omega⟩ ?_
      repeat first | refine opsStep ?_ | refine codeStep ?_ | refine drawStep ?_
      refine ⟨⟨q + 1, by omega⟩, (by show cls.length - (q + 1) < cls.length - q; omega), Ent.fr' ⟨(by kernel_rfl), (by kernel_rfl), (by kernel_rfl), (by kernel_rfl), (by kernel_rfl), (by kernel_rfl), inc_slot (i := q) (by omega), trivial⟩ ?_⟩
      refine Eq.trans (b := [.cells 0 d.cells, .dict (dI ((spL cls d.rows (q + 1)).map pv2)), .cells 0 [.mp 1], .cells 0 (over ((partL (fun j => (spV cls d.rows j : Int)) cls.length q).map (AV.int .i64)) (0 + q * 1) [.int .i64 (spV cls d.rows q : Nat)])]) (by kernel_rfl) ?_
      rw [Nat.zero_add, Nat.mul_one, over_one (by rw [List.length_map, hpl]; omega)]
      show _ = [Blk.cells 0 d.cells, .dict (dI ((spL cls d.rows (q + 1)).map pv2)), .cells 0 [.mp 1], .cells 0 ((partL (fun j => (spV cls d.rows j : Int)) cls.length (q + 1)).map (.int .i64))]
      rw [← partL_step, List.map_set]
  · have hqn : q = cls.length := by have := h; simp at this; omega
    subst hqn
    have hdn := canon_dense .any (spN cls d.rows) (by simp [spN]; omega) (fun v hv => ?_)
    rotate_left
    · obtain ⟨i, hi, rfl⟩ := List.mem_map.1 hv
      have hi := List.mem_range.1 hi
      have hb := (rowN_bound cls (d.rows.getD i []) (spL cls d.rows i) (cls.getD i 0).toNat (d.rows.getD i []).length).2
      have h64 := hrow _ (show d.rows.getD i [] ∈ d.rows by simp [List.getD_eq_getElem?_getD, hi])
      have := (hsp i (by omega)).1
      have := (cls_le hc i).1
      simp only [spV]
      omega
    have hsl : aIs .any (spN cls d.rows) = .sl .any cls.length ((partL (fun j => (spV cls d.rows j : Int)) cls.length cls.length).map (.int .i64)) := by
      rw [aIs, partL_full, spN, hrl]; simp
    rw [hsl] at hdn
    have hfit : cls.length * 1 = ((partL (fun j => (spV cls d.rows j : Int)) cls.length cls.length).map (AV.int .i64)).length := by rw [List.length_map, partL_length]; omega
    generalize (partL (fun j => (spV cls d.rows j : Int)) cls.length cls.length).map (AV.int .i64) = cs at *
    repeat first | refine opsStep ?_ | refine codeStep ?_ | refine drawStep ?_
    refine callZ 3 (g := 0) (cs := cs) (by kernel_rfl) hdn (.hs (b := 3) (g := 0) (by kernel_rfl) hfit .nil) ?_
    repeat first | refine opsStep ?_ | refine codeStep ?_ | refine drawStep ?_
    exact finV (v' := .tup [aIs .any (denL (spN cls d.rows)), .int .i64 ((metL [] (spN cls d.rows)).length : Nat)]) (by kernel_rfl) rfl

end Tab

/- Which states are alike: the plain law of split and classes. -/
namespace Tab
open Go Go.Proofs
set_option maxRecDepth 10000
set_option linter.unusedVariables false
set_option linter.unusedSimpArgs false
set_option linter.unusedSectionVars false

/-! ### split tells apart -/

theorem met2_prefix (L : List (Int × Int)) (p) : ∃ r, met2 L p = L ++ r := by
  rw [met2]; split
  · exact ⟨[], by simp⟩
  · exact ⟨[p], rfl⟩
theorem rowN_prefix (cls r L) (n : Nat) : ∀ a, ∃ s, (rowN cls r L n a).1 = L ++ s
  | 0 => ⟨[], by simp [rowN]⟩
  | a + 1 => by
    obtain ⟨s, hs⟩ := rowN_prefix cls r L n a
    simp only [rowN]
    obtain ⟨t, ht⟩ := met2_prefix (rowN cls r L n a).1 (((rowN cls r L n a).2 : Int) * (r.length + 1) + a, cls.getD (r.getD a 0).toNat 0)
    exact ⟨s ++ t, by rw [ht, hs, List.append_assoc]⟩
theorem rowN_le (cls r L) (n : Nat) (a : Nat) : ∀ b, ∃ s, (rowN cls r L n (a + b)).1 = (rowN cls r L n a).1 ++ s
  | 0 => ⟨[], by simp⟩
  | b + 1 => by
    obtain ⟨s, hs⟩ := rowN_le cls r L n a b
    rw [← Nat.add_assoc]
    simp only [rowN]
    obtain ⟨t, ht⟩ := met2_prefix (rowN cls r L n (a + b)).1 (((rowN cls r L n (a + b)).2 : Int) * (r.length + 1) + (a + b : Nat), cls.getD (r.getD (a + b) 0).toNat 0)
    exact ⟨s ++ t, by rw [ht, hs, List.append_assoc]⟩
theorem spL_le (cls rows) (q : Nat) : ∀ b, ∃ s, spL cls rows (q + b) = spL cls rows q ++ s
  | 0 => ⟨[], by simp⟩
  | b + 1 => by
    obtain ⟨s, hs⟩ := spL_le cls rows q b
    rw [← Nat.add_assoc, spL]
    obtain ⟨t, ht⟩ := rowN_prefix cls (rows.getD (q + b) []) (spL cls rows (q + b)) (cls.getD (q + b) 0).toNat (rows.getD (q + b) []).length
    exact ⟨s ++ t, by rw [ht, hs, List.append_assoc]⟩

/-- The number of a row ahead of the letter a is the place of its pair among all pairs. -/
theorem rowN_at {cls r L} {n : Nat} {P : List (Int × Int)} {a : Nat} (h : ∃ s, P = (rowN cls r L n (a + 1)).1 ++ s) :
    (((rowN cls r L n a).2 : Int) * (r.length + 1) + a, cls.getD (r.getD a 0).toNat 0) ∈ P ∧ (rowN cls r L n (a + 1)).2 = P.idxOf (((rowN cls r L n a).2 : Int) * (r.length + 1) + a, cls.getD (r.getD a 0).toNat 0) := by
  obtain ⟨s, rfl⟩ := h
  simp only [rowN]
  have hm := met2_mem (rowN cls r L n a).1 (((rowN cls r L n a).2 : Int) * (r.length + 1) + a, cls.getD (r.getD a 0).toNat 0)
  exact ⟨List.mem_append.2 (.inl hm), by rw [List.idxOf_append, if_pos hm]⟩

theorem idx_inj' {α : Type} [BEq α] [LawfulBEq α] {l : List α} {a b : α} (ha : a ∈ l) (hb : b ∈ l) (h : l.idxOf a = l.idxOf b) : a = b := by
  have h1 := List.getElem_idxOf (List.idxOf_lt_length_of_mem ha)
  have h2 := List.getElem_idxOf (List.idxOf_lt_length_of_mem hb)
  rw [← h1, ← h2]
  simp only [h]

theorem rowN_inj {cls r r'} {L L' P : List (Int × Int)} {n n' : Nat} (hk : r.length = r'.length) : ∀ a, (∃ s, P = (rowN cls r L n a).1 ++ s) → (∃ s, P = (rowN cls r' L' n' a).1 ++ s) →
    ((rowN cls r L n a).2 = (rowN cls r' L' n' a).2 ↔ n = n' ∧ ∀ b, b < a → cls.getD (r.getD b 0).toNat 0 = cls.getD (r'.getD b 0).toNat 0)
  | 0, _, _ => by simp [rowN]
  | a + 1, h, h' => by
    obtain ⟨s, hs⟩ := h
    obtain ⟨s', hs'⟩ := h'
    obtain ⟨u, hu⟩ := rowN_le cls r L n a 1
    obtain ⟨u', hu'⟩ := rowN_le cls r' L' n' a 1
    have ih := rowN_inj (P := P) (L := L) (L' := L') (n := n) (n' := n') (cls := cls) hk a ⟨u ++ s, by rw [← List.append_assoc, ← hu]; exact hs⟩ ⟨u' ++ s', by rw [← List.append_assoc, ← hu']; exact hs'⟩
    obtain ⟨m1, e1⟩ := rowN_at (P := P) ⟨s, hs⟩
    obtain ⟨m2, e2⟩ := rowN_at (P := P) ⟨s', hs'⟩
    constructor
    · intro h
      rw [e1, e2] at h
      have he := idx_inj' m1 m2 h
      simp only [Prod.mk.injEq] at he
      rw [hk] at he
      have hx : ((rowN cls r L n a).2 : Int) * (r'.length + 1) = ((rowN cls r' L' n' a).2 : Int) * (r'.length + 1) := by omega
      have hx := Int.eq_of_mul_eq_mul_right (by omega) hx
      obtain ⟨k1, k2⟩ := ih.1 (by omega)
      refine ⟨k1, fun b hb => ?_⟩
      by_cases e : b = a
      · subst e; exact he.2
      · exact k2 b (by omega)
    · rintro ⟨h1, h2⟩
      rw [e1, e2, ih.2 ⟨h1, fun b hb => h2 b (by omega)⟩, h2 a (by omega), hk]

theorem spV_iff {cls : List Int} {rows : List (List Int)} {p q K : Nat} (hp : p < rows.length) (hq : q < rows.length) (hk : ∀ r ∈ rows, r.length = K) (h0 : 0 ≤ cls.getD p 0) (h1 : 0 ≤ cls.getD q 0) :
    spV cls rows p = spV cls rows q ↔ cls.getD p 0 = cls.getD q 0 ∧ ∀ a, a < K → cls.getD (stepN rows p a) 0 = cls.getD (stepN rows q a) 0 := by
  have gp : rows.getD p [] ∈ rows := by simp [List.getD_eq_getElem?_getD, hp]
  have gq : rows.getD q [] ∈ rows := by simp [List.getD_eq_getElem?_getD, hq]
  have kp := hk _ gp
  have kq := hk _ gq
  have pre : ∀ x, x < rows.length → ∃ s, spL cls rows rows.length = (rowN cls (rows.getD x []) (spL cls rows x) (cls.getD x 0).toNat (rows.getD x []).length).1 ++ s := fun x hx => by
    obtain ⟨s, hs⟩ := spL_le cls rows (x + 1) (rows.length - (x + 1))
    rw [show x + 1 + (rows.length - (x + 1)) = rows.length by omega] at hs
    exact ⟨s, by rw [hs, spL]⟩
  have a1 := pre p hp
  have a2 := pre q hq
  rw [kp] at a1
  rw [kq] at a2
  rw [spV, spV, kp, kq, rowN_inj (P := spL cls rows rows.length) (by rw [kp, kq]) K a1 a2]
  simp only [stepN]
  constructor
  · rintro ⟨h, k⟩; exact ⟨by omega, k⟩
  · rintro ⟨h, k⟩; exact ⟨by rw [h], k⟩

theorem denL_length (l) : (denL l).length = l.length := by simp [denL]
theorem denL_iff {l : List Int} {i j : Nat} (hi : i < l.length) (hj : j < l.length) : (denL l).getD i 0 = (denL l).getD j 0 ↔ l.getD i 0 = l.getD j 0 := by
  have hm : ∀ x, x < l.length → l.getD x 0 ∈ metL [] l := fun x hx => (metL_mem _ _ _).2 (.inr (by simp [List.getD_eq_getElem?_getD, hx]))
  have e : ∀ x, x < l.length → (denL l).getD x 0 = ((metL [] l).idxOf (l.getD x 0) : Int) := fun x hx => by
    rw [List.getD_eq_getElem?_getD, denL, List.getElem?_map, List.getElem?_range hx]; rfl
  rw [e i hi, e j hj]
  constructor
  · intro h
    exact idx_inj' (hm i hi) (hm j hj) (by omega)
  · intro h; rw [h]
theorem denL_range {l : List Int} {v : Int} (h : v ∈ denL l) : 0 ≤ v ∧ v < l.length := by
  obtain ⟨i, hi, rfl⟩ := List.mem_map.1 h
  have hi := List.mem_range.1 hi
  have hm : l.getD i 0 ∈ metL [] l := (metL_mem _ _ _).2 (.inr (by simp [List.getD_eq_getElem?_getD, hi]))
  have h1 := List.idxOf_lt_length_of_mem hm
  have h2 := metL_len l []
  simp only [List.length_nil] at h2
  omega

/-! ### How many there are -/

theorem nodup_sub {α : Type} [DecidableEq α] : ∀ {a b : List α}, a.Nodup → (∀ x ∈ a, x ∈ b) → a.length ≤ b.length
  | [], _, _, _ => Nat.zero_le _
  | x :: a, b, hn, h => by
    have hx := h x (by simp)
    obtain ⟨h1, h2⟩ := List.nodup_cons.1 hn
    have := nodup_sub (a := a) (b := b.erase x) h2 fun y hy => (List.mem_erase_of_ne (fun e : y = x => h1 (e ▸ hy))).2 (h y (by simp [hy]))
    rw [List.length_erase_of_mem hx] at this
    have : 0 < b.length := List.length_pos_of_mem hx
    simp only [List.length_cons]
    omega

abbrev disN (l : List Int) : Nat := (metL [] l).length
theorem dis_le (l : List Int) : disN l ≤ l.length := by have := metL_len l []; simpa using this
theorem dis_pos {l : List Int} (h : 0 < l.length) : 0 < disN l := by
  cases l with
  | nil => simp at h
  | cons x l => exact List.length_pos_of_mem ((metL_mem x (x :: l) []).2 (.inr (by simp)))

theorem dis_refine {l m : List Int} (hl : l.length = m.length) (h : ∀ i j, i < l.length → j < l.length → m.getD i 0 = m.getD j 0 → l.getD i 0 = l.getD j 0) :
    disN l ≤ disN m ∧ (disN l = disN m → ∀ i j, i < l.length → j < l.length → l.getD i 0 = l.getD j 0 → m.getD i 0 = m.getD j 0) := by
  let g : Int → Int := fun x => l.getD (m.idxOf x) 0
  have hg : ∀ i, i < l.length → g (m.getD i 0) = l.getD i 0 := fun i hi => by
    have hm : m.getD i 0 ∈ m := by simp [List.getD_eq_getElem?_getD, ← hl, hi]
    have h1 := List.idxOf_lt_length_of_mem hm
    refine h _ _ (by omega) hi ?_
    rw [List.getD_eq_getElem?_getD, List.getElem?_eq_getElem h1, List.getElem_idxOf]; rfl
  have mem : ∀ x, x ∈ metL [] l → ∃ i, i < l.length ∧ l.getD i 0 = x := fun x hx => by
    have := (metL_mem x l []).1 hx
    simp only [List.not_mem_nil, false_or] at this
    obtain ⟨i, hi, rfl⟩ := List.getElem_of_mem this
    exact ⟨i, hi, by simp [List.getD_eq_getElem?_getD, hi]⟩
  have memm : ∀ i, i < l.length → m.getD i 0 ∈ metL [] m := fun i hi => (metL_mem _ _ _).2 (.inr (by simp [List.getD_eq_getElem?_getD, ← hl, hi]))
  have hn := metL_nodup l [] List.nodup_nil
  have hnm := metL_nodup m [] List.nodup_nil
  refine ⟨?_, fun he i j hi hj hij => ?_⟩
  · have := nodup_sub (b := (metL [] m).map g) hn fun x hx => by
      obtain ⟨i, hi, rfl⟩ := mem x hx
      exact List.mem_map.2 ⟨m.getD i 0, memm i hi, hg i hi⟩
    simpa using this
  · refine Classical.byContradiction fun hne => ?_
    have := nodup_sub (b := ((metL [] m).erase (m.getD i 0)).map g) hn fun x hx => by
      obtain ⟨k, hk, rfl⟩ := mem x hx
      by_cases hki : m.getD k 0 = m.getD i 0
      · refine List.mem_map.2 ⟨m.getD j 0, (List.mem_erase_of_ne (fun e => hne e.symm)).2 (memm j hj), ?_⟩
        rw [hg j hj, ← hij, ← hg i hi, ← hki, hg k hk]
      · exact List.mem_map.2 ⟨m.getD k 0, (List.mem_erase_of_ne hki).2 (memm k hk), hg k hk⟩
    rw [List.length_map, List.length_erase_of_mem (memm i hi)] at this
    have hp : 0 < (metL [] m).length := List.length_pos_of_mem (memm i hi)
    simp only [disN] at he
    omega

/-! ### classes -/

/-- States told apart, again and again, until their number stays. -/
def clsL (rows : List (List Int)) : Nat → List Int → Nat → List Int
  | 0, cls, _ => cls
  | f + 1, cls, c => if disN (spN cls rows) = c then denL (spN cls rows) else clsL rows f (denL (spN cls rows)) (disN (spN cls rows))
def cls0 (acc : List Bool) : List Int := acc.map fun b => if b then 1 else 0
def clsD (d : Den) : List Int := clsL d.rows (d.accept.length + 1) (cls0 d.accept) 0

theorem dis_den (l : List Int) : disN (denL l) = disN l := by
  have h := fun i j (hi : i < l.length) (hj : j < l.length) => denL_iff (l := l) hi hj
  have h1 := (dis_refine (l := denL l) (m := l) (denL_length l) fun i j hi hj e => (h i j (by rwa [denL_length] at hi) (by rwa [denL_length] at hj)).2 e).1
  have h2 := (dis_refine (l := l) (m := denL l) (denL_length l).symm fun i j hi hj e => (h i j hi hj).1 e).1
  omega

/-- Letters of a word. -/
abbrev Lets (k : Nat) (w : List Nat) : Prop := ∀ a ∈ w, a < 2 ^ k
def accN (acc : List Bool) (q : Nat) : Bool := acc.getD q false
/-- Are two states alike? -/
def Alike (d : Den) (p q : Nat) : Prop := ∀ w, Lets d.tracks.length w → accN d.accept (runN d.rows p w) = accN d.accept (runN d.rows q w)

structure ClsInv (d : Den) (cls : List Int) : Prop where
  len : cls.length = d.accept.length
  rng : ∀ v ∈ cls, 0 ≤ v ∧ v ≤ 300
  acc : ∀ p q, p < d.accept.length → q < d.accept.length → cls.getD p 0 = cls.getD q 0 → accN d.accept p = accN d.accept q
  apart : ∀ p q, p < d.accept.length → q < d.accept.length → cls.getD p 0 ≠ cls.getD q 0 → ∃ w, Lets d.tracks.length w ∧ accN d.accept (runN d.rows p w) ≠ accN d.accept (runN d.rows q w)

theorem cls_nonneg {d : Den} {cls : List Int} (h : ClsInv d cls) (q : Nat) : 0 ≤ cls.getD q 0 := (cls_le h.rng q).2
theorem rows_length {d : Den} (hr : rightS d = true) : d.rows.length = d.accept.length := by
  obtain ⟨_, h2, _⟩ := rightS_parts hr
  simp [Den.rows, h2]
theorem sp_iff {d : Den} (hr : rightS d = true) {cls : List Int} (h : ClsInv d cls) {p q : Nat} (hp : p < d.accept.length) (hq : q < d.accept.length) :
    (denL (spN cls d.rows)).getD p 0 = (denL (spN cls d.rows)).getD q 0 ↔ cls.getD p 0 = cls.getD q 0 ∧ ∀ a, a < 2 ^ d.tracks.length → cls.getD (stepN d.rows p a) 0 = cls.getD (stepN d.rows q a) 0 := by
  have hl := rows_length hr
  rw [denL_iff (by simp [spN]; omega) (by simp [spN]; omega), ← spV_iff (by omega) (by omega) (rows_len hr) (cls_nonneg h p) (cls_nonneg h q)]
  have e : ∀ x, x < d.accept.length → (spN cls d.rows).getD x 0 = (spV cls d.rows x : Int) := fun x hx => by
    rw [List.getD_eq_getElem?_getD, spN, List.getElem?_map, List.getElem?_range (by omega)]; rfl
  rw [e p hp, e q hq]
  omega
theorem sp_inv {d : Den} (hr : rightS d = true) {cls : List Int} (h : ClsInv d cls) : ClsInv d (denL (spN cls d.rows)) := by
  have hl := rows_length hr
  have h256 := (tracksS_parts (rightS_parts hr).1).2.2.2
  have hsl : (spN cls d.rows).length = d.accept.length := by simp [spN, hl]
  refine ⟨by rw [denL_length, hsl], fun v hv => ?_, fun p q hp hq e => h.acc p q hp hq ((sp_iff hr h hp hq).1 e).1, fun p q hp hq e => ?_⟩
  · have := denL_range hv; omega
  · by_cases hc : cls.getD p 0 = cls.getD q 0
    · have : ¬ ∀ a, a < 2 ^ d.tracks.length → cls.getD (stepN d.rows p a) 0 = cls.getD (stepN d.rows q a) 0 := fun k => e ((sp_iff hr h hp hq).2 ⟨hc, k⟩)
      have : ∃ a, a < 2 ^ d.tracks.length ∧ cls.getD (stepN d.rows p a) 0 ≠ cls.getD (stepN d.rows q a) 0 :=
        Classical.byContradiction fun k => this fun a ha => Classical.byContradiction fun k' => k ⟨a, ha, k'⟩
      obtain ⟨a, ha, hne⟩ := this
      obtain ⟨_, _, _, p1⟩ := stepN_ok hr hp ha
      obtain ⟨_, _, _, q1⟩ := stepN_ok hr hq ha
      obtain ⟨w, hw, hd⟩ := h.apart _ _ p1 q1 hne
      exact ⟨a :: w, fun b hb => by
        rcases List.mem_cons.1 hb with rfl | hb
        · exact ha
        · exact hw b hb, hd⟩
    · exact h.apart p q hp hq hc
theorem sp_more {d : Den} (hr : rightS d = true) {cls : List Int} (h : ClsInv d cls) : disN cls ≤ disN (spN cls d.rows) := by
  have hl := rows_length hr
  have hlen := h.len
  rw [← dis_den (spN cls d.rows)]
  refine (dis_refine (by rw [denL_length]; simp [spN]; omega) fun i j hi hj e => ?_).1
  exact ((sp_iff hr h (by omega) (by omega)).1 e).1
/-- Where their number stays, alike ones share a class, and only they. -/
theorem sp_done {d : Den} (hr : rightS d = true) {cls : List Int} (h : ClsInv d cls) (he : disN (spN cls d.rows) = disN cls) {p q : Nat} (hp : p < d.accept.length) (hq : q < d.accept.length) :
    (denL (spN cls d.rows)).getD p 0 = (denL (spN cls d.rows)).getD q 0 ↔ Alike d p q := by
  have hl := rows_length hr
  have hlen := h.len
  have hb := (dis_refine (l := cls) (m := denL (spN cls d.rows)) (by rw [denL_length]; simp [spN]; omega) fun i j hi hj e => ((sp_iff hr h (by omega) (by omega)).1 e).1).2 (by rw [dis_den]; omega)
  constructor
  · intro e w
    induction w generalizing p q with
    | nil => exact fun _ => h.acc p q hp hq ((sp_iff hr h hp hq).1 e).1
    | cons a w ih =>
      intro hw
      have ha := hw a (by simp)
      obtain ⟨_, _, _, p1⟩ := stepN_ok hr hp ha
      obtain ⟨_, _, _, q1⟩ := stepN_ok hr hq ha
      exact ih p1 q1 (hb _ _ (by omega) (by omega) (((sp_iff hr h hp hq).1 e).2 a ha)) fun b hb => hw b (by simp [hb])
  · intro k
    refine Classical.byContradiction fun hne => ?_
    obtain ⟨w, hw, hd⟩ := (sp_inv hr h).apart p q hp hq hne
    exact hd (k w hw)

theorem cls0_inv (d : Den) : ClsInv d (cls0 d.accept) := by
  have e : ∀ p, p < d.accept.length → (cls0 d.accept).getD p 0 = if accN d.accept p = true then 1 else 0 := fun p hp => by
    simp [cls0, accN, List.getD_eq_getElem?_getD, hp]
  refine ⟨by simp [cls0], fun v hv => ?_, fun p q hp hq h => ?_, fun p q hp hq h => ⟨[], fun a ha => absurd ha (by simp), ?_⟩⟩
  · obtain ⟨b, _, rfl⟩ := List.mem_map.1 hv
    cases b <;> simp
  · rw [e p hp, e q hq] at h
    cases h1 : accN d.accept p <;> cases h2 : accN d.accept q <;> simp_all
  · rw [e p hp, e q hq] at h
    simp only [runN, List.foldl_nil]
    intro k
    rw [k] at h
    exact h rfl

/-- What the classes are: alike states share one, and only they. -/
structure Ner (d : Den) (cls : List Int) : Prop where
  len : cls.length = d.accept.length
  rng : ∀ v ∈ cls, 0 ≤ v ∧ v ≤ 300
  iff : ∀ p q, p < d.accept.length → q < d.accept.length → (cls.getD p 0 = cls.getD q 0 ↔ Alike d p q)

theorem clsL_ner {d : Den} (hr : rightS d = true) : ∀ (f : Nat) (cls : List Int) (c : Nat), ClsInv d cls → (c = 0 ∨ c = disN cls) → d.accept.length + 1 ≤ f + c → Ner d (clsL d.rows f cls c)
  | 0, cls, c, h, hc, hf => by
    have := dis_le cls
    have := h.len
    omega
  | f + 1, cls, c, h, hc, hf => by
    rw [clsL]
    have hl := rows_length hr
    have hpos := right_pos hr
    have hi := sp_inv hr h
    split
    · rename_i he
      have hp : 0 < disN (spN cls d.rows) := dis_pos (by rw [spN, List.length_map, List.length_range]; omega)
      have hc : c = disN cls := by omega
      exact ⟨hi.len, hi.rng, fun p q hp hq => sp_done hr h (by omega) hp hq⟩
    · have := sp_more hr h
      exact clsL_ner hr f _ _ hi (.inr (dis_den _).symm) (by omega)
theorem clsD_ner {d : Den} (hr : rightS d = true) : Ner d (clsD d) := clsL_ner hr _ _ _ (cls0_inv d) (.inl rfl) (Nat.le_refl _)

end Tab

/- Words of a machine counted: plain. -/
namespace Tab
open Go
set_option maxRecDepth 10000
set_option linter.unusedVariables false
set_option linter.unusedSimpArgs false
set_option linter.unusedSectionVars false

def sumTo (f : Nat → Nat) : Nat → Nat
  | 0 => 0
  | k + 1 => sumTo f k + f k
theorem sumTo_congr {f g : Nat → Nat} : ∀ {k}, (∀ a, a < k → f a = g a) → sumTo f k = sumTo g k
  | 0, _ => rfl
  | k + 1, h => by rw [sumTo, sumTo, sumTo_congr fun a ha => h a (by omega), h k (by omega)]
theorem sumTo_pos {f : Nat → Nat} : ∀ {k}, 0 < sumTo f k ↔ ∃ a, a < k ∧ 0 < f a
  | 0 => ⟨fun h => by simp [sumTo] at h, fun ⟨a, h, _⟩ => by omega⟩
  | k + 1 => by
    rw [sumTo]
    constructor
    · intro h
      by_cases h0 : 0 < f k
      · exact ⟨k, by omega, h0⟩
      · obtain ⟨a, h1, h2⟩ := (sumTo_pos (f := f) (k := k)).1 (by omega)
        exact ⟨a, by omega, h2⟩
    · rintro ⟨a, h1, h2⟩
      by_cases e : a = k
      · subst e; omega
      · have := (sumTo_pos (f := f) (k := k)).2 ⟨a, by omega, h2⟩; omega
theorem sumTo_le {f : Nat → Nat} : ∀ {k a}, a < k → f a ≤ sumTo f k
  | 0, a, h => by omega
  | k + 1, a, h => by
    rw [sumTo]
    by_cases e : a = k
    · subst e; omega
    · have := sumTo_le (f := f) (k := k) (a := a) (by omega); omega
theorem sumTo_mono {f : Nat → Nat} {j k : Nat} (h : j ≤ k) : sumTo f j ≤ sumTo f k := by
  induction k with
  | zero => have : j = 0 := by omega
            subst this; exact Nat.le_refl _
  | succ k ih =>
    by_cases e : j = k + 1
    · subst e; exact Nat.le_refl _
    · have := ih (by omega); rw [sumTo]; omega
theorem sumTo_add (f g : Nat → Nat) : ∀ k, sumTo (fun a => f a + g a) k = sumTo f k + sumTo g k
  | 0 => rfl
  | k + 1 => by rw [sumTo, sumTo, sumTo, sumTo_add f g k]; omega
theorem sumTo_zero {f : Nat → Nat} {k : Nat} (h : ∀ a, a < k → f a = 0) : sumTo f k = 0 := by
  rcases Nat.eq_zero_or_pos (sumTo f k) with e | e
  · exact e
  · obtain ⟨a, h1, h2⟩ := sumTo_pos.1 e
    have := h a h1; omega
theorem sumTo_swap (f : Nat → Nat → Nat) (k : Nat) : ∀ j, sumTo (fun a => sumTo (f a) k) j = sumTo (fun b => sumTo (fun a => f a b) j) k
  | 0 => by rw [sumTo, sumTo_zero]; intro a _; rfl
  | j + 1 => by
    rw [sumTo, sumTo_swap f k j, ← sumTo_add]
    exact sumTo_congr fun a _ => rfl
theorem sumTo_head (f : Nat → Nat) : ∀ k, sumTo f (k + 1) = f 0 + sumTo (fun a => f (a + 1)) k
  | 0 => by simp [sumTo]
  | k + 1 => by rw [sumTo, sumTo_head f k, sumTo]; omega
theorem sumTo_stop {f : Nat → Nat} {j k : Nat} (h : j ≤ k) (hz : ∀ a, j ≤ a → f a = 0) : sumTo f k = sumTo f j := by
  induction k with
  | zero => have : j = 0 := by omega
            subst this; rfl
  | succ k ih =>
    by_cases e : j = k + 1
    · subst e; rfl
    · rw [sumTo, ih (by omega), hz k (by omega)]; rfl

structure Gr where
  n : Nat
  K : Nat
  st : Nat → Nat → Nat
  ac : Nat → Bool
structure Gr.Ok (g : Gr) : Prop where
  pos : 0 < g.n
  big : g.n ≤ 256
  let' : g.K ≤ 64
  stay : ∀ q a, q < g.n → a < g.K → g.st q a < g.n

section
variable (g : Gr)
def yesTo (q k : Nat) : Nat := ((List.range k).filter fun a => g.ac (g.st q a)).length
def yesN (q : Nat) : Nat := yesTo g q g.K
theorem yesTo_succ (q k) : yesTo g q (k + 1) = yesTo g q k + (if g.ac (g.st q k) = true then 1 else 0) := by
  rw [yesTo, List.range_succ, List.filter_append, List.length_append]
  cases h : g.ac (g.st q k) with
  | true => simp [h, yesTo]
  | false => simp [h, yesTo]
theorem yesTo_le (q k) : yesTo g q k ≤ k := by
  rw [yesTo]
  exact Nat.le_trans (List.length_filter_le _ _) (by simp)
/-- How many letters, unlike the last one, end a word from here. -/
def endsN (q a : Nat) : Nat := if g.ac (g.st q a) = true then yesN g q - 1 else yesN g q
theorem endsN_le (q a) : endsN g q a ≤ yesN g q := by rw [endsN]; split <;> omega
theorem yes_pos {q a : Nat} (ha : a < g.K) (h : g.ac (g.st q a) = true) : 0 < yesN g q := by
  rw [yesN, yesTo, List.length_pos_iff_exists_mem]
  exact ⟨a, List.mem_filter.2 ⟨List.mem_range.2 ha, h⟩⟩
def wordsN : Nat → Nat → Nat
  | 0, q => sumTo (fun a => endsN g (g.st q a) a) g.K
  | k + 1, q => sumTo (fun a => wordsN k (g.st q a)) g.K
def liveP (q : Nat) : Prop := ∃ k, 0 < wordsN g k q
theorem live_iff (q) : liveP g q ↔ ∃ a, a < g.K ∧ (0 < endsN g (g.st q a) a ∨ liveP g (g.st q a)) := by
  constructor
  · rintro ⟨k, h⟩
    cases k with
    | zero =>
      obtain ⟨a, h1, h2⟩ := sumTo_pos.1 h
      exact ⟨a, h1, .inl h2⟩
    | succ k =>
      obtain ⟨a, h1, h2⟩ := sumTo_pos.1 h
      exact ⟨a, h1, .inr ⟨k, h2⟩⟩
  · rintro ⟨a, h1, h2 | ⟨k, h2⟩⟩
    · exact ⟨0, sumTo_pos.2 ⟨a, h1, h2⟩⟩
    · exact ⟨k + 1, sumTo_pos.2 ⟨a, h1, h2⟩⟩
open Classical in
@[irreducible] noncomputable def liveB (q : Nat) : Bool := decide (liveP g q)
open Classical in
theorem liveB_iff {q} : liveB g q = true ↔ liveP g q := by unfold liveB; exact decide_eq_true_iff
noncomputable def liveL : List Bool := (List.range g.n).map (liveB g)
theorem liveL_length : (liveL g).length = g.n := by simp [liveL]
theorem liveL_get {q} (h : q < g.n) : (liveL g)[q]? = some (liveB g q) := by simp [liveL, h]
def SpSound (L : List Bool) : Prop := L.length = g.n ∧ ∀ q, L[q]? = some true → liveP g q
def SpDone (L : List Bool) (q a : Nat) : Prop := (0 < endsN g (g.st q a) a ∨ L[g.st q a]? = some true) → L[q]? = some true
variable {g}
theorem live_final (hg : g.Ok) {L : List Bool} (h : SpSound g L) (hc : ∀ q a, q < g.n → a < g.K → SpDone g L q a) : L = liveL g := by
  obtain ⟨hl, hs⟩ := h
  have key : ∀ k q, q < g.n → 0 < wordsN g k q → L[q]? = some true := by
    intro k
    induction k with
    | zero =>
      intro q hq h
      obtain ⟨a, h1, h2⟩ := sumTo_pos.1 h
      exact hc q a hq h1 (.inl h2)
    | succ k ih =>
      intro q hq h
      obtain ⟨a, h1, h2⟩ := sumTo_pos.1 h
      exact hc q a hq h1 (.inr (ih _ (hg.stay q a hq h1) h2))
  refine List.ext_getElem? fun q => ?_
  by_cases hq : q < g.n
  · rw [liveL_get g hq]
    cases hb : liveB g q with
    | true =>
      obtain ⟨k, hk⟩ := (liveB_iff g).1 hb
      exact key k q hq hk
    | false =>
      rw [List.getElem?_eq_getElem (by omega)]
      cases hx : L[q]'(by omega) with
      | false => rfl
      | true =>
        have := (liveB_iff g).2 (hs q (by rw [List.getElem?_eq_getElem (by omega), hx]))
        rw [hb] at this; simp at this
  · rw [List.getElem?_eq_none (by omega), List.getElem?_eq_none (by rw [liveL_length]; omega)]
theorem SpSound.set {L : List Bool} (h : SpSound g L) {q a : Nat} (ha : a < g.K) (hx : 0 < endsN g (g.st q a) a ∨ L[g.st q a]? = some true) : SpSound g (L.set q true) := by
  obtain ⟨hl, hs⟩ := h
  refine ⟨by simpa using hl, fun x hx' => ?_⟩
  rw [List.getElem?_set] at hx'
  split at hx'
  · rename_i e
    subst e
    exact (live_iff g q).2 ⟨a, ha, hx.imp id (hs _)⟩
  · exact hs x hx'
def trues (L : List Bool) : Nat := (L.filter id).length
theorem trues_set : ∀ {L : List Bool} {q : Nat}, L[q]? = some false → trues (L.set q true) = trues L + 1
  | [], q, h => by simp at h
  | b :: L, 0, h => by simp at h; subst h; simp [trues]
  | b :: L, q + 1, h => by
    have ih := trues_set (L := L) (q := q) (by simpa using h)
    simp only [trues, List.set_cons_succ] at ih ⊢
    cases b <;> simp [ih]
theorem trues_le (L : List Bool) : trues L ≤ L.length := List.length_filter_le _ _

/-! ### Rings -/
variable (g)
def Ed (x y : Nat) : Prop := liveP g x ∧ ∃ a, a < g.K ∧ y = g.st x a
inductive Pth : Nat → Nat → Prop
  | one {x y} : Ed g x y → Pth x y
  | snoc {x y z} : Pth x y → Ed g y z → Pth x z
def Rch (x : Nat) : Prop := x = 0 ∨ Pth g 0 x
def FinP : Prop := ∃ r : Nat → Nat, ∀ x, Rch g x → ∀ y, Ed g x y → liveP g y → r y < r x
open Classical in
@[irreducible] noncomputable def finT : Bool := decide (FinP g)
open Classical in
theorem finT_iff : finT g = true ↔ FinP g := by unfold finT; exact decide_eq_true_iff
variable {g}
theorem Pth.trans {x y z} (h : Pth g x y) (h' : Pth g y z) : Pth g x z := by
  induction h' with
  | one e => exact .snoc h e
  | snoc _ e ih => exact .snoc ih e
theorem Rch.snoc {x y} (h : Rch g x) (e : Ed g x y) : Rch g y := by
  rcases h with rfl | h
  · exact .inr (.one e)
  · exact .inr (.snoc h e)
theorem Rch.pth {x y} (h : Rch g x) (p : Pth g x y) : Rch g y := by
  rcases h with rfl | h
  · exact .inr p
  · exact .inr (h.trans p)
theorem Pth.live {x y} (h : Pth g x y) : liveP g x := by
  induction h with
  | one e => exact e.1
  | snoc _ _ ih => exact ih
theorem Pth.down {r : Nat → Nat} (hr : ∀ x, Rch g x → ∀ y, Ed g x y → liveP g y → r y < r x) {x y} (hx : Rch g x) (h : Pth g x y) : liveP g y → r y < r x := by
  induction h with
  | one e => exact hr _ hx _ e
  | snoc p e ih =>
    intro hl
    have h1 := ih e.1
    have h2 := hr _ (hx.pth p) _ e hl
    omega
theorem ring_not {x} (hx : Rch g x) (h : Pth g x x) : ¬ FinP g := fun ⟨r, hr⟩ => by
  have := h.down hr hx h.live
  omega
theorem Rch.lt (hg : g.Ok) {x} (h : Rch g x) : x < g.n := by
  rcases h with rfl | h
  · exact hg.pos
  · induction h with
    | one e => obtain ⟨_, a, ha, rfl⟩ := e; exact hg.stay _ _ hg.pos ha
    | snoc _ e ih => obtain ⟨_, a, ha, rfl⟩ := e; exact hg.stay _ _ ih ha

variable (g)
/-- What is done lies on no ring. -/
def DoneI (M : List Nat) : Prop := ∃ r : Nat → Nat, ∀ x : Nat, M[x]? = some 2 → liveP g x ∧ ∀ a, a < g.K → liveP g (g.st x a) → M[g.st x a]? = some 2 ∧ r (g.st x a) < r x
structure RgPre (M : List Nat) (q : Nat) : Prop where
  len : M.length = g.n
  two : ∀ x v : Nat, M[x]? = some v → v ≤ 2
  done : DoneI g M
  on : ∀ x : Nat, M[x]? = some 1 → Rch g x ∧ Pth g x q
  at' : Rch g q
structure RgSame (M M' : List Nat) : Prop where
  len : M'.length = g.n
  two : ∀ x v : Nat, M'[x]? = some v → v ≤ 2
  zero : ∀ x : Nat, M'[x]? = some 0 → M[x]? = some 0
  one : ∀ x : Nat, M'[x]? = some 1 ↔ M[x]? = some 1
  keep : ∀ x : Nat, M[x]? = some 2 → M'[x]? = some 2
  done : DoneI g M'
def RgPost (M : List Nat) (q : Nat) : Bool → List Nat → Prop
  | true, M' => M'.length = g.n ∧ ∃ x, Rch g x ∧ Pth g x x
  | false, M' => RgSame g M M' ∧ (liveP g q → M'[q]? = some 2)
variable {g}
def zeros : List Nat → Nat
  | [] => 0
  | x :: l => (if x = 0 then 1 else 0) + zeros l
theorem zeros_set : ∀ {M : List Nat} {q v : Nat}, M[q]? = some 0 → v ≠ 0 → zeros (M.set q v) + 1 = zeros M
  | [], q, v, h, _ => by simp at h
  | b :: M, 0, v, h, hv => by simp at h; subst h; simp [zeros, hv]; omega
  | b :: M, q + 1, v, h, hv => by
    have ih := zeros_set (M := M) (q := q) (v := v) (by simpa using h) hv
    rw [List.set_cons_succ, zeros, zeros]; omega
theorem zeros_le : ∀ {M M' : List Nat}, M'.length = M.length → (∀ x : Nat, M'[x]? = some 0 → M[x]? = some 0) → zeros M' ≤ zeros M
  | [], [], _, _ => Nat.le_refl _
  | [], _ :: _, h, _ => by simp at h
  | _ :: _, [], h, _ => by simp at h
  | a :: M, b :: M', h, hz => by
    have ih := zeros_le (M := M) (M' := M') (by simpa using h) fun x hx => by simpa using hz (x + 1) (by simpa using hx)
    have h0 := hz 0
    simp only [List.getElem?_cons_zero, Option.some.injEq] at h0
    rw [zeros, zeros]
    by_cases hb : b = 0
    · rw [if_pos hb, if_pos (h0 hb)]; omega
    · rw [if_neg hb]; omega
theorem RgPre.go {M : List Nat} {q a : Nat} (h : RgPre g M q) (hq : q < g.n) (hl : liveP g q) (h0 : M[q]? = some 0) (ha : a < g.K) {M' : List Nat} (hs : RgSame g (M.set q 1) M') : RgPre g M' (g.st q a) := by
  have he : Ed g q (g.st q a) := ⟨hl, a, ha, rfl⟩
  refine ⟨hs.len, hs.two, hs.done, fun x hx => ?_, h.at'.snoc he⟩
  have := (hs.one x).1 hx
  rw [List.getElem?_set] at this
  split at this
  · rename_i e
    subst e
    exact ⟨h.at', .one he⟩
  · obtain ⟨h1, h2⟩ := h.on x this
    exact ⟨h1, .snoc h2 he⟩
theorem RgSame.refl {M : List Nat} (hl : M.length = g.n) (h2 : ∀ x v : Nat, M[x]? = some v → v ≤ 2) (hd : DoneI g M) : RgSame g M M := ⟨hl, h2, fun _ h => h, fun _ => Iff.rfl, fun _ h => h, hd⟩
theorem RgSame.trans {M M' M'' : List Nat} (h : RgSame g M M') (h' : RgSame g M' M'') : RgSame g M M'' := ⟨h'.len, h'.two, fun x hx => h.zero x (h'.zero x hx), fun x => (h'.one x).trans (h.one x), fun x hx => h'.keep x (h.keep x hx), h'.done⟩
theorem RgPre.start {M : List Nat} {q : Nat} (h : RgPre g M q) (h0 : M[q]? = some 0) : RgSame g (M.set q 1) (M.set q 1) := by
  refine RgSame.refl (by simpa using h.len) (fun x v hx => ?_) ?_
  · rw [List.getElem?_set] at hx
    split at hx
    · split at hx
      · simp at hx; omega
      · simp at hx
    · exact h.two x v hx
  · obtain ⟨r, hr⟩ := h.done
    refine ⟨r, fun x hx => ?_⟩
    rw [List.getElem?_set] at hx
    split at hx
    · split at hx
      · simp at hx
      · simp at hx
    · obtain ⟨h1, h2⟩ := hr x hx
      refine ⟨h1, fun a ha hl => ?_⟩
      obtain ⟨h3, h4⟩ := h2 a ha hl
      refine ⟨?_, h4⟩
      rw [List.getElem?_set]
      split
      · rename_i e
        rw [← e, h0] at h3; simp at h3
      · exact h3
theorem RgPre.stop {M : List Nat} {q : Nat} (hg : g.Ok) (h : RgPre g M q) (hq : q < g.n) (hl : liveP g q) (h0 : M[q]? = some 0) {M' : List Nat} (hs : RgSame g (M.set q 1) M') (hd : ∀ a, a < g.K → liveP g (g.st q a) → M'[g.st q a]? = some 2) :
    RgPost g M q false (M'.set q 2) := by
  have hq1 : M'[q]? = some 1 := (hs.one q).2 (by rw [List.getElem?_set, if_pos rfl, if_pos (by rw [h.len]; exact hq)])
  have hql : q < M'.length := by rw [hs.len]; exact hq
  have hne : ∀ x : Nat, M'[x]? = some 2 → q ≠ x := fun x hx e => by rw [← e, hq1] at hx; simp at hx
  refine ⟨⟨by simpa using hs.len, fun x v hx => ?_, fun x hx => ?_, fun x => ?_, fun x hx => ?_, ?_⟩, fun _ => by rw [List.getElem?_set, if_pos rfl, if_pos hql]⟩
  · rw [List.getElem?_set] at hx
    split at hx
    · simp at hx; omega
    · exact hs.two x v hx
  · rw [List.getElem?_set] at hx
    split at hx
    · simp at hx
    · have := hs.zero x hx
      rw [List.getElem?_set] at this
      split at this
      · split at this <;> simp at this
      · exact this
  · rw [List.getElem?_set]
    split
    · rename_i e
      subst e
      rw [h0]; simp
    · rename_i e
      rw [hs.one x, List.getElem?_set, if_neg e]
  · rw [List.getElem?_set]
    split
    · rfl
    · rename_i e
      exact hs.keep x (by rw [List.getElem?_set, if_neg e]; exact hx)
  · obtain ⟨r, hr⟩ := hs.done
    refine ⟨fun x => if x = q then 1 + sumTo r g.n else r x, fun x hx => ?_⟩
    have h2 : ∀ y, M'[y]? = some 2 → (M'.set q 2)[y]? = some 2 := fun y hy => by rw [List.getElem?_set, if_neg (hne y hy)]; exact hy
    by_cases e : q = x
    · subst e
      refine ⟨hl, fun a ha hla => ?_⟩
      have h3 := hd a ha hla
      refine ⟨h2 _ h3, ?_⟩
      have h4 := hne _ h3
      simp only [if_pos, if_neg (Ne.symm h4)]
      have := sumTo_le (f := r) (hg.stay q a hq ha)
      omega
    · rw [List.getElem?_set, if_neg e] at hx
      obtain ⟨k1, k2⟩ := hr x hx
      refine ⟨k1, fun a ha hla => ?_⟩
      obtain ⟨k3, k4⟩ := k2 a ha hla
      refine ⟨h2 _ k3, ?_⟩
      simp only [if_neg (Ne.symm (hne _ k3)), if_neg (Ne.symm e)]
      exact k4
theorem RgPre.ring {M : List Nat} {q : Nat} (h : RgPre g M q) (h1 : M[q]? = some 1) : RgPost g M q true M := ⟨h.len, q, h.on q h1⟩
theorem RgPre.none {M : List Nat} {q : Nat} (h : RgPre g M q) (h1 : liveB g q = false ∨ M[q]? = some 2) : RgPost g M q false M :=
  ⟨.refl h.len h.two h.done, fun hl => by
    rcases h1 with h1 | h1
    · have := (liveB_iff g).2 hl; rw [h1] at this; simp at this
    · exact h1⟩
theorem RgPre.zero (hg : g.Ok) : RgPre g (List.replicate g.n 0) 0 := by
  have hx : ∀ x v : Nat, (List.replicate g.n 0)[x]? = some v → v = 0 := fun x v h => by
    rw [List.getElem?_replicate] at h
    split at h
    · simpa using h.symm
    · simp at h
  refine ⟨by simp, fun x v h => by rw [hx x v h]; omega, ⟨fun _ => 0, fun x h => by have := hx x _ h; omega⟩, fun x h => by have := hx x _ h; omega, .inl rfl⟩
/-- What the walk from the start tells. -/
theorem ring_fin (hg : g.Ok) {b : Bool} {M : List Nat} (h : RgPost g (List.replicate g.n 0) 0 b M) : finT g = !b := by
  cases b with
  | true =>
    obtain ⟨_, x, h1, h2⟩ := h
    have := ring_not h1 h2
    cases hf : finT g with
    | false => rfl
    | true => exact absurd ((finT_iff g).1 hf) this
  | false =>
    obtain ⟨hs, h0⟩ := h
    refine (finT_iff g).2 ?_
    obtain ⟨r, hr⟩ := hs.done
    refine ⟨r, fun x hx y hy hl => ?_⟩
    have key : ∀ x, Rch g x → liveP g x → M[x]? = some 2 := by
      intro x hx
      rcases hx with rfl | hx
      · exact h0
      · induction hx with
        | one e =>
          obtain ⟨e1, a, ha, rfl⟩ := e
          exact fun hl => ((hr _ (h0 e1)).2 a ha hl).1
        | snoc _ e ih =>
          obtain ⟨e1, a, ha, rfl⟩ := e
          exact fun hl => ((hr _ (ih e1)).2 a ha hl).1
    obtain ⟨e1, a, ha, rfl⟩ := hy
    exact ((hr x (key x hx e1)).2 a ha hl).2

/-! ### Sums -/
variable (g)
def beyN (q : Nat) : Nat := sumTo (fun k => wordsN g k q) g.n
def totN : Nat := yesN g 0 + beyN g 0
def uptoN (n : Nat) : Nat := yesN g 0 + sumTo (fun k => wordsN g k 0) (n - 1)
variable {g}
theorem words_zero {q k} (h : ¬ liveP g q) : wordsN g k q = 0 := by
  rcases Nat.eq_zero_or_pos (wordsN g k q) with e | e
  · exact e
  · exact absurd ⟨k, e⟩ h
theorem bey_dead {q} (h : ¬ liveP g q) : beyN g q = 0 := sumTo_zero fun _ _ => words_zero h
def lowC (n : Nat) (r : Nat → Nat) (q : Nat) : Nat := ((List.range n).filter fun x => decide (r x < r q)).length
theorem filter_len_le {l : List Nat} {p q : Nat → Bool} (h : ∀ x, p x = true → q x = true) : (l.filter p).length ≤ (l.filter q).length := by
  induction l with
  | nil => exact Nat.le_refl _
  | cons a l ih =>
    simp only [List.filter_cons]
    cases hp : p a with
    | true => rw [h a hp]; simpa using ih
    | false => cases q a <;> simp <;> omega
theorem filter_len_lt {l : List Nat} {p q : Nat → Bool} (h : ∀ x, p x = true → q x = true) {y : Nat} (hy : y ∈ l) (h1 : p y = false) (h2 : q y = true) : (l.filter p).length < (l.filter q).length := by
  induction l with
  | nil => simp at hy
  | cons a l ih =>
    have hle := filter_len_le (l := l) h
    simp only [List.filter_cons]
    rcases List.mem_cons.1 hy with rfl | hy
    · rw [h1, h2]; simp; omega
    · have := ih hy
      cases hp : p a with
      | true => rw [h a hp]; simpa using this
      | false => cases q a <;> simp <;> omega
theorem words_stop (hg : g.Ok) (hf : FinP g) {q k} (hq : Rch g q) (hk : g.n ≤ k) : wordsN g k q = 0 := by
  obtain ⟨r, hr⟩ := hf
  have key : ∀ k q, Rch g q → 0 < wordsN g k q → k ≤ lowC g.n r q := by
    intro k
    induction k with
    | zero => intro q _ _; omega
    | succ k ih =>
      intro q hq h
      have hl : liveP g q := ⟨_, h⟩
      obtain ⟨a, h1, h2⟩ := sumTo_pos.1 h
      have he : Ed g q (g.st q a) := ⟨hl, a, h1, rfl⟩
      have h3 := ih _ (hq.snoc he) h2
      have h4 := hr q hq _ he ⟨k, h2⟩
      have : lowC g.n r (g.st q a) < lowC g.n r q := filter_len_lt (fun x hx => by simp at hx ⊢; omega) (List.mem_range.2 ((hq.snoc he).lt hg)) (by simp) (by simpa using h4)
      omega
  rcases Nat.eq_zero_or_pos (wordsN g k q) with e | e
  · exact e
  · have h1 := key k q hq e
    have h2 : lowC g.n r q < g.n := by
      have h3 := filter_len_lt (l := List.range g.n) (p := fun x => decide (r x < r q)) (q := fun _ => true) (fun _ _ => rfl) (List.mem_range.2 (hq.lt hg)) (by simp) rfl
      have h4 := List.length_filter_le (fun _ => true) (List.range g.n)
      rw [List.length_range] at h4
      exact Nat.lt_of_lt_of_le h3 h4
    omega
theorem bey_rec (hg : g.Ok) (hf : FinP g) {q} (hq : Rch g q) : beyN g q = sumTo (fun a => endsN g (g.st q a) a + beyN g (g.st q a)) g.K := by
  have h1 : beyN g q = sumTo (fun k => wordsN g k q) (g.n + 1) := by
    rw [beyN, sumTo, words_stop hg hf hq (Nat.le_refl _)]; omega
  rw [h1, sumTo_head, sumTo_add]
  show sumTo _ _ + _ = _
  congr 1
  have := sumTo_swap (fun k a => wordsN g k (g.st q a)) g.K g.n
  exact this
theorem tot_upto (hg : g.Ok) (hf : FinP g) (n : Nat) : uptoN g n ≤ totN g := by
  have : sumTo (fun k => wordsN g k 0) (n - 1) ≤ beyN g 0 := by
    rw [beyN]
    by_cases h : n - 1 ≤ g.n
    · exact sumTo_mono h
    · rw [sumTo_stop (j := g.n) (k := n - 1) (by omega) fun a ha => words_stop hg hf (.inl rfl) ha]
      exact Nat.le_refl _
  rw [uptoN, totN]; omega
theorem tot_eq (hg : g.Ok) (hf : FinP g) {n : Nat} (h : g.n ≤ n - 1) : uptoN g n = totN g := by
  rw [uptoN, totN, beyN, sumTo_stop h fun a ha => words_stop hg hf (.inl rfl) ha]
theorem upto_mono {m n : Nat} (h : m ≤ n) : uptoN g m ≤ uptoN g n := by
  have := sumTo_mono (f := fun k => wordsN g k 0) (show m - 1 ≤ n - 1 by omega)
  rw [uptoN, uptoN]; omega
end

/-- The machine of a table. -/
def grD (d : Den) : Gr := ⟨d.accept.length, 2 ^ d.tracks.length, stepN d.rows, accN d.accept⟩
theorem grD_ok {d : Den} (hd : rightS d = true) : (grD d).Ok := by
  obtain ⟨k6, _, _, d256⟩ := tracksS_parts (rightS_parts hd).1
  have hK : 2 ^ d.tracks.length ≤ 2 ^ 6 := Nat.pow_le_pow_right (by omega) k6
  exact ⟨right_pos hd, by show d.accept.length ≤ 256; omega, by show 2 ^ d.tracks.length ≤ 64; omega, fun q a hq ha => (stepN_ok hd hq ha).2.2.2⟩

end Tab

/- Pairs of numbers: keys, equality. -/
namespace Tab
open Go Go.Proofs
set_option maxRecDepth 10000
set_option linter.unusedVariables false
set_option linter.unusedSimpArgs false
set_option linter.unusedSectionVars false

theorem mapPP : NumMap Try.prog 199 197 3 where
  map := (by kernel_rfl)
  law := Maps.Keyed.of_law (deep_law_laid ((by kernel_rfl) : laidOutB Try.prog = true) (m := 2) (by decide) (of_decide_eq_true (by kernel_rfl)) (by kernel_rfl) (by kernel_rfl))
  zero := mapII.zero
theorem keyPP {p : Int × Int} (h : ok2 p) : ∃ l, keyOf Try.prog 197 (pv2 p) = some l := key2 (by kernel_rfl) (by kernel_rfl) (by kernel_rfl) h
theorem eqlPP {a b c d : Int} (h1 : ok2 (a, b)) (h2 : ok2 (c, d)) : EqlE Try.prog 197 [.int .i64 a, .int .i64 b] [.int .i64 c, .int .i64 d] (decide ((a, b) = (c, d))) := eql2 (by kernel_rfl) (by kernel_rfl) (by kernel_rfl) (by kernel_rfl) h1 h2

end Tab

/- prod.made: the raw product, as new memory. -/
namespace Tab
open Go Go.Proofs
set_option maxRecDepth 10000
set_option linter.unusedVariables false
set_option linter.unusedSimpArgs false
set_option linter.unusedSectionVars false

abbrev Pr := Int × Int
abbrev stP : Pr := (-1, -1)
def pst (p : Pr) : Pr := if p = stP then (0, 0) else p
def pf (d e : Den) (p : Pr) : List Pr := (List.range (2 ^ d.tracks.length)).map fun a => ((stepN d.rows (pst p).1.toNat a : Int), (stepN e.rows (pst p).2.toNat a : Int))
theorem pf_length (d e p) : (pf d e p).length = 2 ^ d.tracks.length := by simp [pf]
def accP (cn : Bool → Bool → Bool) (d e : Den) (p : Pr) : Bool := if p = stP then false else cn (accN d.accept p.1.toNat) (accN e.accept p.2.toNat)
def prdR (d e : Den) : Option (List Pr) := explO (pf d e) 256 300 0 [stP]
/-- A pair of states. -/
def okS (d e : Den) (p : Pr) : Prop := 0 ≤ p.1 ∧ p.1 < d.accept.length ∧ 0 ≤ p.2 ∧ p.2 < e.accept.length
theorem pst_ok {d e : Den} (hd : rightS d = true) (he : rightS e = true) {p : Pr} (h : p = stP ∨ okS d e p) : okS d e (pst p) := by
  have h1 := right_pos hd
  have h2 := right_pos he
  rw [pst]
  split
  · exact ⟨by simp, by simpa using h1, by simp, by simpa using h2⟩
  · rcases h with h | h
    · contradiction
    · exact h
theorem pf_get {d e : Den} {p : Pr} {a : Nat} (ha : a < 2 ^ d.tracks.length) : (pf d e p)[a]? = some ((stepN d.rows (pst p).1.toNat a : Int), (stepN e.rows (pst p).2.toNat a : Int)) := by
  rw [pf, List.getElem?_map, List.getElem?_range ha]; rfl
theorem pf_ok {d e : Den} (hd : rightS d = true) (he : rightS e = true) (hk : d.tracks.length = e.tracks.length) {p : Pr} (h : p = stP ∨ okS d e p) : ∀ t ∈ pf d e p, okS d e t := by
  intro t ht
  obtain ⟨a, ha, rfl⟩ := List.mem_map.1 ht
  have ha := List.mem_range.1 ha
  obtain ⟨q1, q2, q3, q4⟩ := pst_ok hd he h
  have s1 := (stepN_ok hd (q := (pst p).1.toNat) (by omega) ha).2.2.2
  have s2 := (stepN_ok he (q := (pst p).2.toNat) (by omega) (by rw [← hk]; exact ha)).2.2.2
  exact ⟨by simp, by simpa using s1, by simp, by simpa using s2⟩

def pmHs (b K n : Nat) : List AV := (List.range n).map fun j => .hs (b + j) 0 0 K 1
def pmRows (rows : List (List Int)) : List Blk := rows.map fun r => .cells 0 (r.map (.int .i64))
def cp2 (L : List Pr) : List AV := L.flatMap fun p => [.int .i64 p.1, .int .i64 p.2]
theorem cp2_length : ∀ L, (cp2 L).length = L.length * 2
  | [] => rfl
  | p :: L => by have := cp2_length L; simp only [cp2, List.flatMap_cons, List.length_append, List.length_cons, List.length_nil] at this ⊢; omega
theorem cp2_get : ∀ {L : List Pr} {i : Nat} {p : Pr}, L[i]? = some p → (cp2 L)[i * 2]? = some (.int .i64 p.1) ∧ (cp2 L)[i * 2 + 1]? = some (.int .i64 p.2)
  | x :: L, 0, p, h => by simp at h; subst h; exact ⟨rfl, rfl⟩
  | x :: L, i + 1, p, h => by
    have := cp2_get (L := L) (i := i) (p := p) (by simpa using h)
    rw [show (i + 1) * 2 = i * 2 + 1 + 1 by omega]
    simpa [cp2] using this
theorem cp2_closed (L : List Pr) : closeds (cp2 L) := by
  rw [closeds_iff]
  intro a ha
  obtain ⟨p, _, hp⟩ := List.mem_flatMap.1 ha
  simp at hp
  rcases hp with rfl | rfl <;> simp [AV.closed]

/-- The blocks ahead of the rows; the map's and the list's as they are. -/
def pmC (names : List (List UInt8)) (d e : Den) (tE : AV) (Db Lb : Blk) (i : Nat) (acc : List Bool) (K bb : Nat) : List Blk :=
  [.cells 0 (names.map .str), .cells 0 [.hs 0 0 0 names.length 1, aBs d.ak d.accept, aRs d.nk d.next], .cells 0 [tE, aBs e.ak e.accept, aRs e.nk e.next], .cells 0 [.sl .nil 0 [], .sl .nil 0 [], .sl .nil 0 []],
    Db, Lb, .cells 0 [.hs 0 0 0 names.length 1, .hs 7 i 0 i 1, .hs 8 i 0 i 1], .cells i (acc.map .bool), .cells i (pmHs bb K i)]
def pmB (names : List (List UInt8)) (d e : Den) (tE : AV) (L : List Pr) (g i : Nat) (acc : List Bool) (K bb : Nat) : List Blk :=
  pmC names d e tE (.dict (dI (L.map pv2))) (.cells g (cp2 L)) i acc K bb
theorem cp2_snoc (L : List Pr) (p : Pr) : ((cp2 L).drop 0).take (L.length * 2) ++ [.int .i64 p.1, .int .i64 p.2] = cp2 (L ++ [p]) := by
  rw [List.drop_zero, List.take_of_length_le (by rw [cp2_length]; exact Nat.le_refl _)]; simp [cp2]
theorem pmB_length (names d e tE L g i acc K bb) : (pmB names d e tE L g i acc K bb).length = 9 := rfl
theorem pmRows_rn (f rows) : (pmRows rows).map (Blk.rn f) = pmRows rows := by
  rw [pmRows, List.map_map]
  exact List.map_congr_left fun r _ => by simp [Blk.rn, ints_rn]
theorem pmHs_rn (f : Nat → Nat) (b c K : Nat) (h : ∀ j, f (b + j) = c + j) : ∀ n, rns f (pmHs b K n) = pmHs c K n := fun n => by
  rw [pmHs, pmHs, rns_map, List.map_map]
  exact List.map_congr_left fun j _ => by simp [AV.rn, h j]
theorem pmB_rn {names d e tE L g i acc K b c} {f : Nat → Nat} (hf : ∀ j, j < 9 → f j = j) (ht : tE.bel 1) (h : ∀ j, f (b + j) = c + j) : (pmB names d e tE L g i acc K b).map (Blk.rn f) = pmB names d e tE L g i acc K c := by
  have e1 : ∀ k l, (aBs k l).rn f = aBs k l := fun k l => AV.closed_rn _ (aBs_closed k l)
  have e2 : ∀ k l, (aRs k l).rn f = aRs k l := fun k l => AV.closed_rn _ (aRs_closed k l)
  have e3 : tE.rn f = tE := AV.rn_id (n := 1) (fun j hj => hf j (by omega)) tE ht
  simp [pmB, pmC, Blk.rn, rns, AV.rn, strs_rn, bools_rn, hf, e1, e2, e3, pmHs_rn f b c K h, closeds_rn _ (cp2_closed L)]
theorem pmB_bel {names d e tE L g i acc K b n} (h9 : 9 ≤ n) (hn : b + i ≤ n) (ht : tE.bel 1) : blksBel n (pmB names d e tE L g i acc K b) := by
  have e3 := AV.bel_le (show 1 ≤ n by omega) tE ht
  have e4 : bels n (cp2 L) := closeds_bel _ (cp2_closed L)
  have e5 : bels n (pmHs b K i) := by
    rw [pmHs, bels_map]
    intro j hj
    have := List.mem_range.1 hj
    simp only [AV.bel]; omega
  simp [pmB, pmC, blksBel, Blk.bel, bels, AV.bel, bels_map, aBs_bel, aRs_bel, e3, e4, e5]
  omega
theorem pmRows_bel (n rows) : blksBel n (pmRows rows) := by
  rw [pmRows, blksBel_map]
  intro r _
  simp [Blk.bel, bels_map, AV.bel]
theorem pm_ins (q j : Nat) (hj : j < 9) : insF 9 q j = j := if_pos hj
theorem pm_del (j : Nat) (hj : j < 9) : delF 9 j = j := if_pos hj
theorem pm_ins2 (q j : Nat) : insF 9 q (10 + j) = 9 + j := by rw [insF, if_neg (by omega), if_neg (by omega)]; omega
theorem pm_del2 (j : Nat) : delF 9 (9 + j) = 10 + j := by rw [delF, if_neg (by omega)]; omega

theorem pm_in {nt : Fr} {s : Slots} {H : List Blk} {l : List (Nat × AV)} {names d e tE L g i acc K} {p : Pr} {rows : List (List Int)} (hk : nt.k ≤ 9) (hi : rows.length = i) (ht : tE.bel 1)
    (hs : frOk s (l.map fun q => (q.1, q.2.rn (insF 9 (pmRows rows).length)))) (hH : H = pmB names d e tE L g i acc K 9 ++ pmRows rows ++ [.cells 0 [.int .i64 p.1, .int .i64 p.2]]) (bl : frBel 10 l) :
    Ent nt s H (Tab.fr l) (pmB names d e tE L g i acc K 10 ++ .cells 0 [.int .i64 p.1, .int .i64 p.2] :: pmRows rows) := by
  have hrl : (pmRows rows).length = i := by simp [pmRows, hi]
  refine Ent.insMid (pmB names d e tE L g i acc K 10) (pmRows rows) (.cells 0 [.int .i64 p.1, .int .i64 p.2]) (by rw [pmB_length]; exact hk) (by rw [pmB_length]; exact frOk_rn hs) ?_ ?_ ?_
  · rw [hH, pmRows_rn, pmB_length, pmB_rn (fun j hj => pm_ins _ j hj) ht (fun j => pm_ins2 _ j)]
    simp [Blk.rn, rns, AV.rn]
  · rw [pmB_length, hrl]; exact frBel_le (by omega) l bl
  · rw [pmB_length, hrl, blksBel_append]
    exact ⟨pmB_bel (by omega) (by omega) ht, by simp [Blk.bel, bels, AV.bel], pmRows_bel _ _⟩
theorem pm_out {nt : Fr} {s : Slots} {H X : List Blk} {l : List (Nat × AV)} {names d e tE L g i acc K x} {rows : List (List Int)} (hk : nt.k ≤ 9) (hi : rows.length = i) (ht : tE.bel 1)
    (hs : frOk s (l.map fun q => (q.1, q.2.rn (delF 9)))) (hH : H = pmB names d e tE L g i acc K 10 ++ x :: (pmRows rows ++ X)) (bl : frBel 9 l) :
    Ent nt s H (Tab.fr l) (pmB names d e tE L g i acc K 9 ++ pmRows rows) := by
  have hrl : (pmRows rows).length = i := by simp [pmRows, hi]
  refine Ent.delMid (pmB names d e tE L g i acc K 9) (pmRows rows) x X (by rw [pmB_length]; exact hk) (by rw [pmB_length]; exact frOk_rn hs) ?_ ?_ ?_
  · rw [hH, pmRows_rn, pmB_length, pmB_rn (fun j hj => pm_del j hj) ht (fun j => pm_del2 j)]
  · rw [pmB_length, hrl]; exact frBel_le (by omega) l bl
  · rw [pmB_length, hrl, blksBel_append]
    exact ⟨pmB_bel (by omega) (by omega) ht, pmRows_bel _ _⟩

/-- The heap within a round: the place that is looked at stands ahead of the rows. -/
def pmA (names : List (List UInt8)) (d e : Den) (tE : AV) (L : List Pr) (g i : Nat) (acc : List Bool) (K : Nat) (p : Pr) (rows : List (List Int)) : List Blk :=
  pmB names d e tE L g i acc K 10 ++ .cells 0 [.int .i64 p.1, .int .i64 p.2] :: pmRows rows

theorem pmA_len (names d e tE L g i acc K p rows) : (pmA names d e tE L g i acc K p rows).length = rows.length + 10 := by simp [pmA, pmB_length, pmRows]; omega
theorem pmA_bel {names d e tE L g i acc K p rows n} (hi : rows.length = i) (ht : tE.bel 1) : blksBel (rows.length + 10 + n) (pmA names d e tE L g i acc K p rows) := by
  rw [pmA, blksBel_append]
  exact ⟨pmB_bel (by omega) (by omega) ht, by simp [Blk.bel, bels, AV.bel], pmRows_bel _ _⟩
theorem get_prev {α : Type} (A : List α) (r x : α) : ((A ++ [r]) ++ [x])[A.length]? = some r := by simp
theorem set_prev {α : Type} (A : List α) (r x y : α) : ((A ++ [r]) ++ [x]).set A.length y = (A ++ [y]) ++ [x] := by simp
theorem pm_row {nt : Fr} {s : Slots} {H X : List Blk} {l : List (Nat × AV)} {names d e tE L g i acc K p} {rows : List (List Int)} {r : List Int} (hk : nt.k ≤ 9) (hi : rows.length = i) (ht : tE.bel 1) (hs : frOk s l)
    (hH : H = (pmA names d e tE L g i acc K p rows ++ [.cells 0 (r.map (.int .i64))]) ++ X) (bl : frBel (rows.length + 11) l) : Ent nt s H (Tab.fr l) (pmA names d e tE L g i acc K p rows ++ [.cells 0 (r.map (.int .i64))]) := by
  refine Ent.frD hs hH ?_ ?_ ?_
  · rw [List.length_append, pmA_len]; omega
  · rw [List.length_append, pmA_len]; exact bl
  · rw [List.length_append, pmA_len, blksBel_append]
    exact ⟨pmA_bel hi ht, by simp [blksBel, Blk.bel, bels_map, AV.bel]⟩
theorem pm_store {A : List Blk} {x : Blk} {r : List Int} {a : Nat} {v : Int} (ha : a < r.length) : ((A ++ [Blk.cells 0 (r.map (.int .i64))]) ++ [x]).set A.length (Blk.cells 0 (over (r.map (AV.int .i64)) (0 + a * 1) [.int .i64 v])) = (A ++ [Blk.cells 0 ((r.set a v).map (.int .i64))]) ++ [x] := by
  rw [set_prev, Nat.zero_add, Nat.mul_one, over_one (by rw [List.length_map]; exact ha), ← List.map_set]
set_option maxHeartbeats 2000000 in
theorem prod_made (names : List (List UInt8)) (d e : Den) (tE : AV) (cn : Bool → Bool → Bool) (fa : FuncId) (hd : DenOk d) (he : DenOk e) (rd : rightS d = true) (re : rightS e = true) (hk : d.tracks.length = e.tracks.length) (ht : tE.bel 1)
    (hfa : ∀ a b, Pure Try.prog fa [.bool a, .bool b] (.bool (cn a b))) (K : Nat) (hKe : 2 ^ d.tracks.length = K) :
    ACall Try.prog 116 [.agg [.hs 0 0 0 names.length 1, aBs d.ak d.accept, aRs d.nk d.next], .agg [tE, aBs e.ak e.accept, aRs e.nk e.next], .fn (.func fa) [] []] [.cells 0 (names.map .str)]
      fun o H' => (∃ L, prdR d e = some L ∧ o = .ret (.tup [.agg [.hs 0 0 0 names.length 1, .hs 7 L.length 0 L.length 1, .hs 8 L.length 0 L.length 1], .int .i64 0]) ∧
          ∃ b1 b2 b3 b4 b5 b6, H' = [.cells 0 (names.map .str), b1, b2, b3, b4, b5, b6, .cells L.length ((L.map (accP cn d e)).map .bool), .cells L.length (pmHs 9 K L.length)] ++ pmRows (L.map (rowX (pf d e) L)))
        ∨ (prdR d e = none ∧ o = .ret (.tup [aDen den0, .int .i64 140]) ∧ ∃ X, H' = .cells 0 (names.map .str) :: X) := by
  obtain ⟨gd1, gd2, gd3⟩ := rightS_parts rd
  obtain ⟨ge1, ge2, ge3⟩ := rightS_parts re
  obtain ⟨jd1, jd2, jd3, jd4⟩ := tracksS_parts gd1
  obtain ⟨je1, je2, je3, je4⟩ := tracksS_parts ge1
  have hpd := right_pos rd
  have hpe := right_pos re
  have hK : K ≤ 64 := by have : 2 ^ d.tracks.length ≤ 2 ^ 6 := Nat.pow_le_pow_right (by omega) jd1; omega
  have hst : Pure Try.prog 151 [] (.agg [.int .i64 (-1), .int .i64 (-1)]) := by
    refine Pure.of_sw 2 Try.func151 rfl Try.ntmps151 (by kernel_rfl) (Nat.le_of_ble_eq_true (by kernel_rfl)) (by simp [closeds, AV.closed, aSs_closed, aIs_closed, aBs_closed, aRs_closed, aDen_closed]) (by simp [AV.closed, closeds, aSs_closed, aIs_closed, aBs_closed, aRs_closed, aDen_closed]) ?_; refine SW.of_vc ?_
    repeat first | refine opsStep ?_ | refine codeStep ?_ | refine drawStep ?_
    exact finV (v' := .agg [.int .i64 (-1), .int .i64 (-1)]) (by kernel_rfl) rfl
  have hokst : ok2 stP := ok2_mk (by omega) (by omega) (by omega) (by omega)
  have hR : explO (pf d e) 256 (300 - 0) 0 [stP] = prdR d e := rfl
  have hpfl := fun p => pf_length d e p
  generalize prdR d e = R at *
  refine ACall.of_sw 125 Try.func116 rfl Try.ntmps116 (by kernel_rfl) (Nat.le_of_ble_eq_true (by kernel_rfl)) ?_; refine SW.of_vc ?_
  repeat first | refine opsStep ?_ | refine codeStep ?_ | refine drawStep ?_
  refine callP hst ?_
  repeat first | refine opsStep ?_ | refine codeStep ?_ | refine drawStep ?_
  refine put_num mapPP (kv := pv2 stP) (n := 0) (L := []) (by kernel_rfl) (keyPP hokst).choose_spec (by simp) (by simp) rfl ?_
  repeat first | refine opsStep ?_ | refine codeStep ?_ | refine drawStep ?_
  refine callP hst ?_
  repeat first | refine opsStep ?_ | refine codeStep ?_ | refine drawStep ?_
  refine loopE_of (ι := {x : Nat × List Pr × Nat // x.1 ≤ x.2.1.length ∧ explO (pf d e) 256 (300 - x.1) x.1 x.2.1 = R ∧ x.2.1.Nodup ∧ x.2.1.length ≤ 256 ∧ x.2.1[0]? = some stP ∧ (∀ p ∈ x.2.1, p = stP ∨ okS d e p) ∧ (∀ j, j < x.1 → ∀ s, x.2.1[j]? = some s → ∀ t ∈ pf d e s, t ∈ x.2.1)})
    (fun x => (fr [(2, .fn (.func fa) [] []), (3, .ref 1 0 0), (4, .ref 2 0 0), (6, .ref 3 0 0), (8, .mp 4), (9, .hs 5 (x.1.2.2) 0 (x.1.2.1).length 2), (10, .ref 6 0 0), (11, .int .i64 (x.1.1))], (pmB names d e tE (x.1.2.1) (x.1.2.2) (x.1.1) (((x.1.2.1.take x.1.1).map (accP cn d e))) K (9)) ++ pmRows ((x.1.2.1.take x.1.1).map (rowX (pf d e) x.1.2.1))))
    (fun x => 300 - x.1.1) ⟨(0, [stP], 0), by simp, hR, by simp, by simp, rfl, by simp, by simp⟩
    (((Ent.fr' (l := [(2, .fn (.func fa) [] []), (3, .ref 1 0 0), (4, .ref 2 0 0), (6, .ref 3 0 0), (8, .mp 4), (9, .hs 5 (0) 0 ([stP]).length 2), (10, .ref 6 0 0), (11, .int .i64 ((0 : Nat)))])
      (H' := [.cells 0 (names.map .str), .cells 0 [.hs 0 0 0 names.length 1, aBs d.ak d.accept, aRs d.nk d.next], .cells 0 [tE, aBs e.ak e.accept, aRs e.nk e.next], .cells 0 [.sl .nil 0 [], .sl .nil 0 [], .sl .nil 0 []],
        .dict (dI [pv2 stP]), .cells 0 (cp2 [stP]), .cells 0 [.hs 0 0 0 names.length 1, .sl .nil 0 [], .sl .nil 0 []]]) ⟨(by kernel_rfl), (by kernel_rfl), (by kernel_rfl), (by kernel_rfl), (by kernel_rfl), (by kernel_rfl), (by kernel_rfl), (by kernel_rfl), trivial⟩ (by kernel_rfl)).trans (Ent.nilCell 6 1 1 rfl rfl)).trans (Ent.nilCell 6 2 1 rfl rfl) |>.to rfl) ?_
  rintro ⟨⟨i, L, g⟩, hi, hex, hnd, hl256, h0, hok, hcz⟩
  simp only at hi hex hnd hl256 h0 hok hcz
  repeat first | refine opsStep ?_ | refine codeStep ?_ | refine drawStep ?_
  refine decB_dec (fun h => ?_) (fun h => ?_)
  · have hiL : i < L.length := by have := h; simp at this; omega
    obtain ⟨p, hpe⟩ : ∃ p, L[i] = p := ⟨_, rfl⟩
    have hgp : L[i]? = some p := by rw [List.getElem?_eq_getElem hiL, hpe]
    have hpm : p ∈ L := List.mem_of_getElem? hgp
    have hop := hok p hpm
    have hps := pst_ok rd re hop
    have hgc := cp2_get hgp
    have hcl := cp2_length L
    have hok2 : ok2 (p.1, p.2) := by
      rcases hop with rfl | ⟨q1, q2, q3, q4⟩
      · exact hokst
      · exact ok2_mk (by omega) (by omega) (by omega) (by omega)
    rw [show 300 - i = (300 - (i + 1)) + 1 by omega, explO, hgp] at hex
    simp only at hex
    have haccn : (L.take (i + 1)).map (accP cn d e) = (L.take i).map (accP cn d e) ++ [accP cn d e p] := by
      rw [List.take_succ_eq_append_getElem hiL, List.map_append, hpe]; rfl
    have hrown : (L.take (i + 1)).map (rowX (pf d e) (metL L (pf d e p))) = (L.take i).map (rowX (pf d e) L) ++ [rowX (pf d e) (metL L (pf d e p)) p] := by
      rw [List.take_succ_eq_append_getElem hiL, List.map_append, hpe]
      congr 1
      refine List.map_congr_left fun s hs => ?_
      obtain ⟨j, hj, rfl⟩ := List.getElem_of_mem hs
      have hji : j < i := by simp at hj; omega
      obtain ⟨r, hrr⟩ := metL_prefix (pf d e p) L
      rw [hrr]
      exact rowX_grow (hcz j hji _ (by simp [List.getElem?_eq_getElem (show j < L.length by omega)]))
    have hal : ((L.take i).map (accP cn d e)).length = i := by simp; omega
    have hrwl : ((L.take i).map (rowX (pf d e) L)).length = i := by simp; omega
    generalize (L.take i).map (accP cn d e) = acs at *
    generalize (L.take i).map (rowX (pf d e) L) = rws at *
    have hrl : (pmRows rws).length = i := by simp [pmRows, hrwl]
    repeat first | refine opsStep ?_ | refine codeStep ?_ | refine drawStep ?_
    refine guardE_of (by simp; omega) ?_
    repeat first | refine opsStep ?_ | refine codeStep ?_ | refine drawStep ?_
    refine guardE_of rfl ?_
    refine optE_of rfl ?_
    refine guardE_of (by show 0 + i * 2 + 2 ≤ (cp2 L).length; omega) ?_
    iterate 2 refine opsStep ?_
    have hraw : ((cp2 L).drop (0 + i * 2)).take 2 = [.int .i64 p.1, .int .i64 p.2] := by
      obtain ⟨c1, c2⟩ := hgc
      obtain ⟨k1, e1⟩ := List.getElem?_eq_some_iff.1 c1
      obtain ⟨k2, e2⟩ := List.getElem?_eq_some_iff.1 c2
      rw [Nat.zero_add, List.drop_eq_getElem_cons k1, List.drop_eq_getElem_cons k2, e1, e2]; rfl
    refine optE_of (get_last _ _) ?_
    refine guardE_of rfl ?_
    refine guardE_of ⟨by show (((cp2 L).drop (0 + i * 2)).take 2).length = 2; rw [hraw]; rfl, by decide, by decide⟩ ?_
    iterate 1 refine opsStep ?_
    refine VCode.ent (pm_in (l := [(2, .fn (.func fa) [] []), (3, .ref 1 0 0), (4, .ref 2 0 0), (6, .ref 3 0 0), (8, .mp 4), (9, .hs 5 (g) 0 (L).length 2), (10, .ref 6 0 0), (11, .int .i64 (i)), (12, .ref 9 0 0)]) (names := names) (d := d) (e := e) (K := K) (L := L) (g := g) (i := i) (acc := acs) (p := p) (rows := rws) (Nat.le_of_ble_eq_true (by kernel_rfl)) hrwl ht ⟨(by kernel_rfl), (by kernel_rfl), (by kernel_rfl), (by kernel_rfl), (by kernel_rfl), (by kernel_rfl), (by kernel_rfl), (by kernel_rfl), (by kernel_rfl), trivial⟩ (Eq.trans (b := ((pmB names d e tE (L) (g) (i) (acs) K (9)) ++ pmRows rws ++ [Blk.cells 0 [.int .i64 0, .int .i64 0]]).set ((pmB names d e tE (L) (g) (i) (acs) K (9)) ++ pmRows rws).length (.cells 0 (over [.int .i64 0, .int .i64 0] 0 (((cp2 L).drop (0 + i * 2)).take 2)))) (by kernel_rfl) (by rw [set_last, hraw]; simp [over])) (by simp [frBel, AV.bel, bels])) ?_
    repeat first | refine opsStep ?_ | refine codeStep ?_ | refine drawStep ?_
    refine SW.drawn rfl (by kernel_rfl) ?_
    repeat first | refine opsStep ?_ | refine codeStep ?_ | refine drawStep ?_
    refine .inl ⟨_, _, [], hst, RdsN_refl _, .inr rfl, none_need, ?_⟩
    repeat first | refine opsStep ?_ | refine codeStep ?_ | refine drawStep ?_
    refine ⟨_, eqlPP hok2 hokst, ?_⟩
    repeat first | refine opsStep ?_ | refine codeStep ?_ | refine drawStep ?_
    refine ⟨by kernel_rfl, ?_⟩
    refine VCode.join (b := decide ((p.1, p.2) = ((-1 : Int), (-1 : Int)))) (fr [(2, .fn (.func fa) [] []), (3, .ref 1 0 0), (4, .ref 2 0 0), (6, .ref 3 0 0), (8, .mp 4), (9, .hs 5 (g) 0 (L).length 2), (10, .ref 6 0 0), (11, .int .i64 (i)), (12, .ref 9 0 0)]) (pmA names d e tE (L) (g) i acs K (pst p) rws) (by kernel_rfl) (fun hz => ?_) (fun hz => ?_) ?_
    · have hz : p = stP := of_decide_eq_true hz
      repeat first | refine opsStep ?_ | refine codeStep ?_ | refine drawStep ?_
      refine Ent.fr' ⟨(by kernel_rfl), (by kernel_rfl), (by kernel_rfl), (by kernel_rfl), (by kernel_rfl), (by kernel_rfl), (by kernel_rfl), (by kernel_rfl), (by kernel_rfl), trivial⟩ ?_
      refine Eq.trans (b := (pmB names d e tE (L) (g) (i) (acs) K (10)) ++ .cells 0 (over [.int .i64 p.1, .int .i64 p.2] 0 [.int .i64 0, .int .i64 0]) :: pmRows rws) (by kernel_rfl) ?_
      rw [pmA, pst, if_pos hz]; rfl
    · have hz : ¬ p = stP := of_decide_eq_false hz
      repeat first | refine opsStep ?_ | refine codeStep ?_ | refine drawStep ?_
      refine Ent.fr' ⟨(by kernel_rfl), (by kernel_rfl), (by kernel_rfl), (by kernel_rfl), (by kernel_rfl), (by kernel_rfl), (by kernel_rfl), (by kernel_rfl), (by kernel_rfl), trivial⟩ ?_
      refine Eq.trans (b := (pmB names d e tE (L) (g) (i) (acs) K (10)) ++ .cells 0 [.int .i64 p.1, .int .i64 p.2] :: pmRows rws) (by kernel_rfl) ?_
      rw [pmA, pst, if_neg hz]
    intro s₁ H₁ hent
    refine VCode.ent hent ?_
    have hpf := hpfl p
    rw [hKe] at hpf
    have hfl : ∀ a, a < K → (pf d e p)[a]? = some ((stepN d.rows (pst p).1.toNat a : Int), (stepN e.rows (pst p).2.toNat a : Int)) := fun a ha => pf_get (by rw [hKe]; exact ha)
    have hsd : ∀ a, a < K → ∃ (h1 : (pst p).1.toNat < d.next.length) (h2 : a < (d.next[(pst p).1.toNat]).2.length), (d.next[(pst p).1.toNat]).2[a] = (stepN d.rows (pst p).1.toNat a : Int) ∧ stepN d.rows (pst p).1.toNat a < d.accept.length :=
      fun a ha => stepN_ok rd (by obtain ⟨q1, q2, q3, q4⟩ := hps; omega) (by rw [hKe]; exact ha)
    have hse : ∀ a, a < K → ∃ (h1 : (pst p).2.toNat < e.next.length) (h2 : a < (e.next[(pst p).2.toNat]).2.length), (e.next[(pst p).2.toNat]).2[a] = (stepN e.rows (pst p).2.toNat a : Int) ∧ stepN e.rows (pst p).2.toNat a < e.accept.length :=
      fun a ha => stepN_ok re (by obtain ⟨q1, q2, q3, q4⟩ := hps; omega) (by rw [← hk, hKe]; exact ha)
    have hokf := pf_ok rd re hk hop
    have hac : accP cn d e p = if i = 0 then false else cn (accN d.accept (pst p).1.toNat) (accN e.accept (pst p).2.toNat) := by
      by_cases e0 : i = 0
      · subst e0
        have : p = stP := by rw [h0] at hgp; exact (Option.some.inj hgp).symm
        rw [accP, if_pos this]; rfl
      · have hne : p ≠ stP := fun e => by
          obtain ⟨k1, e1⟩ := List.getElem?_eq_some_iff.1 h0
          exact List.pairwise_iff_getElem.1 hnd 0 i k1 hiL (by omega) (by rw [e1, hpe, e])
        rw [accP, if_neg hne, if_neg e0, pst, if_neg hne]
    have hnd0 : 0 < d.next.length := by omega
    have hr0 : d.next[0]? = some d.next[0] := List.getElem?_eq_getElem hnd0
    have hr0l : (d.next[0]).2.length = K := by rw [← hKe]; exact (rowOk_parts (gd3 _ (List.getElem_mem hnd0))).1
    generalize d.next[0] = r0 at *
    repeat first | refine opsStep ?_ | refine codeStep ?_ | refine drawStep ?_
    refine guardE_of (by simp; omega) ?_
    repeat first | refine opsStep ?_ | refine codeStep ?_ | refine drawStep ?_
    refine optE_of (c := aIs r0.1 r0.2) (by simp [Value.cells, hr0]) ?_
    repeat first | refine opsStep ?_ | refine codeStep ?_ | refine drawStep ?_
    refine guardE_of ⟨by omega, by omega, by show (8 : Int) * (r0.2.length : Int) ≤ 281474976710656; omega, by omega⟩ ?_
    repeat first | refine opsStep ?_ | refine codeStep ?_ | refine drawStep ?_
    refine loopE_of (ι := {y : Nat × Nat // y.1 ≤ K ∧ (metL L ((pf d e p).take y.1)).length ≤ 256})
      (fun y => (fr [(2, .fn (.func fa) [] []), (3, .ref 1 0 0), (4, .ref 2 0 0), (6, .ref 3 0 0), (8, .mp 4), (9, .hs 5 (y.1.2) 0 ((metL L ((pf d e p).take y.1.1))).length 2), (10, .ref 6 0 0), (11, .int .i64 (i)), (12, .ref 9 0 0), (13, .hs ((pmA names d e tE ((metL L ((pf d e p).take y.1.1))) (y.1.2) i acs K (pst p) rws)).length 0 0 K 1), (47, .int .i64 K), (48, .int .i64 y.1.1)],
        (pmA names d e tE ((metL L ((pf d e p).take y.1.1))) (y.1.2) i acs K (pst p) rws) ++ [(Blk.cells 0 ((partL (fun j => (ixOf (metL L (pf d e p)) ((pf d e p).getD j stP) : Int)) K (y.1.1)).map (.int .i64)))]))
      (fun y => K - y.1.1) ⟨(0, g), by omega, by simpa [metL] using hl256⟩ (Ent.fr' ⟨(by kernel_rfl), (by kernel_rfl), (by kernel_rfl), (by kernel_rfl), (by kernel_rfl), (by kernel_rfl), (by kernel_rfl), (by kernel_rfl), (by kernel_rfl), ?_, ?_, (by kernel_rfl), trivial⟩ ?_) ?_
    · refine Eq.trans (b := .hs ((pmA names d e tE (L) (g) i acs K (pst p) rws)).length 0 0 r0.2.length 1) (by kernel_rfl) ?_
      rw [hr0l]; rfl
    · refine Eq.trans (b := .int .i64 (r0.2.length : Nat)) (by kernel_rfl) ?_
      rw [hr0l]
    · refine Eq.trans (b := (pmA names d e tE (L) (g) i acs K (pst p) rws) ++ [.cells 0 (reps [.int .i64 0] r0.2.length)]) (by kernel_rfl) ?_
      rw [reps_one, partL_zero, hr0l]; simp [metL]
    rintro ⟨⟨a, g⟩, ha, hM256⟩
    simp only at ha hM256
    have hpl := partL_length (fun j => (ixOf (metL L (pf d e p)) ((pf d e p).getD j stP) : Int)) K a
    have hMok : ∀ y ∈ metL L ((pf d e p).take a), y = stP ∨ okS d e y := fun y hy => by
      rcases (metL_mem _ _ _).1 hy with hy | hy
      · exact hok y hy
      · exact .inr (hokf y (List.mem_of_mem_take hy))
    have hMn := metL_nodup ((pf d e p).take a) L hnd
    obtain ⟨M, hMe⟩ : ∃ M, metL L ((pf d e p).take a) = M := ⟨_, rfl⟩
    rw [hMe] at hMok hMn
    have hM256 : M.length ≤ 256 := by rw [← hMe]; exact hM256
    refine VCode.ent (Ent.fr' (l := [(2, .fn (.func fa) [] []), (3, .ref 1 0 0), (4, .ref 2 0 0), (6, .ref 3 0 0), (8, .mp 4), (9, .hs 5 (g) 0 (M).length 2), (10, .ref 6 0 0), (11, .int .i64 (i)), (12, .ref 9 0 0), (13, .hs ((pmA names d e tE (M) (g) i acs K (pst p) rws)).length 0 0 K 1), (47, .int .i64 K), (48, .int .i64 a)])
      (H' := (pmA names d e tE (M) (g) i acs K (pst p) rws) ++ [(Blk.cells 0 ((partL (fun j => (ixOf (metL L (pf d e p)) ((pf d e p).getD j stP) : Int)) K (a)).map (.int .i64)))]) ⟨(by kernel_rfl), (by kernel_rfl), (by kernel_rfl), (by kernel_rfl), (by kernel_rfl), ?_, (by kernel_rfl), (by kernel_rfl), (by kernel_rfl), (by kernel_rfl), (by kernel_rfl), (by kernel_rfl), trivial⟩ ?_) ?_
    · subst hMe; kernel_rfl
    · subst hMe; kernel_rfl
    repeat first | refine opsStep ?_ | refine codeStep ?_ | refine drawStep ?_
    refine decB_dec (fun hg => ?_) (fun hg => ?_)
    · have hal : a < K := by have := hg; simp at this; omega
      obtain ⟨s1, s2, s3, s4⟩ := hsd a hal
      obtain ⟨t1, t2, t3, t4⟩ := hse a hal
      have hfa : a < (pf d e p).length := by rw [hpf]; exact hal
      have hfe : (pf d e p)[a] = ((stepN d.rows (pst p).1.toNat a : Int), (stepN e.rows (pst p).2.toNat a : Int)) := by
        have := hfl a hal
        rw [List.getElem?_eq_getElem hfa] at this
        exact Option.some.inj this
      have hit := metL_at_hit (acc := L) hfa
      have miss := metL_at_miss (acc := L) hfa
      have hgd : (pf d e p).getD a stP = ((stepN d.rows (pst p).1.toNat a : Int), (stepN e.rows (pst p).2.toNat a : Int)) := by rw [List.getD_eq_getElem?_getD, hfl a hal]; rfl
      rw [hfe, hMe] at hit miss
      have sg : d.next[(pst p).1.toNat]? = some d.next[(pst p).1.toNat] := List.getElem?_eq_getElem s1
      have tg : e.next[(pst p).2.toNat]? = some e.next[(pst p).2.toNat] := List.getElem?_eq_getElem t1
      have s5 : (d.next[(pst p).1.toNat]).2[a]? = some (stepN d.rows (pst p).1.toNat a : Int) := by rw [List.getElem?_eq_getElem s2, s3]
      have t5 : (e.next[(pst p).2.toNat]).2[a]? = some (stepN e.rows (pst p).2.toNat a : Int) := by rw [List.getElem?_eq_getElem t2, t3]
      have hco : ok2 ((stepN d.rows (pst p).1.toNat a : Int), (stepN e.rows (pst p).2.toNat a : Int)) := ok2_mk (by omega) (by omega) (by omega) (by omega)
      obtain ⟨q1, q2, q3, q4⟩ := hps
      generalize (stepN d.rows (pst p).1.toNat a : Int) = c1 at *
      generalize (stepN e.rows (pst p).2.toNat a : Int) = c2 at *
      generalize d.next[(pst p).1.toNat] = r1 at *
      generalize e.next[(pst p).2.toNat] = r2 at *
      repeat first | refine opsStep ?_ | refine codeStep ?_ | refine drawStep ?_
      refine SW.drawn rfl (by kernel_rfl) ?_
      repeat first | refine opsStep ?_ | refine codeStep ?_ | refine drawStep ?_
      refine guardE_of (by omega) ?_
      repeat first | refine opsStep ?_ | refine codeStep ?_ | refine drawStep ?_
      refine optE_of (c := aIs r1.1 r1.2) (by simp [Value.cells, sg]) ?_
      repeat first | refine opsStep ?_ | refine codeStep ?_ | refine drawStep ?_
      refine guardE_of (by simp; omega) ?_
      repeat first | refine opsStep ?_ | refine codeStep ?_ | refine drawStep ?_
      refine optE_of (c := .int .i64 c1) (by simp [Value.cells, s5]) ?_
      repeat first | refine opsStep ?_ | refine codeStep ?_ | refine drawStep ?_
      refine guardE_of (by omega) ?_
      repeat first | refine opsStep ?_ | refine codeStep ?_ | refine drawStep ?_
      refine optE_of (c := aIs r2.1 r2.2) (by simp [Value.cells, tg]) ?_
      repeat first | refine opsStep ?_ | refine codeStep ?_ | refine drawStep ?_
      refine guardE_of (by simp; omega) ?_
      repeat first | refine opsStep ?_ | refine codeStep ?_ | refine drawStep ?_
      refine optE_of (c := .int .i64 c2) (by simp [Value.cells, t5]) ?_
      repeat first | refine opsStep ?_ | refine codeStep ?_ | refine drawStep ?_
      refine optE_of (get_last _ _) ?_
      refine guardE_of rfl ?_
      repeat first | refine opsStep ?_ | refine codeStep ?_ | refine drawStep ?_
      refine ⟨by kernel_rfl, ?_⟩
      refine VCode.ent (Ent.fr' (l := [(2, .fn (.func fa) [] []), (3, .ref 1 0 0), (4, .ref 2 0 0), (6, .ref 3 0 0), (8, .mp 4), (9, .hs 5 (g) 0 (M).length 2), (10, .ref 6 0 0), (11, .int .i64 (i)), (12, .ref 9 0 0), (13, .hs ((pmA names d e tE (M) (g) i acs K (pst p) rws)).length 0 0 K 1), (14, .int .i64 a), (15, .ref ((pmA names d e tE (M) (g) i acs K (pst p) rws) ++ [(Blk.cells 0 ((partL (fun j => (ixOf (metL L (pf d e p)) ((pf d e p).getD j stP) : Int)) K (a)).map (.int .i64)))]).length 0 0), (47, .int .i64 K), (48, .int .i64 a)])
        (H' := ((pmA names d e tE (M) (g) i acs K (pst p) rws) ++ [(Blk.cells 0 ((partL (fun j => (ixOf (metL L (pf d e p)) ((pf d e p).getD j stP) : Int)) K (a)).map (.int .i64)))]) ++ [(Blk.cells 0 [.int .i64 c1, .int .i64 c2])]) ⟨(by kernel_rfl), (by kernel_rfl), (by kernel_rfl), (by kernel_rfl), (by kernel_rfl), (by kernel_rfl), (by kernel_rfl), (by kernel_rfl), (by kernel_rfl), (by kernel_rfl), (by kernel_rfl), (by kernel_rfl), (by kernel_rfl), (by kernel_rfl), trivial⟩ ?_) ?_
      · refine Eq.trans (b := (((pmA names d e tE (M) (g) i acs K (pst p) rws) ++ [(Blk.cells 0 ((partL (fun j => (ixOf (metL L (pf d e p)) ((pf d e p).getD j stP) : Int)) K (a)).map (.int .i64)))]) ++ [Blk.cells 0 [.int .i64 0, .int .i64 0]]).set ((pmA names d e tE (M) (g) i acs K (pst p) rws) ++ [(Blk.cells 0 ((partL (fun j => (ixOf (metL L (pf d e p)) ((pf d e p).getD j stP) : Int)) K (a)).map (.int .i64)))]).length (.cells 0 (over [.int .i64 0, .int .i64 0] 0 [.int .i64 c1, .int .i64 c2]))) (by kernel_rfl) ?_
        rw [set_last]; simp [over]
      have hn2 : (M.map pv2).Nodup := List.Pairwise.map _ (fun x y h e => h (pv2_inj e)) hMn
      have hMo2 : ∀ y ∈ M, ok2 y := fun y hy => by
        rcases hMok y hy with rfl | ⟨q1, q2, q3, q4⟩
        · exact hokst
        · exact ok2_mk (by omega) (by omega) (by omega) (by omega)
      have hks : ∀ x ∈ M.map pv2, ∃ q, keyOf Try.prog 197 x = some q := fun x hx => by
        obtain ⟨y, hy, rfl⟩ := List.mem_map.1 hx
        exact keyPP (hMo2 y hy)
      obtain ⟨lx, hlx⟩ := keyPP hco
      repeat first | refine opsStep ?_ | refine codeStep ?_ | refine drawStep ?_
      refine optE_of (get_last _ _) ?_
      refine guardE_of rfl ?_
      repeat first | refine opsStep ?_ | refine codeStep ?_ | refine drawStep ?_
      refine look_num mapPP (kv := pv2 (c1, c2)) (by kernel_rfl) hlx hn2 hks (fun k hkk => ?_) (fun hnm => ?_)
      · obtain ⟨y, hy, hye⟩ : ∃ y, M[k]? = some y ∧ pv2 y = pv2 (c1, c2) := by
          rw [List.getElem?_map, Option.map_eq_some_iff] at hkk; exact hkk
        have hye := pv2_inj hye
        subst hye
        have hm := List.mem_of_getElem? hy
        have hix := ixOf_get hMn hy
        obtain ⟨z1, z2⟩ := hit hm
        rw [hix] at z2
        repeat first | refine opsStep ?_ | refine codeStep ?_ | refine drawStep ?_
        refine guardE_of (by simp; omega) ?_
        repeat first | refine opsStep ?_ | refine codeStep ?_ | refine drawStep ?_
        refine optE_of (get_prev _ _ _) ?_
        refine guardE_of rfl ?_
        refine guardE_of ⟨rfl, by decide, by show 0 + a * 1 + 1 ≤ ((partL (fun j => (ixOf (metL L (pf d e p)) ((pf d e p).getD j stP) : Int)) K (a)).map (AV.int .i64)).length; rw [List.length_map, hpl]; omega⟩ ?_
        repeat first | refine opsStep ?_ | refine codeStep ?_ | refine drawStep ?_
        refine ⟨⟨(a + 1, g), by omega, by rw [z1]; exact hM256⟩, (by show K - (a + 1) < K - a; omega), Ent.to (pm_row (l := [(2, .fn (.func fa) [] []), (3, .ref 1 0 0), (4, .ref 2 0 0), (6, .ref 3 0 0), (8, .mp 4), (9, .hs 5 (g) 0 ((metL L ((pf d e p).take (a + 1)))).length 2), (10, .ref 6 0 0), (11, .int .i64 (i)), (12, .ref 9 0 0), (13, .hs ((pmA names d e tE ((metL L ((pf d e p).take (a + 1)))) (g) i acs K (pst p) rws)).length 0 0 K 1), (47, .int .i64 K), (48, .int .i64 (a + 1 : Nat))]) (X := [(Blk.cells 0 [.int .i64 c1, .int .i64 c2])]) (r := (partL (fun j => (ixOf (metL L (pf d e p)) ((pf d e p).getD j stP) : Int)) K (a)).set a (k : Nat)) (names := names) (d := d) (e := e) (tE := tE) (L := M) (g := g) (i := i) (acc := acs) (K := K) (p := pst p) (rows := rws)
          (Nat.le_of_ble_eq_true (by kernel_rfl)) hrwl ht ⟨(by kernel_rfl), (by kernel_rfl), (by kernel_rfl), (by kernel_rfl), (by kernel_rfl), Eq.trans (b := .hs 5 g 0 M.length 2) (by kernel_rfl) (by rw [z1]), (by kernel_rfl), (by kernel_rfl), (by kernel_rfl), (by kernel_rfl), (by kernel_rfl), inc_slot (i := a) (by omega), trivial⟩ (Eq.trans (b := (((pmA names d e tE (M) (g) i acs K (pst p) rws) ++ [(Blk.cells 0 ((partL (fun j => (ixOf (metL L (pf d e p)) ((pf d e p).getD j stP) : Int)) K (a)).map (.int .i64)))]) ++ [(Blk.cells 0 [.int .i64 c1, .int .i64 c2])]).set ((pmA names d e tE (M) (g) i acs K (pst p) rws)).length (Blk.cells 0 (over ((partL (fun j => (ixOf (metL L (pf d e p)) ((pf d e p).getD j stP) : Int)) K (a)).map (.int .i64)) (0 + a * 1) [.int .i64 (k : Nat)]))) (by kernel_rfl) (pm_store (by rw [hpl]; exact hal))) ?_) ?_⟩
        · rw [pmA_len]; simp [frBel, AV.bel, bels]
        · show _ = (pmA names d e tE ((metL L ((pf d e p).take (a + 1)))) (g) i acs K (pst p) rws) ++ [(Blk.cells 0 ((partL (fun j => (ixOf (metL L (pf d e p)) ((pf d e p).getD j stP) : Int)) K (a + 1)).map (.int .i64)))]
          rw [z1, ← partL_step, hgd, z2]
      · have hnm' : (c1, c2) ∉ M := fun h => hnm (List.mem_map.2 ⟨_, h, rfl⟩)
        obtain ⟨z1, z2⟩ := miss hnm'
        repeat first | refine opsStep ?_ | refine codeStep ?_ | refine drawStep ?_
        refine decB_dec (fun h256 => ?_) (fun h256 => ?_)
        · have h256 : M.length = 256 := by have := h256; omega
          have hbig : 256 < (metL L (pf d e p)).length := by
            obtain ⟨r, hr⟩ := metL_prefix ((pf d e p).drop (a + 1)) (metL L ((pf d e p).take (a + 1)))
            rw [← metL_append, List.take_append_drop] at hr
            rw [hr, z1]; simp; omega
          rw [if_pos hbig] at hex
          have h4 := AV.bel_le (show 1 ≤ 4 by omega) tE ht
          repeat first | refine opsStep ?_ | refine codeStep ?_ | refine drawStep ?_
          refine ⟨_, _, _, Ent.frT 4 (l := [(6, .ref 3 0 0), (7, .int .i64 140)]) (H' := [.cells 0 (names.map .str), .cells 0 [.hs 0 0 0 names.length 1, aBs d.ak d.accept, aRs d.nk d.next], .cells 0 [tE, aBs e.ak e.accept, aRs e.nk e.next], .cells 0 [.sl .nil 0 [], .sl .nil 0 [], .sl .nil 0 []]])
            ⟨(by kernel_rfl), (by kernel_rfl), trivial⟩ (by kernel_rfl) (Nat.le_of_ble_eq_true (by kernel_rfl)) (by simp [frBel, AV.bel]) (by simp [blksBel, Blk.bel, bels, AV.bel, bels_map, aBs_bel, aRs_bel, h4]), (by kernel_rfl), .inr ⟨hex.symm, rfl, _, rfl⟩⟩
        · have h256 : M.length < 256 := by have := h256; omega
          have hm1 : (metL L ((pf d e p).take (a + 1))).length ≤ 256 := by rw [z1, List.length_append, List.length_singleton]; omega
          repeat first | refine opsStep ?_ | refine codeStep ?_ | refine drawStep ?_
          refine optE_of (get_last _ _) ?_
          refine guardE_of rfl ?_
          repeat first | refine opsStep ?_ | refine codeStep ?_ | refine drawStep ?_
          refine put_num mapPP (kv := pv2 (c1, c2)) (n := M.length) (L := M.map pv2) (by kernel_rfl) hlx hks hnm (by simp) ?_
          repeat first | refine opsStep ?_ | refine codeStep ?_ | refine drawStep ?_
          refine optE_of (show (List.set (((pmA names d e tE (M) (g) i acs K (pst p) rws) ++ [(Blk.cells 0 ((partL (fun j => (ixOf (metL L (pf d e p)) ((pf d e p).getD j stP) : Int)) K (a)).map (.int .i64)))]) ++ [(Blk.cells 0 [.int .i64 c1, .int .i64 c2])]) 4 (.dict (dI (M.map pv2 ++ [pv2 (c1, c2)]))))[((pmA names d e tE (M) (g) i acs K (pst p) rws) ++ [(Blk.cells 0 ((partL (fun j => (ixOf (metL L (pf d e p)) ((pf d e p).getD j stP) : Int)) K (a)).map (.int .i64)))]).length]? = some (Blk.cells 0 [.int .i64 c1, .int .i64 c2]) from by
            rw [List.getElem?_set_ne (by rw [List.length_append, pmA_len]; omega)]; exact get_last _ _) ?_
          refine guardE_of rfl ?_
          repeat first | refine opsStep ?_ | refine codeStep ?_ | refine drawStep ?_
          refine guardE_of ⟨rfl, by show 0 + M.length * 2 ≤ (cp2 M).length; rw [cp2_length]; omega⟩ ?_
          refine guardE_of rfl ?_
          refine optE_of (get_last _ _) ?_
          refine guardE_of ⟨rfl, Nat.le_refl _⟩ ?_
          refine guardE_of ⟨by omega, by show (M.length + 1) * 16 ≤ 140737488355328; omega⟩ ?_
          iterate 2 refine opsStep ?_
          refine VCode.ent (pm_row (l := [(2, .fn (.func fa) [] []), (3, .ref 1 0 0), (4, .ref 2 0 0), (6, .ref 3 0 0), (8, .mp 4), (9, .hs 5 ((g + 1)) 0 ((M ++ [(c1, c2)])).length 2), (10, .ref 6 0 0), (11, .int .i64 (i)), (12, .ref 9 0 0), (13, .hs ((pmA names d e tE ((M ++ [(c1, c2)])) ((g + 1)) i acs K (pst p) rws)).length 0 0 K 1), (14, .int .i64 a), (16, .int .i64 M.length), (47, .int .i64 K), (48, .int .i64 a)]) (X := [(Blk.cells 0 [.int .i64 c1, .int .i64 c2]), (Blk.cells 0 [.int .i64 c1, .int .i64 c2])]) (r := (partL (fun j => (ixOf (metL L (pf d e p)) ((pf d e p).getD j stP) : Int)) K (a))) (names := names) (d := d) (e := e) (tE := tE) (L := M ++ [(c1, c2)]) (g := g + 1) (i := i) (acc := acs) (K := K) (p := pst p) (rows := rws)
            (Nat.le_of_ble_eq_true (by kernel_rfl)) hrwl ht ⟨(by kernel_rfl), (by kernel_rfl), (by kernel_rfl), (by kernel_rfl), (by kernel_rfl), Eq.trans (b := .hs 5 (g + 1) 0 (M.length + 1) 2) (by kernel_rfl) (by rw [List.length_append]; rfl), (by kernel_rfl), (by kernel_rfl), (by kernel_rfl), (by kernel_rfl), (by kernel_rfl), (by kernel_rfl), (by kernel_rfl), (by kernel_rfl), trivial⟩
            (Eq.trans (b := (((pmC names d e tE (.dict (dI (M.map pv2 ++ [pv2 (c1, c2)]))) (.cells (g + 1) (((cp2 M).drop 0).take (M.length * 2) ++ [.int .i64 c1, .int .i64 c2])) i acs K 10 ++ .cells 0 [.int .i64 (pst p).1, .int .i64 (pst p).2] :: pmRows rws) ++ [(Blk.cells 0 ((partL (fun j => (ixOf (metL L (pf d e p)) ((pf d e p).getD j stP) : Int)) K (a)).map (.int .i64)))]) ++ [(Blk.cells 0 [.int .i64 c1, .int .i64 c2])]) ++ [(Blk.cells 0 [.int .i64 c1, .int .i64 c2])]) (by kernel_rfl) (by rw [cp2_snoc M (c1, c2), pmA, pmB, List.map_append, List.append_assoc (_ ++ [_]) [_] [_]]; rfl)) ?_) ?_
          · rw [pmA_len]; simp [frBel, AV.bel, bels]
          repeat first | refine opsStep ?_ | refine codeStep ?_ | refine drawStep ?_
          refine guardE_of (by simp; omega) ?_
          repeat first | refine opsStep ?_ | refine codeStep ?_ | refine drawStep ?_
          refine optE_of (get_last _ _) ?_
          refine guardE_of rfl ?_
          refine guardE_of ⟨rfl, by decide, by show 0 + a * 1 + 1 ≤ ((partL (fun j => (ixOf (metL L (pf d e p)) ((pf d e p).getD j stP) : Int)) K (a)).map (AV.int .i64)).length; rw [List.length_map, hpl]; omega⟩ ?_
          repeat first | refine opsStep ?_ | refine codeStep ?_ | refine drawStep ?_
          refine ⟨⟨(a + 1, g + 1), by omega, hm1⟩, (by show K - (a + 1) < K - a; omega), Ent.to (pm_row (l := [(2, .fn (.func fa) [] []), (3, .ref 1 0 0), (4, .ref 2 0 0), (6, .ref 3 0 0), (8, .mp 4), (9, .hs 5 ((g + 1)) 0 ((metL L ((pf d e p).take (a + 1)))).length 2), (10, .ref 6 0 0), (11, .int .i64 (i)), (12, .ref 9 0 0), (13, .hs ((pmA names d e tE ((metL L ((pf d e p).take (a + 1)))) ((g + 1)) i acs K (pst p) rws)).length 0 0 K 1), (47, .int .i64 K), (48, .int .i64 (a + 1 : Nat))]) (X := []) (r := (partL (fun j => (ixOf (metL L (pf d e p)) ((pf d e p).getD j stP) : Int)) K (a)).set a (M.length : Nat)) (names := names) (d := d) (e := e) (tE := tE) (L := M ++ [(c1, c2)]) (g := g + 1) (i := i) (acc := acs) (K := K) (p := pst p) (rows := rws)
            (Nat.le_of_ble_eq_true (by kernel_rfl)) hrwl ht ⟨(by kernel_rfl), (by kernel_rfl), (by kernel_rfl), (by kernel_rfl), (by kernel_rfl), Eq.trans (b := .hs 5 (g + 1) 0 (M ++ [(c1, c2)]).length 2) (by kernel_rfl) (by rw [z1]), (by kernel_rfl), (by kernel_rfl), (by kernel_rfl), (by kernel_rfl), (by kernel_rfl), inc_slot (i := a) (by omega), trivial⟩ (Eq.trans (b := ((pmA names d e tE ((M ++ [(c1, c2)])) ((g + 1)) i acs K (pst p) rws) ++ [(Blk.cells 0 ((partL (fun j => (ixOf (metL L (pf d e p)) ((pf d e p).getD j stP) : Int)) K (a)).map (.int .i64)))]).set ((pmA names d e tE ((M ++ [(c1, c2)])) ((g + 1)) i acs K (pst p) rws)).length (Blk.cells 0 (over ((partL (fun j => (ixOf (metL L (pf d e p)) ((pf d e p).getD j stP) : Int)) K (a)).map (.int .i64)) (0 + a * 1) [.int .i64 (M.length : Nat)]))) (by kernel_rfl) (by
              rw [set_last, Nat.zero_add, Nat.mul_one, over_one (by rw [List.length_map, hpl]; exact hal), ← List.map_set, List.append_nil])) ?_) ?_⟩
          · rw [pmA_len]; simp [frBel, AV.bel, bels]
          · show _ = (pmA names d e tE ((metL L ((pf d e p).take (a + 1)))) ((g + 1)) i acs K (pst p) rws) ++ [(Blk.cells 0 ((partL (fun j => (ixOf (metL L (pf d e p)) ((pf d e p).getD j stP) : Int)) K (a + 1)).map (.int .i64)))]
            rw [z1, ← partL_step, hgd, z2]
    · have hae : a = K := by have := hg; simp at this; omega
      have hta : (pf d e p).take a = pf d e p := List.take_of_length_le (by rw [hpf]; omega)
      rw [hta] at hMe
      have hall : (List.range K).map (fun j => (ixOf (metL L (pf d e p)) ((pf d e p).getD j stP) : Int)) = rowX (pf d e) (metL L (pf d e p)) p := by
        rw [rowX]
        refine List.ext_getElem (by simp [hpf]) fun j h1 h2 => ?_
        have hj : j < (pf d e p).length := by simpa using h2
        simp [List.getD_eq_getElem?_getD, hj, ixOf]
      have hrxl : (rowX (pf d e) (metL L (pf d e p)) p).length = K := by rw [rowX, List.length_map, hpf]
      have hcz' : ∀ j, j < i + 1 → ∀ s, (metL L (pf d e p))[j]? = some s → ∀ t ∈ pf d e s, t ∈ metL L (pf d e p) := fun j hj s hs t ht => by
        obtain ⟨r, hrr⟩ := metL_prefix (pf d e p) L
        have hs' : L[j]? = some s := by rw [hrr, List.getElem?_append_left (by omega)] at hs; exact hs
        refine (metL_mem t _ _).2 ?_
        by_cases e : j = i
        · subst e
          rw [hgp] at hs'
          cases hs'
          exact .inr ht
        · exact .inl (hcz j (by omega) s hs' t ht)
      have hmore : i + 1 ≤ (metL L (pf d e p)).length := by
        obtain ⟨r, hrr⟩ := metL_prefix (pf d e p) L
        rw [hrr, List.length_append]; omega
      have htk : (metL L (pf d e p)).take (i + 1) = L.take (i + 1) := by
        obtain ⟨r, hrr⟩ := metL_prefix (pf d e p) L
        rw [hrr, List.take_append_of_le_length (by omega)]
      have h0' : (metL L (pf d e p))[0]? = some stP := by
        obtain ⟨r, hrr⟩ := metL_prefix (pf d e p) L
        rw [hrr, List.getElem?_append_left (by omega)]; exact h0
      have hrow : (partL (fun j => (ixOf (metL L (pf d e p)) ((pf d e p).getD j stP) : Int)) K (a)) = rowX (pf d e) (metL L (pf d e p)) p := by rw [hae, partL_full, hall]
      rw [← htk] at haccn hrown
      rw [hMe] at hex haccn hrown hcz' hmore h0' hrxl hrow
      rw [if_neg (by omega)] at hex
      generalize rowX (pf d e) M p = rx at *
      refine VCode.ent (Ent.fr' (l := [(2, .fn (.func fa) [] []), (3, .ref 1 0 0), (4, .ref 2 0 0), (6, .ref 3 0 0), (8, .mp 4), (9, .hs 5 (g) 0 (M).length 2), (10, .ref 6 0 0), (11, .int .i64 (i)), (12, .ref 9 0 0), (13, .hs ((pmA names d e tE (M) (g) i acs K (pst p) rws)).length 0 0 K 1)]) (H' := (pmA names d e tE (M) (g) i acs K (pst p) rws) ++ [.cells 0 (rx.map (.int .i64))]) ⟨(by kernel_rfl), (by kernel_rfl), (by kernel_rfl), (by kernel_rfl), (by kernel_rfl), (by kernel_rfl), (by kernel_rfl), (by kernel_rfl), (by kernel_rfl), (by kernel_rfl), trivial⟩ (Eq.trans (b := (pmA names d e tE (M) (g) i acs K (pst p) rws) ++ [(Blk.cells 0 ((partL (fun j => (ixOf (metL L (pf d e p)) ((pf d e p).getD j stP) : Int)) K (a)).map (.int .i64)))]) (by kernel_rfl) (by rw [hMe, hrow]))) ?_
      obtain ⟨q1, q2, q3, q4⟩ := hps
      have qa : d.accept[(pst p).1.toNat]? = some (accN d.accept (pst p).1.toNat) := by simp [accN, List.getD_eq_getElem?_getD, show (pst p).1.toNat < d.accept.length by omega]
      have qb : e.accept[(pst p).2.toNat]? = some (accN e.accept (pst p).2.toNat) := by simp [accN, List.getD_eq_getElem?_getD, show (pst p).2.toNat < e.accept.length by omega]
      repeat first | refine opsStep ?_ | refine codeStep ?_ | refine drawStep ?_
      refine SW.drawn rfl (by kernel_rfl) ?_
      repeat first | refine opsStep ?_ | refine codeStep ?_ | refine drawStep ?_
      refine decB_dec (fun hq0 => ?_) (fun hq0 => ?_)
      · have hq0 : ¬ i = 0 := by have := hq0; simp at this; omega
        rw [if_neg hq0] at hac
        repeat first | refine opsStep ?_ | refine codeStep ?_ | refine drawStep ?_
        refine guardE_of (by omega) ?_
        repeat first | refine opsStep ?_ | refine codeStep ?_ | refine drawStep ?_
        refine optE_of (c := .bool (accN d.accept (pst p).1.toNat)) (by simp [Value.cells, qa]) ?_
        repeat first | refine opsStep ?_ | refine codeStep ?_ | refine drawStep ?_
        refine guardE_of (by omega) ?_
        repeat first | refine opsStep ?_ | refine codeStep ?_ | refine drawStep ?_
        refine optE_of (c := .bool (accN e.accept (pst p).2.toNat)) (by simp [Value.cells, qb]) ?_
        repeat first | refine opsStep ?_ | refine codeStep ?_ | refine drawStep ?_
        refine .inl ⟨_, _, [], (hfa (accN d.accept (pst p).1.toNat) (accN e.accept (pst p).2.toNat)), RdsN_refl _, .inr rfl, none_need, ?_⟩
        rw [← hac]
        repeat first | refine opsStep ?_ | refine codeStep ?_ | refine drawStep ?_
        refine guardE_of ⟨rfl, by simp [hal]⟩ ?_
        refine guardE_of rfl ?_
        refine optE_of (get_last _ _) ?_
        refine guardE_of ⟨rfl, Nat.le_refl _⟩ ?_
        refine guardE_of ⟨by omega, by show (i + 1) * 1 ≤ 140737488355328; omega⟩ ?_
        repeat first | refine opsStep ?_ | refine codeStep ?_ | refine drawStep ?_
        refine ⟨by kernel_rfl, ?_⟩
        repeat first | refine opsStep ?_ | refine codeStep ?_ | refine drawStep ?_
        refine guardE_of ⟨rfl, by simp [pmHs]⟩ ?_
        refine guardE_of rfl ?_
        refine optE_of (get_last _ _) ?_
        refine guardE_of ⟨rfl, Nat.le_refl _⟩ ?_
        refine guardE_of ⟨by omega, by show (i + 1) * 24 ≤ 140737488355328; omega⟩ ?_
        repeat first | refine opsStep ?_ | refine codeStep ?_ | refine drawStep ?_
        refine ⟨⟨(i + 1, M, g), hmore, hex, hMn, hM256, h0', hMok, hcz'⟩, (by show 300 - (i + 1) < 300 - i; omega), Ent.to (pm_out (l := [(2, .fn (.func fa) [] []), (3, .ref 1 0 0), (4, .ref 2 0 0), (6, .ref 3 0 0), (8, .mp 4), (9, .hs 5 (g) 0 (M).length 2), (10, .ref 6 0 0), (11, .int .i64 ((i + 1 : Nat)))]) (names := names) (d := d) (e := e) (tE := tE) (L := M) (g := g) (i := i + 1) (acc := acs ++ [accP cn d e p]) (K := K) (rows := rws ++ [rx]) (x := .cells 0 [.int .i64 (pst p).1, .int .i64 (pst p).2])
          (X := [.cells 0 [.bool (accP cn d e p)], .cells 0 [.hs ((pmA names d e tE (M) (g) i acs K (pst p) rws)).length 0 0 K 1]]) (Nat.le_of_ble_eq_true (by kernel_rfl)) (by rw [List.length_append, hrwl]; rfl) ht ⟨(by kernel_rfl), (by kernel_rfl), (by kernel_rfl), (by kernel_rfl), (by kernel_rfl), (by kernel_rfl), (by kernel_rfl), inc_slot (i := i) (by omega), trivial⟩ (Eq.trans (b := ((([.cells 0 (names.map .str), .cells 0 [.hs 0 0 0 names.length 1, aBs d.ak d.accept, aRs d.nk d.next], .cells 0 [tE, aBs e.ak e.accept, aRs e.nk e.next], .cells 0 [.sl .nil 0 [], .sl .nil 0 [], .sl .nil 0 []],
            .dict (dI (M.map pv2)), .cells g (cp2 M), .cells 0 [.hs 0 0 0 names.length 1, .hs 7 (i + 1) 0 (i + 1) 1, .hs 8 (i + 1) 0 (i + 1) 1], .cells (i + 1) (((acs.map AV.bool).drop 0).take (i * 1) ++ [.bool (accP cn d e p)]), .cells (i + 1) (((pmHs 10 K i).drop 0).take (i * 1) ++ [.hs ((pmA names d e tE (M) (g) i acs K (pst p) rws)).length 0 0 K 1])] ++ .cells 0 [.int .i64 (pst p).1, .int .i64 (pst p).2] :: pmRows rws) ++ [Blk.cells 0 (rx.map (.int .i64))]) ++ [Blk.cells 0 [.bool (accP cn d e p)]]) ++ [Blk.cells 0 [.hs ((pmA names d e tE (M) (g) i acs K (pst p) rws)).length 0 0 K 1]]) (by kernel_rfl) ?_) ?_) ?_⟩
        · rw [td_all (by simp [hal]), td_all (by simp [pmHs]), pmA_len, hrwl]
          have e1 : pmHs 10 K i ++ [.hs (i + 10) 0 0 K 1] = pmHs 10 K (i + 1) := by simp [pmHs, List.range_succ, Nat.add_comm]
          have e2 : pmRows (rws ++ [rx]) = pmRows rws ++ [Blk.cells 0 (rx.map (.int .i64))] := by simp [pmRows]
          rw [e1, e2, pmB, pmC, List.map_append]
          simp
        · simp [frBel, AV.bel, bels]
        · show _ = (pmB names d e tE (M) (g) ((i + 1)) (((M.take (i + 1)).map (accP cn d e))) K (9)) ++ pmRows ((M.take (i + 1)).map (rowX (pf d e) M))
          rw [haccn, hrown, (rfl : accP cn d e p = accP cn d e p)]
      · have hq0 : i = 0 := by have := hq0; simp at this; omega
        rw [if_pos hq0] at hac
        repeat first | refine opsStep ?_ | refine codeStep ?_ | refine drawStep ?_
        refine guardE_of ⟨rfl, by simp [hal]⟩ ?_
        refine guardE_of rfl ?_
        refine optE_of (get_last _ _) ?_
        refine guardE_of ⟨rfl, Nat.le_refl _⟩ ?_
        refine guardE_of ⟨by omega, by show (i + 1) * 1 ≤ 140737488355328; omega⟩ ?_
        repeat first | refine opsStep ?_ | refine codeStep ?_ | refine drawStep ?_
        refine ⟨by kernel_rfl, ?_⟩
        repeat first | refine opsStep ?_ | refine codeStep ?_ | refine drawStep ?_
        refine guardE_of ⟨rfl, by simp [pmHs]⟩ ?_
        refine guardE_of rfl ?_
        refine optE_of (get_last _ _) ?_
        refine guardE_of ⟨rfl, Nat.le_refl _⟩ ?_
        refine guardE_of ⟨by omega, by show (i + 1) * 24 ≤ 140737488355328; omega⟩ ?_
        repeat first | refine opsStep ?_ | refine codeStep ?_ | refine drawStep ?_
        refine ⟨⟨(i + 1, M, g), hmore, hex, hMn, hM256, h0', hMok, hcz'⟩, (by show 300 - (i + 1) < 300 - i; omega), Ent.to (pm_out (l := [(2, .fn (.func fa) [] []), (3, .ref 1 0 0), (4, .ref 2 0 0), (6, .ref 3 0 0), (8, .mp 4), (9, .hs 5 (g) 0 (M).length 2), (10, .ref 6 0 0), (11, .int .i64 ((i + 1 : Nat)))]) (names := names) (d := d) (e := e) (tE := tE) (L := M) (g := g) (i := i + 1) (acc := acs ++ [false]) (K := K) (rows := rws ++ [rx]) (x := .cells 0 [.int .i64 (pst p).1, .int .i64 (pst p).2])
          (X := [.cells 0 [.bool (false)], .cells 0 [.hs ((pmA names d e tE (M) (g) i acs K (pst p) rws)).length 0 0 K 1]]) (Nat.le_of_ble_eq_true (by kernel_rfl)) (by rw [List.length_append, hrwl]; rfl) ht ⟨(by kernel_rfl), (by kernel_rfl), (by kernel_rfl), (by kernel_rfl), (by kernel_rfl), (by kernel_rfl), (by kernel_rfl), inc_slot (i := i) (by omega), trivial⟩ (Eq.trans (b := ((([.cells 0 (names.map .str), .cells 0 [.hs 0 0 0 names.length 1, aBs d.ak d.accept, aRs d.nk d.next], .cells 0 [tE, aBs e.ak e.accept, aRs e.nk e.next], .cells 0 [.sl .nil 0 [], .sl .nil 0 [], .sl .nil 0 []],
            .dict (dI (M.map pv2)), .cells g (cp2 M), .cells 0 [.hs 0 0 0 names.length 1, .hs 7 (i + 1) 0 (i + 1) 1, .hs 8 (i + 1) 0 (i + 1) 1], .cells (i + 1) (((acs.map AV.bool).drop 0).take (i * 1) ++ [.bool (false)]), .cells (i + 1) (((pmHs 10 K i).drop 0).take (i * 1) ++ [.hs ((pmA names d e tE (M) (g) i acs K (pst p) rws)).length 0 0 K 1])] ++ .cells 0 [.int .i64 (pst p).1, .int .i64 (pst p).2] :: pmRows rws) ++ [Blk.cells 0 (rx.map (.int .i64))]) ++ [Blk.cells 0 [.bool (false)]]) ++ [Blk.cells 0 [.hs ((pmA names d e tE (M) (g) i acs K (pst p) rws)).length 0 0 K 1]]) (by kernel_rfl) ?_) ?_) ?_⟩
        · rw [td_all (by simp [hal]), td_all (by simp [pmHs]), pmA_len, hrwl]
          have e1 : pmHs 10 K i ++ [.hs (i + 10) 0 0 K 1] = pmHs 10 K (i + 1) := by simp [pmHs, List.range_succ, Nat.add_comm]
          have e2 : pmRows (rws ++ [rx]) = pmRows rws ++ [Blk.cells 0 (rx.map (.int .i64))] := by simp [pmRows]
          rw [e1, e2, pmB, pmC, List.map_append]
          simp
        · simp [frBel, AV.bel, bels]
        · show _ = (pmB names d e tE (M) (g) ((i + 1)) (((M.take (i + 1)).map (accP cn d e))) K (9)) ++ pmRows ((M.take (i + 1)).map (rowX (pf d e) M))
          rw [haccn, hrown, hac]
  · have hie : i = L.length := by have := h; simp at this; omega
    have hRL : R = some L := by
      rw [← hex, show 300 - i = (299 - i) + 1 by omega, explO, List.getElem?_eq_none (by omega)]
    have hLt : L.take i = L := by rw [hie]; exact List.take_length
    refine VCode.ent (Ent.fr' (l := [(2, .fn (.func fa) [] []), (3, .ref 1 0 0), (4, .ref 2 0 0), (6, .ref 3 0 0), (8, .mp 4), (9, .hs 5 (g) 0 (L).length 2), (10, .ref 6 0 0), (11, .int .i64 (i))]) (H' := (pmB names d e tE (L) (g) (L.length) ((L.map (accP cn d e))) K (9)) ++ pmRows (L.map (rowX (pf d e) L))) ⟨(by kernel_rfl), (by kernel_rfl), (by kernel_rfl), (by kernel_rfl), (by kernel_rfl), (by kernel_rfl), (by kernel_rfl), (by kernel_rfl), trivial⟩ ?_) ?_
    · refine Eq.trans (b := (pmB names d e tE (L) (g) (i) (((L.take i).map (accP cn d e))) K (9)) ++ pmRows ((L.take i).map (rowX (pf d e) L))) (by kernel_rfl) ?_
      rw [hLt, hie]
    repeat first | refine opsStep ?_ | refine codeStep ?_ | refine drawStep ?_
    refine finR (l := [(6, .ref 3 0 0), (7, .int .i64 0)]) (H₁ := [.cells 0 (names.map .str), .cells 0 [.hs 0 0 0 names.length 1, aBs d.ak d.accept, aRs d.nk d.next], .cells 0 [tE, aBs e.ak e.accept, aRs e.nk e.next], .cells 0 [.hs 0 0 0 names.length 1, .hs 7 L.length 0 L.length 1, .hs 8 L.length 0 L.length 1],
      .dict (dI (L.map pv2)), .cells g (cp2 L), .cells 0 [.hs 0 0 0 names.length 1, .hs 7 L.length 0 L.length 1, .hs 8 L.length 0 L.length 1], .cells L.length ((L.map (accP cn d e)).map .bool), .cells L.length (pmHs 9 K L.length)] ++ pmRows (L.map (rowX (pf d e) L)))
      (v := .tup [.agg [.hs 0 0 0 names.length 1, .hs 7 L.length 0 L.length 1, .hs 8 L.length 0 L.length 1], .int .i64 0]) ⟨(by kernel_rfl), (by kernel_rfl), trivial⟩ (by kernel_rfl) (Ent.refl _ _ _) (by kernel_rfl) ?_
    exact .inl ⟨L, hRL, rfl, _, _, _, _, _, _, rfl⟩

end Tab

/- A new machine's memory: names, accepts, next, rows. -/
namespace Tab
open Go Go.Proofs
set_option maxRecDepth 10000
set_option linter.unusedVariables false
set_option linter.unusedSimpArgs false
set_option linter.unusedSectionVars false

def ndV (N M : Nat) : AV := .agg [.hs 0 0 0 N 1, .hs 1 M 0 M 1, .hs 2 M 0 M 1]
def ndB (names : List (List UInt8)) (acc : List Bool) (M K b : Nat) : List Blk := [.cells 0 (names.map .str), .cells M (acc.map .bool), .cells M (pmHs b K M)]
def ndH (names : List (List UInt8)) (acc : List Bool) (rows : List (List Int)) (K : Nat) : List Blk := ndB names acc rows.length K 3 ++ pmRows rows

theorem strs_closed' (l : List (List UInt8)) : closeds (l.map .str) := closeds_iff.2 fun a ha => by obtain ⟨x, _, rfl⟩ := List.mem_map.1 ha; simp only [AV.closed]
theorem pmHs_rn' (f : Nat → Nat) (b c K : Nat) : ∀ n, (∀ j, j < n → f (b + j) = c + j) → rns f (pmHs b K n) = pmHs c K n := fun n h => by
  rw [pmHs, pmHs, rns_map, List.map_map]
  exact List.map_congr_left fun j hj => by simp [AV.rn, h j (List.mem_range.1 hj)]
theorem pmHs_bel {b K M n : Nat} (h : b + M ≤ n) : bels n (pmHs b K M) := by
  rw [pmHs, bels_map]
  intro j hj
  have := List.mem_range.1 hj
  simp only [AV.bel]; omega

theorem Ent.newDen {H : List Blk} {a b c base N M K : Nat} {names : List (List UInt8)} {acc : List Bool} {rows : List (List Int)} (e : Int) (h1 : H[a]? = some (.cells 0 (names.map .str))) (h2 : H[b]? = some (.cells M (acc.map .bool)))
    (h3 : H[c]? = some (.cells M (pmHs base K M))) (h4 : ∀ j r, rows[j]? = some r → H[base + j]? = some (.cells 0 (r.map (.int .i64)))) (hM : rows.length = M) (hab : a ≠ b) (hac : a ≠ c) (hbc : b ≠ c) (ha : a < base) (hb : b < base) (hc : c < base) :
    Ent ⟨1, 0⟩ (Tab.fr [(0, .tup [.agg [.hs a 0 0 N 1, .hs b M 0 M 1, .hs c M 0 M 1], .int .i64 e])]) H (Tab.fr [(0, .tup [ndV N M, .int .i64 e])]) (ndH names acc rows K) := by
  subst hM
  obtain ⟨F, hF⟩ : ∃ F, rnB (a :: b :: c :: (List.range rows.length).map (base + ·)) H.length = F := ⟨_, rfl⟩
  have f0 : F 0 = a := by rw [← hF]; rfl
  have f1 : F 1 = b := by rw [← hF]; rfl
  have f2 : F 2 = c := by rw [← hF]; rfl
  have f3 : ∀ j, j < rows.length → F (3 + j) = base + j := fun j hj => by
    rw [← hF]
    refine rnB_lt ?_
    rw [show 3 + j = j + 1 + 1 + 1 by omega, List.getElem?_cons_succ, List.getElem?_cons_succ, List.getElem?_cons_succ, List.getElem?_map, List.getElem?_range hj]
    rfl
  have hl : ∀ {i x}, H[i]? = some x → i < H.length := fun h => (List.getElem?_eq_some_iff.1 h).1
  refine Ent.pick (a :: b :: c :: (List.range rows.length).map (base + ·)) ?_ ?_ (by intro b hb; exact absurd hb (Nat.not_lt_zero _)) _ _ (by simp [ndH, ndB, pmRows]) ?_ ?_ ?_ ?_
  · have hm : ∀ x, x ∈ (List.range rows.length).map (base + ·) → base ≤ x := fun x hx => by
      obtain ⟨j, _, rfl⟩ := List.mem_map.1 hx; omega
    refine List.nodup_cons.2 ⟨?_, List.nodup_cons.2 ⟨?_, List.nodup_cons.2 ⟨?_, ?_⟩⟩⟩
    · rw [List.mem_cons, List.mem_cons]; rintro (h | h | h)
      · exact hab h
      · exact hac h
      · have := hm _ h; omega
    · rw [List.mem_cons]; rintro (h | h)
      · exact hbc h
      · have := hm _ h; omega
    · intro h; have := hm _ h; omega
    · exact List.pairwise_map.2 (List.nodup_range.imp fun {x y} h e => h (by omega))
  · intro x hx
    simp only [List.mem_cons, List.mem_map, List.mem_range] at hx
    rcases hx with rfl | rfl | rfl | ⟨j, hj, rfl⟩
    · exact hl h1
    · exact hl h2
    · exact hl h3
    · exact hl (h4 j rows[j] (List.getElem?_eq_getElem hj))
  · intro t
    rw [hF]
    match t with
    | 0 =>
      right
      show AV.tup [.agg [.hs (F 0) 0 0 N 1, .hs (F 1) rows.length 0 rows.length 1, .hs (F 2) rows.length 0 rows.length 1], .int .i64 e] = _
      rw [f0, f1, f2]; rfl
    | t + 1 => left; rfl
  · intro i x b' hi hφ
    rw [hF]
    match i with
    | 0 => simp [ndH, ndB] at hi hφ; subst hi; subst hφ; rw [h1]; simp [Blk.rn, strs_rn]
    | 1 => simp [ndH, ndB] at hi hφ; subst hi; subst hφ; rw [h2]; simp [Blk.rn, bools_rn]
    | 2 => simp [ndH, ndB] at hi hφ; subst hi; subst hφ; rw [h3]; simp [Blk.rn, pmHs_rn' F 3 base K _ f3]
    | i + 3 =>
      simp only [ndH, ndB, List.cons_append, List.nil_append, List.getElem?_cons_succ, pmRows, List.getElem?_map, Option.map_eq_some_iff] at hi hφ
      obtain ⟨r, hr, rfl⟩ := hi
      obtain ⟨j, hj, rfl⟩ := hφ
      have hj := (List.getElem?_eq_some_iff.1 hj).2
      simp at hj
      subst hj
      rw [h4 i r hr]; simp [Blk.rn, ints_rn]
  · simp [frBel, ndV, AV.bel, bels]
  · rw [ndH, ndB, blksBel_append]
    refine ⟨?_, pmRows_bel _ _⟩
    have : bels (a :: b :: c :: (List.range rows.length).map (base + ·)).length (pmHs 3 K rows.length) := pmHs_bel (by simp; omega)
    simp only [blksBel, Blk.bel, bels_map, AV.bel, implies_true, this, and_self]

/-- The machine read. -/
theorem rd_nd {H : List Blk} {b N M K : Nat} {names : List (List UInt8)} {acc : List Bool} {rows : List (List Int)} (h : ∀ i x, (ndB names acc M K (b + 3) ++ pmRows rows)[i]? = some x → H[b + i]? = some x) (hN : N = names.length) (hA : acc.length = M) (hM : rows.length = M) (hr : ∀ r ∈ rows, r.length = K) :
    Rd H (.agg [.hs b 0 0 N 1, .hs (b + 1) M 0 M 1, .hs (b + 2) M 0 M 1]) (aDen ⟨.any, names, .any, acc, .any, rows.map fun r => (.any, r)⟩) := by
  refine rd_den (base := b + 3) (n := K) (h 0 _ rfl) (h 1 _ rfl) ?_ (fun j r hj => ⟨?_, hr r (List.mem_of_getElem? hj)⟩) hN hA.symm hM.symm
  · rw [h 2 _ rfl, hM]; rfl
  · have := h (j + 3) (.cells 0 (r.map (.int .i64))) (by
      simp only [ndB, List.cons_append, List.nil_append, List.getElem?_cons_succ, pmRows, List.getElem?_map, hj]; rfl)
    rw [← this]; congr 1; omega

theorem ndH_read {N K : Nat} {names : List (List UInt8)} {acc : List Bool} {rows : List (List Int)} (hN : N = names.length) (hA : acc.length = rows.length) (hr : ∀ r ∈ rows, r.length = K) :
    Rd (ndH names acc rows K) (ndV N rows.length) (aDen ⟨.any, names, .any, acc, .any, rows.map fun r => (.any, r)⟩) := by
  have := rd_nd (H := ndH names acc rows K) (b := 0) (N := N) (M := rows.length) (K := K) (names := names) (acc := acc) (rows := rows) (fun i x h => by rw [Nat.zero_add]; exact h) hN hA rfl hr
  exact this

/-- Widen, its tracks kept and the rest given away. -/
theorem track_WidenK (kn : SK) (d : Den) (names : List (List UInt8)) (hd : DenOk d) (hn : names.length * 16 ≤ 140737488351232) (hns : ∀ s ∈ names, s.length ≤ 140737488351232) :
    ACall Try.prog 67 [aDen d, aSs kn names] [] fun o H' => (widenE d names ≠ 0 ∧ o = .ret (.tup [aDen den0, .int .i64 (widenE d names)]) ∧ H' = []) ∨
      (widenE d names = 0 ∧ o = .ret (.tup [.agg [.hs 0 0 0 names.length 1, aBs .any (widenD d names).accept, aRs .any (widenD d names).next], .int .i64 0]) ∧ H' = [.cells 0 (names.map .str)]) := by
  refine (track_Widen kn d names hd hn hns).weak (fun H' h => by rcases h with ⟨_, h⟩ | ⟨_, h, _⟩ <;> cases h) ?_
  rintro v H' (⟨h, hv⟩ | ⟨h, hv, b0, b1, b2, b3, b4, b7, rfl⟩)
  · have hv := Out.ret.inj hv
    subst hv
    exact ⟨.tup [aDen den0, .int .i64 (widenE d names)], [], Ent.give rfl 0 (by simp [AV.closed, closeds, aDen_closed]) (.refl _), .inl ⟨h, rfl, rfl⟩⟩
  · have hv := Out.ret.inj hv
    subst hv
    refine ⟨_, _, Ent.giveBut rfl 0 5 (g := 0) (cs := names.map .str) (v := .tup [.agg [.hs 0 0 0 names.length 1, aBs .any (widenD d names).accept, aRs .any (widenD d names).next], .int .i64 0]) rfl (strs_closed' names) ?_, .inr ⟨h, rfl, rfl⟩⟩
    have hl : d.rows.length = d.next.length := by simp [Den.rows]
    refine .tup (.cons (.agg (.cons (.keep _ _ _ _) (.cons (.rd ?_ (aBs_closed _ _)) (.cons (.rd ?_ (aRs_closed _ _)) .nil)))) (.cons (.rd (.refl _) trivial) .nil))
    · exact Rd.whole (b := 6) (g := 0) (cs := d.accept.map .bool) rfl (by simp)
    · have e : aRs .any (widenD d names).next = .sl .any d.next.length ((d.rows.map (ovRow names.length (placesOf d.tracks names))).map (aIs .any)) := by
        simp [aRs, widenD, hl, Function.comp_def]
      rw [e]
      refine .hs (b := 8) (cs := (List.range d.next.length).map fun j => .hs (9 + j) 0 0 (2 ^ names.length) 1) rfl rfl (by simp) ?_
      rw [List.drop_zero, List.take_of_length_le (by simp)]
      refine Rds.of_get (by simp [hl]) fun i a a' ha ha' => ?_
      rw [List.getElem?_map, Option.map_eq_some_iff] at ha ha'
      obtain ⟨j, hj, rfl⟩ := ha
      obtain ⟨r, hr, rfl⟩ := ha'
      obtain ⟨hj1, hj2⟩ := List.getElem?_eq_some_iff.1 hj
      simp only [List.getElem_range] at hj2
      subst hj2
      rw [List.getElem?_map, Option.map_eq_some_iff] at hr
      obtain ⟨x, hx, rfl⟩ := hr
      refine rd_row ?_ (ovRow_length _ _ _)
      rw [List.getElem?_set_ne (by omega), wdHeap, List.getElem?_append_right (by simp)]
      simp only [List.length_cons, List.length_nil, ovBlks, List.getElem?_map]
      rw [show 9 + i - (0 + 1 + 1 + 1 + 1 + 1 + 1 + 1 + 1 + 1) = i by omega, hx]
      rfl

end Tab

/- canon.classes, canon.Classes. -/
namespace Tab
open Go Go.Proofs
set_option maxRecDepth 10000
set_option linter.unusedVariables false
set_option linter.unusedSimpArgs false
set_option linter.unusedSectionVars false

def initF (acc : List Bool) (j : Nat) : Int := if accN acc j then 1 else 0
theorem init_cls0 (acc : List Bool) : (List.range acc.length).map (initF acc) = cls0 acc := by
  refine List.ext_getElem (by simp [cls0]) fun i h1 h2 => ?_
  have hi : i < acc.length := by simpa using h1
  simp [initF, cls0, accN, List.getD_eq_getElem?_getD, hi]
theorem partL_skip {f : Nat → Int} {n a : Nat} (h : f a = 0) : partL f n (a + 1) = partL f n a := by
  rw [partL, partL]
  refine List.map_congr_left fun j _ => ?_
  by_cases e : j = a
  · subst e; simp [h]
  · by_cases h1 : j < a
    · rw [if_pos h1, if_pos (by omega)]
    · rw [if_neg h1, if_neg (by omega)]

theorem canon_classes (d : Den) (hd : DenOk d) (hr : rightS d = true) : Pure Try.prog 113 [aDen d] (aIs .any (clsD d)) := by
  have h2 := hd.accept
  have h256 := (tracksS_parts (rightS_parts hr).1).2.2.2
  refine Pure.of_sw 38 Try.func113 rfl Try.ntmps113 (by kernel_rfl) (Nat.le_of_ble_eq_true (by kernel_rfl)) (by simp [closeds, AV.closed, aSs_closed, aIs_closed, aBs_closed, aRs_closed, aDen_closed]) (by simp [AV.closed, closeds, aSs_closed, aIs_closed, aBs_closed, aRs_closed, aDen_closed]) ?_; refine SW.of_vc ?_
  repeat first | refine opsStep ?_ | refine codeStep ?_ | refine drawStep ?_
  refine guardE_of ⟨by omega, by omega, by show (8 : Int) * (d.accept.length : Int) ≤ 281474976710656; omega, by omega⟩ ?_
  repeat first | refine opsStep ?_ | refine codeStep ?_ | refine drawStep ?_
  refine loopE_of (ι := {q : Nat // q ≤ d.accept.length})
    (fun q => (fr [(1, .ref 0 0 0), (3, .hs 1 0 0 d.accept.length 1), (14, aBs d.ak d.accept), (15, .int .i64 d.accept.length), (16, .int .i64 q.1)], [Blk.cells 0 d.cells, Blk.cells 0 ((partL (initF d.accept) d.accept.length (q.1)).map (.int .i64))]))
    (fun q => d.accept.length - q.1) ⟨0, by omega⟩ (Ent.fr' ⟨(by kernel_rfl), (by kernel_rfl), (by kernel_rfl), (by kernel_rfl), (by kernel_rfl), trivial⟩ ?_) ?_
  · refine Eq.trans (b := [Blk.cells 0 d.cells, Blk.cells 0 (reps [.int .i64 0] d.accept.length)]) (by kernel_rfl) ?_
    rw [reps_one, partL_zero]; simp
  rintro ⟨q, hq⟩
  have hpl := partL_length (initF d.accept) d.accept.length q
  repeat first | refine opsStep ?_ | refine codeStep ?_ | refine drawStep ?_
  refine decB_dec (fun h => ?_) (fun h => ?_)
  · have hqn : q < d.accept.length := by have := h; simp at this; omega
    have ha : accN d.accept q = d.accept[q] := by simp [accN, List.getD_eq_getElem?_getD, hqn]
    repeat first | refine opsStep ?_ | refine codeStep ?_ | refine drawStep ?_
    refine guardE_of (by simp; omega) ?_
    repeat first | refine opsStep ?_ | refine codeStep ?_ | refine drawStep ?_
    refine optE_of (c := .bool d.accept[q]) (by simp [Value.cells, hqn]) ?_
    repeat first | refine opsStep ?_ | refine codeStep ?_ | refine drawStep ?_
    refine decB_split (fun h => ?_) (fun h => ?_)
    · repeat first | refine opsStep ?_ | refine codeStep ?_ | refine drawStep ?_
      refine guardE_of (by simp; omega) ?_
      repeat first | refine opsStep ?_ | refine codeStep ?_ | refine drawStep ?_
      refine guardE_of ⟨rfl, by decide, by show 0 + q * 1 + 1 ≤ ((partL (initF d.accept) d.accept.length q).map (AV.int .i64)).length; rw [List.length_map, hpl]; omega⟩ ?_
      repeat first | refine opsStep ?_ | refine codeStep ?_ | refine drawStep ?_
      refine ⟨⟨q + 1, by omega⟩, (by show d.accept.length - (q + 1) < d.accept.length - q; omega), Ent.fr' ⟨(by kernel_rfl), (by kernel_rfl), (by kernel_rfl), (by kernel_rfl), inc_slot (i := q) (by omega), trivial⟩ ?_⟩
      refine Eq.trans (b := [Blk.cells 0 d.cells, Blk.cells 0 (over ((partL (initF d.accept) d.accept.length q).map (AV.int .i64)) (0 + q * 1) [.int .i64 1])]) (by kernel_rfl) ?_
      rw [Nat.zero_add, Nat.mul_one, over_one (by rw [List.length_map, hpl]; omega)]
      show _ = [Blk.cells 0 d.cells, Blk.cells 0 ((partL (initF d.accept) d.accept.length (q + 1)).map (.int .i64))]
      rw [← partL_step, List.map_set, show initF d.accept q = 1 by rw [initF, ha, h]; rfl]
    · repeat first | refine opsStep ?_ | refine codeStep ?_ | refine drawStep ?_
      refine ⟨⟨q + 1, by omega⟩, (by show d.accept.length - (q + 1) < d.accept.length - q; omega), Ent.fr' ⟨(by kernel_rfl), (by kernel_rfl), (by kernel_rfl), (by kernel_rfl), inc_slot (i := q) (by omega), trivial⟩ ?_⟩
      refine Eq.trans (b := [Blk.cells 0 d.cells, Blk.cells 0 ((partL (initF d.accept) d.accept.length (q)).map (.int .i64))]) (by kernel_rfl) ?_
      show _ = [Blk.cells 0 d.cells, Blk.cells 0 ((partL (initF d.accept) d.accept.length (q + 1)).map (.int .i64))]
      rw [partL_skip (by rw [initF, ha, h]; rfl)]
  · have hqn : q = d.accept.length := by have := h; simp at this; omega
    subst hqn
    refine VCode.ent (Ent.freezeLast (l := [(1, .ref 0 0 0), (3, .hs 1 0 0 d.accept.length 1)]) (l' := [(1, .ref 0 0 0), (3, .sl .any d.accept.length ((partL (initF d.accept) d.accept.length d.accept.length).map (.int .i64)))])
      (cs := (partL (initF d.accept) d.accept.length d.accept.length).map (.int .i64)) (g := 0) (n := d.accept.length) (es := 1) [.cells 0 d.cells] 3 ⟨(by kernel_rfl), (by kernel_rfl), trivial⟩ (by kernel_rfl) (by kernel_rfl) (by kernel_rfl) (by rw [List.length_map, hpl, Nat.mul_one]) (Nat.zero_le _) ⟨(by kernel_rfl), (by kernel_rfl), trivial⟩ (by first | (simp [frBel, blksBel, Blk.bel, AV.bel, bels, bels_append, bels_map, aSs_bel, aIs_bel, aBs_bel, aRs_bel, aDen_bel, cells_bel]; done) | (simp only [List.drop_zero, ← List.map_take, ← List.map_drop, List.map_map, frBel, blksBel, Blk.bel, AV.bel, bels, bels_append, bels_map, aSs_bel, aIs_bel, aBs_bel, aRs_bel, aDen_bel, cells_bel]; simp [AV.bel, aSs_bel, aIs_bel, aBs_bel, aRs_bel, aDen_bel, cells_bel])) (by first | (simp [frBel, blksBel, Blk.bel, AV.bel, bels, bels_append, bels_map, aSs_bel, aIs_bel, aBs_bel, aRs_bel, aDen_bel, cells_bel]; done) | (simp only [List.drop_zero, ← List.map_take, ← List.map_drop, List.map_map, frBel, blksBel, Blk.bel, AV.bel, bels, bels_append, bels_map, aSs_bel, aIs_bel, aBs_bel, aRs_bel, aDen_bel, cells_bel]; simp [AV.bel, aSs_bel, aIs_bel, aBs_bel, aRs_bel, aDen_bel, cells_bel]))) ?_
    have e0 : AV.sl .any d.accept.length ((partL (initF d.accept) d.accept.length d.accept.length).map (.int .i64)) = aIs .any (cls0 d.accept) := by
      rw [partL_full, init_cls0, aIs]; simp [cls0]
    rw [e0]
    repeat first | refine opsStep ?_ | refine codeStep ?_ | refine drawStep ?_
    refine loopE_of (ι := {x : Nat × List Int × Nat // ClsInv d x.2.1 ∧ (x.2.2 = 0 ∨ x.2.2 = disN x.2.1) ∧ d.accept.length + 1 ≤ x.1 + x.2.2 ∧ clsL d.rows x.1 x.2.1 x.2.2 = clsD d})
      (fun x => (fr [(1, .ref 0 0 0), (3, aIs .any x.1.2.1), (6, .int .i64 (x.1.2.2 : Nat))], [.cells 0 d.cells])) (fun x => x.1.1)
      ⟨(d.accept.length + 1, cls0 d.accept, 0), cls0_inv d, .inl rfl, Nat.le_refl _, rfl⟩ (Ent.fr' ⟨(by kernel_rfl), (by kernel_rfl), (by kernel_rfl), trivial⟩ (by kernel_rfl)) ?_
    rintro ⟨⟨f, cls, c⟩, hi, hc, hf, he⟩
    simp only at hi hc hf he
    have hsplit := canon_split .any d hd hr cls hi.len hi.rng
    have hmore := sp_more hr hi
    have hlen := hi.len
    have hdl := dis_le cls
    have hni := sp_inv hr hi
    obtain ⟨f, rfl⟩ : ∃ g, f = g + 1 := ⟨f - 1, by omega⟩
    rw [clsL] at he
    have hdd := (dis_den (spN cls d.rows)).symm
    have hdl2 := dis_le (spN cls d.rows)
    rw [show (metL [] (spN cls d.rows)).length = disN (spN cls d.rows) from rfl] at hsplit
    generalize denL (spN cls d.rows) = nx at *
    generalize disN (spN cls d.rows) = nc at *
    repeat first | refine opsStep ?_ | refine codeStep ?_ | refine drawStep ?_
    refine callP hsplit ?_
    repeat first | refine opsStep ?_ | refine codeStep ?_ | refine drawStep ?_
    refine decB_dec (fun h => ?_) (fun h => ?_)
    · have hcc : nc = c := by have := h; simp at this; omega
      rw [if_pos hcc] at he
      repeat first | refine opsStep ?_ | refine codeStep ?_ | refine drawStep ?_
      exact finV (v' := aIs .any nx) (by kernel_rfl) (by rw [he])
    · have hcc : ¬ nc = c := by have := h; simp at this; omega
      rw [if_neg hcc] at he
      repeat first | refine opsStep ?_ | refine codeStep ?_ | refine drawStep ?_
      exact ⟨⟨(f, nx, nc), hni, .inr hdd, by simp only []; omega, he⟩, Nat.lt_succ_self f, Ent.fr' ⟨(by kernel_rfl), (by kernel_rfl), (by kernel_rfl), trivial⟩ (by kernel_rfl)⟩

/-- Of each state the least one alike. -/
def lstD (d : Den) : List Int := (clsD d).map fun c => ((clsD d).idxOf c : Int)
theorem lstD_length {d : Den} (hr : rightS d = true) : (lstD d).length = d.accept.length := by rw [lstD, List.length_map]; exact (clsD_ner hr).len

theorem canon_Classes (d : Den) (hd : DenOk d) (hr : rightS d = true) : Pure Try.prog 78 [aDen d] (.tup [aIs .any (lstD d), .int .i64 0]) := by
  have hR := table_Right d hd
  rw [rightE_ok hr] at hR
  have hC := canon_classes d hd hr
  have hl := (clsD_ner hr).len
  have h256 := (tracksS_parts (rightS_parts hr).1).2.2.2
  have hix := fun (q : Nat) (hq : q < (clsD d).length) => show (lstD d).getD q 0 = idxI (clsD d) (clsD d)[q] by
    rw [idxI, if_pos (List.idxOf_lt_length_of_mem (List.getElem_mem hq))]
    simp [lstD, List.getD_eq_getElem?_getD, hq]
  have hfull : (List.range (clsD d).length).map (fun j => (lstD d).getD j 0) = lstD d := by
    refine List.ext_getElem (by simp [lstD]) fun i h1 h2 => ?_
    simp [List.getD_eq_getElem?_getD, h2]
  have hidx := fun x => slices_Index_I .any (clsD d) x (by omega)
  generalize clsD d = cls at *
  refine Pure.of_sw 34 Try.func78 rfl Try.ntmps78 (by kernel_rfl) (Nat.le_of_ble_eq_true (by kernel_rfl)) (by simp [closeds, AV.closed, aSs_closed, aIs_closed, aBs_closed, aRs_closed, aDen_closed]) (by simp [AV.closed, closeds, aSs_closed, aIs_closed, aBs_closed, aRs_closed, aDen_closed]) ?_; refine SW.of_vc ?_
  repeat first | refine opsStep ?_ | refine codeStep ?_ | refine drawStep ?_
  refine callP hR ?_
  repeat first | refine opsStep ?_ | refine codeStep ?_ | refine drawStep ?_
  refine callP hC ?_
  repeat first | refine opsStep ?_ | refine codeStep ?_ | refine drawStep ?_
  refine guardE_of ⟨by omega, by omega, by show (8 : Int) * (cls.length : Int) ≤ 281474976710656; omega, by omega⟩ ?_
  repeat first | refine opsStep ?_ | refine codeStep ?_ | refine drawStep ?_
  refine loopE_of (ι := {q : Nat // q ≤ cls.length})
    (fun q => (fr [(5, aIs .any cls), (6, .hs 1 0 0 cls.length 1), (19, aIs .any cls), (20, .int .i64 cls.length), (21, .int .i64 q.1)], [Blk.cells 0 d.cells, Blk.cells 0 ((partL (fun j => (lstD d).getD j 0) cls.length q.1).map (.int .i64))]))
    (fun q => cls.length - q.1) ⟨0, by omega⟩ (Ent.fr' ⟨(by kernel_rfl), (by kernel_rfl), (by kernel_rfl), (by kernel_rfl), (by kernel_rfl), trivial⟩ ?_) ?_
  · refine Eq.trans (b := [Blk.cells 0 d.cells, Blk.cells 0 (reps [.int .i64 0] cls.length)]) (by kernel_rfl) ?_
    rw [reps_one, partL_zero]; simp
  rintro ⟨q, hq⟩
  have hpl := partL_length (fun j => (lstD d).getD j 0) cls.length q
  repeat first | refine opsStep ?_ | refine codeStep ?_ | refine drawStep ?_
  refine decB_dec (fun h => ?_) (fun h => ?_)
  · have hqn : q < cls.length := by have := h; simp at this; omega
    repeat first | refine opsStep ?_ | refine codeStep ?_ | refine drawStep ?_
    refine guardE_of (by simp; omega) ?_
    repeat first | refine opsStep ?_ | refine codeStep ?_ | refine drawStep ?_
    refine optE_of (c := .int .i64 cls[q]) (by simp [Value.cells, hqn]) ?_
    repeat first | refine opsStep ?_ | refine codeStep ?_ | refine drawStep ?_
    refine callP (hidx cls[q]) ?_
    repeat first | refine opsStep ?_ | refine codeStep ?_ | refine drawStep ?_
    refine guardE_of (by simp; omega) ?_
    repeat first | refine opsStep ?_ | refine codeStep ?_ | refine drawStep ?_
    refine guardE_of ⟨rfl, by decide, by show 0 + q * 1 + 1 ≤ ((partL (fun j => (lstD d).getD j 0) cls.length q).map (AV.int .i64)).length; rw [List.length_map, hpl]; omega⟩ ?_
    repeat first | refine opsStep ?_ | refine codeStep ?_ | refine drawStep ?_
    refine ⟨⟨q + 1, by omega⟩, (by show cls.length - (q + 1) < cls.length - q; omega), Ent.fr' ⟨(by kernel_rfl), (by kernel_rfl), (by kernel_rfl), (by kernel_rfl), inc_slot (i := q) (by omega), trivial⟩ ?_⟩
    refine Eq.trans (b := [Blk.cells 0 d.cells, Blk.cells 0 (over ((partL (fun j => (lstD d).getD j 0) cls.length q).map (AV.int .i64)) (0 + q * 1) [.int .i64 (idxI cls cls[q])])]) (by kernel_rfl) ?_
    rw [Nat.zero_add, Nat.mul_one, over_one (by rw [List.length_map, hpl]; omega), ← hix q hqn]
    show _ = [Blk.cells 0 d.cells, Blk.cells 0 ((partL (fun j => (lstD d).getD j 0) cls.length (q + 1)).map (.int .i64))]
    rw [← partL_step, List.map_set]
  · have hqn : q = cls.length := by have := h; simp at this; omega
    subst hqn
    rw [partL_full, hfull] at hpl
    rw [partL_full, hfull]
    repeat first | refine opsStep ?_ | refine codeStep ?_ | refine drawStep ?_
    refine finH (l := [(2, .hs 1 0 0 cls.length 1), (3, .int .i64 0)]) (H₁ := [Blk.cells 0 d.cells, Blk.cells 0 ((lstD d).map (.int .i64))]) ⟨(by kernel_rfl), (by kernel_rfl), trivial⟩ (by kernel_rfl) (Ent.freeze (b := 1) (g := 0) (n := cls.length) (es := 1) (cs := (lstD d).map (.int .i64)) 2 (by kernel_rfl) (by kernel_rfl) (by rw [List.length_map, hpl, Nat.mul_one])) ?_
    refine Eq.trans (b := some (.tup [.sl .any cls.length ((lstD d).map (.int .i64)), .int .i64 0])) (by kernel_rfl) ?_
    rw [aIs, hpl]

theorem canon_Classes_bad (d : Den) (hd : DenOk d) (hr : rightS d = false) : Pure Try.prog 78 [aDen d] (.tup [.sl .nil 0 [], .int .i64 3]) := by
  have hR := table_Right d hd
  rw [rightE_bad hr] at hR
  refine Pure.of_sw 34 Try.func78 rfl Try.ntmps78 (by kernel_rfl) (Nat.le_of_ble_eq_true (by kernel_rfl)) (by simp [closeds, AV.closed, aSs_closed, aIs_closed, aBs_closed, aRs_closed, aDen_closed]) (by simp [AV.closed, closeds, aSs_closed, aIs_closed, aBs_closed, aRs_closed, aDen_closed]) ?_; refine SW.of_vc ?_
  repeat first | refine opsStep ?_ | refine codeStep ?_ | refine drawStep ?_
  refine callP hR ?_
  repeat first | refine opsStep ?_ | refine codeStep ?_ | refine drawStep ?_
  exact finV (v' := .tup [.sl .nil 0 [], .int .i64 3]) (by kernel_rfl) rfl

end Tab

/- canon.Minimal. -/
namespace Tab
open Go Go.Proofs
set_option maxRecDepth 10000
set_option linter.unusedVariables false
set_option linter.unusedSimpArgs false
set_option linter.unusedSectionVars false

def lstN (d : Den) (q : Nat) : Nat := ((lstD d).getD q 0).toNat
theorem lst_cast {d : Den} {q : Nat} (h : q < (clsD d).length) : (lstD d).getD q 0 = (lstN d q : Int) ∧ lstN d q < (clsD d).length := by
  have e : (lstD d).getD q 0 = ((clsD d).idxOf (clsD d)[q] : Int) := by simp [lstD, List.getD_eq_getElem?_getD, h]
  have := List.idxOf_lt_length_of_mem (List.getElem_mem h)
  constructor
  · rw [lstN, e]; simp
  · rw [lstN, e]; simpa using this
/-- Where a state leads, letter by letter, in classes. -/
def minF (d : Den) (q : Nat) : List Nat := (List.range (2 ^ d.tracks.length)).map fun a => lstN d (stepN d.rows q a)
theorem minF_length (d q) : (minF d q).length = 2 ^ d.tracks.length := by simp [minF]
def minR (d : Den) : List Nat := expl (minF d) 300 0 [0]
def minD (d : Den) : Den := ⟨.any, d.tracks, .any, (minR d).map (accN d.accept), .any, (minR d).map fun q => (.any, rowX (minF d) (minR d) q)⟩

def numL (n : Nat) (L : List Nat) : List Int := (List.range n).map fun j => if j ∈ L then (L.idxOf j : Int) else -1
theorem numL_length (n L) : (numL n L).length = n := by simp [numL]
theorem numL_get {n L j} (h : j < n) : (numL n L)[j]'(by rw [numL_length]; exact h) = if j ∈ L then (L.idxOf j : Int) else -1 := by simp [numL]
theorem numL_set {n : Nat} {L : List Nat} {x : Nat} (hx : x ∉ L) : (numL n L).set x (L.length : Int) = numL n (L ++ [x]) := by
  refine List.ext_getElem (by simp [numL]) fun j h1 h2 => ?_
  simp only [numL, List.getElem_set, List.getElem_map, List.getElem_range, List.mem_append, List.mem_singleton, List.idxOf_append]
  by_cases e : x = j
  · subst e; simp [hx]
  · have e' : ¬ j = x := fun k => e k.symm
    rw [if_neg e]
    by_cases hj : j ∈ L
    · simp [hj]
    · simp [hj, e']
theorem numL_nil (n : Nat) : numL n [] = List.replicate n (-1) := by
  refine List.ext_getElem (by simp [numL]) fun j h1 h2 => ?_
  simp [numL]

set_option maxHeartbeats 1000000 in
theorem canon_Minimal (d : Den) (hd : DenOk d) (hr : rightS d = true) : Pure Try.prog 32 [aDen d] (.tup [aDen (minD d), .int .i64 0]) := by
  have hC := canon_Classes d hd hr
  have hll := lstD_length hr
  have hcl := (clsD_ner hr).len
  have hpos := right_pos hr
  have h256 := (tracksS_parts (rightS_parts hr).1).2.2.2
  have hk6 := (tracksS_parts (rightS_parts hr).1).1
  have hK : 2 ^ d.tracks.length ≤ 64 := by have : 2 ^ d.tracks.length ≤ 2 ^ 6 := Nat.pow_le_pow_right (by omega) hk6; omega
  have h1 := hd.tracks
  have hlc := fun q (h : q < d.accept.length) => lst_cast (d := d) (q := q) (by omega)
  have hfl := fun q => minF_length d q
  have hfq := fun (q a : Nat) (hq : q < d.accept.length) (ha : a < 2 ^ d.tracks.length) => show (minF d q).getD a 0 = lstN d (stepN d.rows q a) by
    rw [List.getD_eq_getElem?_getD, minF, List.getElem?_map, List.getElem?_range ha]; rfl
  refine Pure.of_read (by simp [closeds, aDen_closed]) (by simp [AV.closed, closeds, aDen_closed])
    (R := fun o H' => o = .ret (.tup [.agg [aSs .any d.tracks, .hs 5 (minR d).length 0 (minR d).length 1, .hs 6 (minR d).length 0 (minR d).length 1], .int .i64 0]) ∧
      ∃ b0 b1 b2 b3 b4, H' = [b0, b1, b2, b3, b4, .cells (minR d).length (((minR d).map (accN d.accept)).map .bool), .cells (minR d).length (((minR d).map (rowX (minF d) (minR d))).map (aIs .any))]) ?_ ?_
  rotate_left
  · rintro o H' ⟨rfl, b0, b1, b2, b3, b4, rfl⟩
    refine ⟨_, rfl, .tup (.cons (.agg (.cons (.refl _) (.cons ?_ (.cons ?_ .nil)))) (.cons (.refl _) .nil))⟩
    · show Rd _ _ (aBs .any ((minR d).map (accN d.accept)))
      rw [aBs, List.length_map]
      exact Rd.whole rfl (by simp)
    · have e : aRs .any (minD d).next = .sl .any (minR d).length (((minR d).map (rowX (minF d) (minR d))).map (aIs .any)) := by simp [aRs, minD, Function.comp_def]
      show Rd _ _ (aRs .any (minD d).next)
      rw [e]
      exact Rd.whole rfl (by simp)
  have hRe : expl (minF d) (300 - 0) 0 [0] = minR d := rfl
  generalize minR d = R at *
  refine ACall.of_sw 114 Try.func32 rfl Try.ntmps32 (by kernel_rfl) (Nat.le_of_ble_eq_true (by kernel_rfl)) ?_; refine SW.of_vc ?_
  repeat first | refine opsStep ?_ | refine codeStep ?_ | refine drawStep ?_
  refine callP hC ?_
  repeat first | refine opsStep ?_ | refine codeStep ?_ | refine drawStep ?_
  refine guardE_of ⟨by omega, by omega, by show (8 : Int) * ((lstD d).length : Int) ≤ 281474976710656; omega, by omega⟩ ?_
  repeat first | refine opsStep ?_ | refine codeStep ?_ | refine drawStep ?_
  refine loopE_of (ι := {q : Nat // q ≤ d.accept.length})
    (fun q => (fr [(1, .ref 0 0 0), (2, .ref 1 0 0), (4, aIs .any (lstD d)), (6, .hs 2 0 0 d.accept.length 1), (28, .int .i64 d.accept.length), (29, .int .i64 q.1)], [Blk.cells 0 d.cells, .cells 0 [.sl .nil 0 [], .sl .nil 0 [], .sl .nil 0 []], Blk.cells 0 ((partL (fun _ => -1) d.accept.length q.1).map (.int .i64))]))
    (fun q => d.accept.length - q.1) ⟨0, by omega⟩ (Ent.fr' ⟨(by kernel_rfl), (by kernel_rfl), (by kernel_rfl), ?_, ?_, (by kernel_rfl), trivial⟩ ?_) ?_
  · rw [← hll]; kernel_rfl
  · rw [← hll]; kernel_rfl
  · refine Eq.trans (b := [Blk.cells 0 d.cells, .cells 0 [.sl .nil 0 [], .sl .nil 0 [], .sl .nil 0 []], Blk.cells 0 (reps [.int .i64 0] (lstD d).length)]) (by kernel_rfl) ?_
    rw [reps_one, partL_zero, hll]; simp
  rintro ⟨q, hq⟩
  have hpl := partL_length (fun _ => -1) d.accept.length q
  repeat first | refine opsStep ?_ | refine codeStep ?_ | refine drawStep ?_
  refine decB_dec (fun h => ?_) (fun h => ?_)
  · have hqn : q < d.accept.length := by have := h; simp at this; omega
    repeat first | refine opsStep ?_ | refine codeStep ?_ | refine drawStep ?_
    refine guardE_of (by simp; omega) ?_
    repeat first | refine opsStep ?_ | refine codeStep ?_ | refine drawStep ?_
    refine guardE_of ⟨rfl, by decide, by show 0 + q * 1 + 1 ≤ ((partL (fun _ => -1) d.accept.length q).map (AV.int .i64)).length; rw [List.length_map, hpl]; omega⟩ ?_
    repeat first | refine opsStep ?_ | refine codeStep ?_ | refine drawStep ?_
    refine ⟨⟨q + 1, by omega⟩, (by show d.accept.length - (q + 1) < d.accept.length - q; omega), Ent.fr' ⟨(by kernel_rfl), (by kernel_rfl), (by kernel_rfl), (by kernel_rfl), (by kernel_rfl), inc_slot (i := q) (by omega), trivial⟩ ?_⟩
    refine Eq.trans (b := [Blk.cells 0 d.cells, .cells 0 [.sl .nil 0 [], .sl .nil 0 [], .sl .nil 0 []], Blk.cells 0 (over ((partL (fun _ => -1) d.accept.length q).map (AV.int .i64)) (0 + q * 1) [.int .i64 (-1)])]) (by kernel_rfl) ?_
    rw [Nat.zero_add, Nat.mul_one, over_one (by rw [List.length_map, hpl]; omega)]
    show _ = [Blk.cells 0 d.cells, .cells 0 [.sl .nil 0 [], .sl .nil 0 [], .sl .nil 0 []], Blk.cells 0 ((partL (fun _ => -1) d.accept.length (q + 1)).map (.int .i64))]
    rw [← partL_step, List.map_set]
  have hqn : q = d.accept.length := by have := h; simp at this; omega
  subst hqn
  have e0 : partL (fun _ => -1) d.accept.length d.accept.length = numL d.accept.length [] := by
    rw [partL_full, numL_nil]; exact List.ext_getElem (by simp) (by simp)
  rw [e0]
  repeat first | refine opsStep ?_ | refine codeStep ?_ | refine drawStep ?_
  refine guardE_of (by simp; omega) ?_
  repeat first | refine opsStep ?_ | refine codeStep ?_ | refine drawStep ?_
  refine guardE_of ⟨rfl, by decide, by show 0 + 0 * 1 + 1 ≤ ((numL d.accept.length []).map (AV.int .i64)).length; rw [List.length_map, numL_length]; omega⟩ ?_
  repeat first | refine opsStep ?_ | refine codeStep ?_ | refine drawStep ?_
  refine callP (slices_Clone_S d.tk d.tracks (by omega)) ?_
  repeat first | refine opsStep ?_ | refine codeStep ?_ | refine drawStep ?_
  refine loopE_of (ι := {x : Nat × List Nat × Nat // x.1 ≤ x.2.1.length ∧ expl (minF d) (300 - x.1) x.1 x.2.1 = R ∧ x.2.1.Nodup ∧ (∀ y ∈ x.2.1, y < d.accept.length) ∧ (∀ j, j < x.1 → ∀ s, x.2.1[j]? = some s → ∀ t ∈ minF d s, t ∈ x.2.1)})
    (fun x => (fr [(1, .ref 0 0 0), (2, .ref 1 0 0), (4, aIs .any (lstD d)), (6, .hs 2 0 0 d.accept.length 1), (8, .hs 3 (x.1.2.2) 0 (x.1.2.1).length 1), (9, .ref 4 0 0), (10, .int .i64 (x.1.1))], [Blk.cells 0 d.cells, .cells 0 [.sl .nil 0 [], .sl .nil 0 [], .sl .nil 0 []], .cells 0 (((numL d.accept.length x.1.2.1)).map (.int .i64)), .cells (x.1.2.2) ((x.1.2.1).map fun x : Nat => .int .i64 (x : Int)), .cells 0 [aSs .any d.tracks, .hs 5 (x.1.1) 0 (x.1.1) 1, .hs 6 (x.1.1) 0 (x.1.1) 1], .cells (x.1.1) ((((x.1.2.1.take x.1.1).map (accN d.accept))).map .bool), .cells (x.1.1) ((((x.1.2.1.take x.1.1).map (rowX (minF d) x.1.2.1))).map (aIs .any))]))
    (fun x => 300 - x.1.1) ⟨(0, [0], 0), by simp, hRe, by simp, by simpa using hpos, by simp⟩
    (((Ent.fr' (l := [(1, .ref 0 0 0), (2, .ref 1 0 0), (4, aIs .any (lstD d)), (6, .hs 2 0 0 d.accept.length 1), (8, .hs 3 (0) 0 ([0]).length 1), (9, .ref 4 0 0), (10, .int .i64 ((0 : Nat)))])
      (H' := [.cells 0 d.cells, .cells 0 [.sl .nil 0 [], .sl .nil 0 [], .sl .nil 0 []], .cells 0 ((numL d.accept.length [0]).map (.int .i64)), .cells 0 [.int .i64 (0 : Nat)], .cells 0 [aSs .any d.tracks, .sl .nil 0 [], .sl .nil 0 []]]) ⟨(by kernel_rfl), (by kernel_rfl), (by kernel_rfl), (by kernel_rfl), (by kernel_rfl), (by kernel_rfl), (by kernel_rfl), trivial⟩ ?_).trans (Ent.nilCell 4 1 1 rfl rfl)).trans (Ent.nilCell 4 2 1 rfl rfl) |>.to rfl) ?_
  · refine Eq.trans (b := [.cells 0 d.cells, .cells 0 [.sl .nil 0 [], .sl .nil 0 [], .sl .nil 0 []], .cells 0 (over ((numL d.accept.length []).map (AV.int .i64)) (0 + 0 * 1) [.int .i64 0]), .cells 0 [.int .i64 (0 : Nat)], .cells 0 [aSs .any d.tracks, .sl .nil 0 [], .sl .nil 0 []]]) (by kernel_rfl) ?_
    rw [Nat.zero_add, Nat.mul_one, over_one (by rw [List.length_map, numL_length]; omega)]
    have := numL_set (n := d.accept.length) (L := []) (x := 0) (by simp)
    rw [show [0] = [] ++ [0] from rfl, ← this, List.map_set]
    rfl
  rintro ⟨⟨i, L, g⟩, hi, hex, hnd, hlt, hcz⟩
  simp only at hi hex hnd hlt hcz
  have hLn := nodup_le hnd hlt
  repeat first | refine opsStep ?_ | refine codeStep ?_ | refine drawStep ?_
  refine decB_dec (fun h => ?_) (fun h => ?_)
  · have hiL : i < L.length := by have := h; simp at this; omega
    obtain ⟨q, hqe⟩ : ∃ q, L[i] = q := ⟨_, rfl⟩
    have hqn : q < d.accept.length := hqe ▸ hlt _ (List.getElem_mem hiL)
    have hgq : L[i]? = some q := by rw [List.getElem?_eq_getElem hiL, hqe]
    obtain ⟨_, hnx, hrows⟩ := rightS_parts hr
    have hqx : q < d.next.length := by omega
    obtain ⟨l1, l2⟩ := rowOk_parts (hrows _ (List.getElem_mem hqx))
    have hst := fun a (ha : a < 2 ^ d.tracks.length) => stepN_ok hr hqn ha
    have hrowq : d.next[q]? = some d.next[q] := List.getElem?_eq_getElem hqx
    rw [show 300 - i = (300 - (i + 1)) + 1 by omega, expl_some hgq] at hex
    have hacc : d.accept[q]? = some (accN d.accept q) := by simp [accN, List.getD_eq_getElem?_getD, hqn]
    have haccn : (L.take (i + 1)).map (accN d.accept) = (L.take i).map (accN d.accept) ++ [accN d.accept q] := by
      rw [List.take_succ_eq_append_getElem hiL, List.map_append, hqe]; rfl
    have hrown : (L.take (i + 1)).map (rowX (minF d) (metL L (minF d q))) = (L.take i).map (rowX (minF d) L) ++ [rowX (minF d) (metL L (minF d q)) q] := by
      rw [List.take_succ_eq_append_getElem hiL, List.map_append, hqe]
      congr 1
      refine List.map_congr_left fun s hs => ?_
      obtain ⟨j, hj, rfl⟩ := List.getElem_of_mem hs
      have hji : j < i := by simp at hj; omega
      obtain ⟨r, hrr⟩ := metL_prefix (minF d q) L
      rw [hrr]
      exact rowX_grow (hcz j hji _ (by simp [List.getElem?_eq_getElem (show j < L.length by omega)]))
    have hall : (List.range (2 ^ d.tracks.length)).map (fun j => ((metL L (minF d q)).idxOf ((minF d q).getD j 0) : Int)) = rowX (minF d) (metL L (minF d q)) q := by
      rw [rowX]
      refine List.ext_getElem (by simp [hfl]) fun j h1 h2 => ?_
      have : j < (minF d q).length := by simpa using h2
      simp [List.getD_eq_getElem?_getD, this]
    have hal : ((L.take i).map (accN d.accept)).length = i := by simp; omega
    have hrwl : ((L.take i).map (rowX (minF d) L)).length = i := by simp; omega
    generalize (L.take i).map (accN d.accept) = acs at *
    generalize (L.take i).map (rowX (minF d) L) = rws at *
    generalize hre : d.next[q] = r at *
    obtain ⟨rk, rl⟩ := r
    simp only at l1 l2 hst
    repeat first | refine opsStep ?_ | refine codeStep ?_ | refine drawStep ?_
    refine guardE_of (by simp; omega) ?_
    repeat first | refine opsStep ?_ | refine codeStep ?_ | refine drawStep ?_
    refine guardE_of rfl ?_
    refine optE_of rfl ?_
    refine optE_of (c := .int .i64 (q : Nat)) (by simp [Value.cells, hgq]) ?_
    repeat first | refine opsStep ?_ | refine codeStep ?_ | refine drawStep ?_
    refine guardE_of (by simp; omega) ?_
    repeat first | refine opsStep ?_ | refine codeStep ?_ | refine drawStep ?_
    refine optE_of (c := aIs rk rl) (by simp [Value.cells, hrowq]) ?_
    repeat first | refine opsStep ?_ | refine codeStep ?_ | refine drawStep ?_
    refine guardE_of ⟨by omega, by omega, by show (8 : Int) * (rl.length : Int) ≤ 281474976710656; omega, by omega⟩ ?_
    repeat first | refine opsStep ?_ | refine codeStep ?_ | refine drawStep ?_
    refine guardE_of (by simp; omega) ?_
    repeat first | refine opsStep ?_ | refine codeStep ?_ | refine drawStep ?_
    refine optE_of (c := aIs rk rl) (by simp [Value.cells, hrowq]) ?_
    repeat first | refine opsStep ?_ | refine codeStep ?_ | refine drawStep ?_
    refine loopE_of (ι := {y : Nat × Nat // y.1 ≤ rl.length})
      (fun y => (fr [(1, .ref 0 0 0), (2, .ref 1 0 0), (4, aIs .any (lstD d)), (6, .hs 2 0 0 d.accept.length 1), (8, .hs 3 (y.1.2) 0 ((metL L ((minF d q).take y.1.1))).length 1), (9, .ref 4 0 0), (10, .int .i64 (i)), (11, .int .i64 (q : Nat)), (12, .hs 7 0 0 rl.length 1), (64, aIs rk rl), (65, .int .i64 rl.length), (66, .int .i64 y.1.1)],
        [Blk.cells 0 d.cells, .cells 0 [.sl .nil 0 [], .sl .nil 0 [], .sl .nil 0 []], .cells 0 (((numL d.accept.length (metL L ((minF d q).take y.1.1)))).map (.int .i64)), .cells (y.1.2) (((metL L ((minF d q).take y.1.1))).map fun x : Nat => .int .i64 (x : Int)), .cells 0 [aSs .any d.tracks, .hs 5 (i) 0 (i) 1, .hs 6 (i) 0 (i) 1], .cells (i) ((acs).map .bool), .cells (i) ((rws).map (aIs .any))] ++ [.cells 0 ((partL (fun j => ((metL L (minF d q)).idxOf ((minF d q).getD j 0) : Int)) rl.length y.1.1).map (.int .i64))]))
      (fun y => rl.length - y.1.1) ⟨(0, g), by simp⟩ (Ent.fr' ⟨(by kernel_rfl), (by kernel_rfl), (by kernel_rfl), (by kernel_rfl), (by kernel_rfl), (by kernel_rfl), (by kernel_rfl), (by kernel_rfl), (by kernel_rfl), (by kernel_rfl), (by kernel_rfl), (by kernel_rfl), trivial⟩ ?_) ?_
    · refine Eq.trans (b := [Blk.cells 0 d.cells, .cells 0 [.sl .nil 0 [], .sl .nil 0 [], .sl .nil 0 []], .cells 0 (((numL d.accept.length L)).map (.int .i64)), .cells (g) ((L).map fun x : Nat => .int .i64 (x : Int)), .cells 0 [aSs .any d.tracks, .hs 5 (i) 0 (i) 1, .hs 6 (i) 0 (i) 1], .cells (i) ((acs).map .bool), .cells (i) ((rws).map (aIs .any))] ++ [.cells 0 (reps [.int .i64 0] rl.length)]) (by kernel_rfl) ?_
      rw [reps_one, partL_zero]; simp [metL]
    rintro ⟨⟨a, g⟩, ha⟩
    have ha : a ≤ rl.length := ha
    have hpl := partL_length (fun j => ((metL L (minF d q)).idxOf ((minF d q).getD j 0) : Int)) rl.length a
    have hLa : ∀ y ∈ metL L ((minF d q).take a), y < d.accept.length := fun y hy => by
      rcases (metL_mem _ _ _).1 hy with hy | hy
      · exact hlt y hy
      · obtain ⟨b, hb, rfl⟩ := List.mem_map.1 (List.mem_of_mem_take hy)
        have hb := List.mem_range.1 hb
        have := (hlc _ (hst b hb).2.2.2).2
        omega
    have hLan := metL_nodup ((minF d q).take a) L hnd
    have hLal := nodup_le hLan hLa
    refine VCode.ent (Ent.fr' (l := [(1, .ref 0 0 0), (2, .ref 1 0 0), (4, aIs .any (lstD d)), (6, .hs 2 0 0 d.accept.length 1), (8, .hs 3 (g) 0 ((metL L ((minF d q).take a))).length 1), (9, .ref 4 0 0), (10, .int .i64 (i)), (11, .int .i64 (q : Nat)), (12, .hs 7 0 0 rl.length 1), (64, aIs rk rl), (65, .int .i64 rl.length), (66, .int .i64 (a : Nat))])
        (H' := [Blk.cells 0 d.cells, .cells 0 [.sl .nil 0 [], .sl .nil 0 [], .sl .nil 0 []], .cells 0 (((numL d.accept.length (metL L ((minF d q).take a)))).map (.int .i64)), .cells (g) (((metL L ((minF d q).take a))).map fun x : Nat => .int .i64 (x : Int)), .cells 0 [aSs .any d.tracks, .hs 5 (i) 0 (i) 1, .hs 6 (i) 0 (i) 1], .cells (i) ((acs).map .bool), .cells (i) ((rws).map (aIs .any))] ++ [.cells 0 ((partL (fun j => ((metL L (minF d q)).idxOf ((minF d q).getD j 0) : Int)) rl.length (a)).map (.int .i64))]) ⟨(by kernel_rfl), (by kernel_rfl), (by kernel_rfl), (by kernel_rfl), (by kernel_rfl), (by kernel_rfl), (by kernel_rfl), (by kernel_rfl), (by kernel_rfl), (by kernel_rfl), (by kernel_rfl), (by kernel_rfl), trivial⟩ (by kernel_rfl)) ?_
    repeat first | refine opsStep ?_ | refine codeStep ?_ | refine drawStep ?_
    refine decB_dec (fun hg => ?_) (fun hg => ?_)
    · have hal : a < rl.length := by have := hg; simp at this; omega
      have haK : a < 2 ^ d.tracks.length := by omega
      obtain ⟨s1, s2, s3, s4⟩ := hst a haK
      obtain ⟨c1, c2⟩ := hlc _ s4
      have s3 : rl[a] = (stepN d.rows q a : Int) := by
        have : (d.next[q]).2[a]? = some (stepN d.rows q a : Int) := by rw [List.getElem?_eq_getElem s2, s3]
        rw [hre] at this
        exact (List.getElem?_eq_some_iff.1 this).2
      have hfa : a < (minF d q).length := by rw [hfl]; exact haK
      have hfe : (minF d q)[a] = lstN d (stepN d.rows q a) := by
        have := hfq q a hqn haK
        simpa [List.getD_eq_getElem?_getD, hfa] using this
      have hit := metL_at_hit (acc := L) hfa
      have miss := metL_at_miss (acc := L) hfa
      have hgd : (minF d q).getD a 0 = lstN d (stepN d.rows q a) := hfq q a hqn haK
      rw [hfe] at hit miss
      simp only [ixOf] at hit miss
      rw [hcl] at c2
      generalize hMe : metL L ((minF d q).take a) = M at *
      generalize stepN d.rows q a = to at *
      generalize lstN d to = tl at *
      have hng := numL_get (n := d.accept.length) (L := M) c2
      repeat first | refine opsStep ?_ | refine codeStep ?_ | refine drawStep ?_
      refine guardE_of (by simp; omega) ?_
      repeat first | refine opsStep ?_ | refine codeStep ?_ | refine drawStep ?_
      refine optE_of (c := .int .i64 (to : Nat)) (by simp [Value.cells, hal, s3]) ?_
      repeat first | refine opsStep ?_ | refine codeStep ?_ | refine drawStep ?_
      refine guardE_of (by simp; omega) ?_
      repeat first | refine opsStep ?_ | refine codeStep ?_ | refine drawStep ?_
      refine optE_of (c := .int .i64 (tl : Nat)) (by simp [Value.cells, ← c1, List.getD_eq_getElem?_getD, show to < (lstD d).length by omega]) ?_
      repeat first | refine opsStep ?_ | refine codeStep ?_ | refine drawStep ?_
      refine guardE_of (by simp; omega) ?_
      repeat first | refine opsStep ?_ | refine codeStep ?_ | refine drawStep ?_
      refine optE_of (c := .int .i64 ((numL d.accept.length M)[tl]'(by rw [numL_length]; exact c2))) (by simp [Value.cells, numL_length, c2]) ?_
      rw [hng]
      by_cases hm : tl ∈ M
      · obtain ⟨k1, k2⟩ := hit hm
        rw [if_pos hm]
        repeat first | refine opsStep ?_ | refine codeStep ?_ | refine drawStep ?_
        refine guardE_of (by simp; omega) ?_
        repeat first | refine opsStep ?_ | refine codeStep ?_ | refine drawStep ?_
        refine optE_of (c := .int .i64 (M.idxOf tl : Nat)) (by simp [Value.cells, numL_length, c2, hng, hm]) ?_
        repeat first | refine opsStep ?_ | refine codeStep ?_ | refine drawStep ?_
        refine guardE_of (by simp; omega) ?_
        repeat first | refine opsStep ?_ | refine codeStep ?_ | refine drawStep ?_
        refine guardE_of ⟨rfl, by decide, by show 0 + a * 1 + 1 ≤ ((partL (fun j => ((metL L (minF d q)).idxOf ((minF d q).getD j 0) : Int)) rl.length (a)).map (AV.int .i64)).length; rw [List.length_map, hpl]; omega⟩ ?_
        repeat first | refine opsStep ?_ | refine codeStep ?_ | refine drawStep ?_
        refine ⟨⟨(a + 1, g), by omega⟩, (by show rl.length - (a + 1) < rl.length - a; omega), Ent.fr' ⟨(by kernel_rfl), (by kernel_rfl), (by kernel_rfl), (by kernel_rfl), ?_, (by kernel_rfl), (by kernel_rfl), (by kernel_rfl), (by kernel_rfl), (by kernel_rfl), (by kernel_rfl), inc_slot (i := a) (by omega), trivial⟩ ?_⟩
        · refine Eq.trans (b := .hs 3 g 0 M.length 1) (by kernel_rfl) ?_
          show _ = AV.hs 3 g 0 (metL L ((minF d q).take (a + 1))).length 1
          rw [k1]
        · refine Eq.trans (b := [Blk.cells 0 d.cells, .cells 0 [.sl .nil 0 [], .sl .nil 0 [], .sl .nil 0 []], .cells 0 (((numL d.accept.length M)).map (.int .i64)), .cells (g) ((M).map fun x : Nat => .int .i64 (x : Int)), .cells 0 [aSs .any d.tracks, .hs 5 (i) 0 (i) 1, .hs 6 (i) 0 (i) 1], .cells (i) ((acs).map .bool), .cells (i) ((rws).map (aIs .any))] ++ [.cells 0 (over ((partL (fun j => ((metL L (minF d q)).idxOf ((minF d q).getD j 0) : Int)) rl.length (a)).map (AV.int .i64)) (0 + a * 1) [.int .i64 (M.idxOf tl : Nat)])]) (by kernel_rfl) ?_
          rw [Nat.zero_add, Nat.mul_one, over_one (by rw [List.length_map, hpl]; omega)]
          show _ = [Blk.cells 0 d.cells, .cells 0 [.sl .nil 0 [], .sl .nil 0 [], .sl .nil 0 []], .cells 0 (((numL d.accept.length (metL L ((minF d q).take (a + 1))))).map (.int .i64)), .cells (g) (((metL L ((minF d q).take (a + 1)))).map fun x : Nat => .int .i64 (x : Int)), .cells 0 [aSs .any d.tracks, .hs 5 (i) 0 (i) 1, .hs 6 (i) 0 (i) 1], .cells (i) ((acs).map .bool), .cells (i) ((rws).map (aIs .any))] ++ [.cells 0 ((partL (fun j => ((metL L (minF d q)).idxOf ((minF d q).getD j 0) : Int)) rl.length (a + 1)).map (.int .i64))]
          rw [k1, ← partL_step, hgd, k2, List.map_set]
      · obtain ⟨k1, k2⟩ := miss hm
        rw [if_neg hm]
        repeat first | refine opsStep ?_ | refine codeStep ?_ | refine drawStep ?_
        refine guardE_of (by simp; omega) ?_
        repeat first | refine opsStep ?_ | refine codeStep ?_ | refine drawStep ?_
        refine guardE_of ⟨rfl, by decide, by show 0 + tl * 1 + 1 ≤ ((numL d.accept.length M).map (AV.int .i64)).length; rw [List.length_map, numL_length]; omega⟩ ?_
        repeat first | refine opsStep ?_ | refine codeStep ?_ | refine drawStep ?_
        refine guardE_of ⟨rfl, by simp⟩ ?_
        refine guardE_of rfl ?_
        refine guardE_of ⟨by omega, by show (M.length + 1) * 8 ≤ 140737488355328; omega⟩ ?_
        repeat first | refine opsStep ?_ | refine codeStep ?_ | refine drawStep ?_
        refine guardE_of (by simp; omega) ?_
        repeat first | refine opsStep ?_ | refine codeStep ?_ | refine drawStep ?_
        refine optE_of (c := .int .i64 (M.length : Nat)) (by show (over ((numL d.accept.length M).map (AV.int .i64)) (0 + tl * 1) [.int .i64 (M.length : Nat)])[0 + tl * 1]? = _; rw [Nat.zero_add, Nat.mul_one, over_one (by rw [List.length_map, numL_length]; omega)]; simp [numL_length, c2]) ?_
        repeat first | refine opsStep ?_ | refine codeStep ?_ | refine drawStep ?_
        refine guardE_of (by simp; omega) ?_
        repeat first | refine opsStep ?_ | refine codeStep ?_ | refine drawStep ?_
        refine guardE_of ⟨rfl, by decide, by show 0 + a * 1 + 1 ≤ ((partL (fun j => ((metL L (minF d q)).idxOf ((minF d q).getD j 0) : Int)) rl.length (a)).map (AV.int .i64)).length; rw [List.length_map, hpl]; omega⟩ ?_
        repeat first | refine opsStep ?_ | refine codeStep ?_ | refine drawStep ?_
        refine ⟨⟨(a + 1, g + 1), by omega⟩, (by show rl.length - (a + 1) < rl.length - a; omega), Ent.to (Ent.frD (l := [(1, .ref 0 0 0), (2, .ref 1 0 0), (4, aIs .any (lstD d)), (6, .hs 2 0 0 d.accept.length 1), (8, .hs 3 ((g + 1)) 0 (metL L ((minF d q).take (a + 1))).length 1), (9, .ref 4 0 0), (10, .int .i64 (i)), (11, .int .i64 (q : Nat)), (12, .hs 7 0 0 rl.length 1), (64, aIs rk rl), (65, .int .i64 rl.length), (66, .int .i64 (a + 1 : Nat))]) (X := [.cells 0 [.int .i64 (tl : Nat)]])
          (H' := [Blk.cells 0 d.cells, .cells 0 [.sl .nil 0 [], .sl .nil 0 [], .sl .nil 0 []], .cells 0 (over ((numL d.accept.length M).map (AV.int .i64)) (0 + tl * 1) [.int .i64 (M.length : Nat)]),
            .cells (g + 1) (((M.map fun x : Nat => AV.int .i64 (x : Int)).drop 0).take (M.length * 1) ++ [.int .i64 (tl : Nat)]), .cells 0 [aSs .any d.tracks, .hs 5 i 0 i 1, .hs 6 i 0 i 1], .cells i (acs.map .bool), .cells i (rws.map (aIs .any)),
            .cells 0 (over ((partL (fun j => ((metL L (minF d q)).idxOf ((minF d q).getD j 0) : Int)) rl.length (a)).map (AV.int .i64)) (0 + a * 1) [.int .i64 (M.length : Nat)])])
          ⟨(by kernel_rfl), (by kernel_rfl), (by kernel_rfl), (by kernel_rfl), ?_, (by kernel_rfl), (by kernel_rfl), (by kernel_rfl), (by kernel_rfl), (by kernel_rfl), (by kernel_rfl), inc_slot (i := a) (by omega), trivial⟩ (by kernel_rfl) (Nat.zero_le _) (by first | (simp [frBel, blksBel, Blk.bel, AV.bel, bels, bels_append, bels_map, aSs_bel, aIs_bel, aBs_bel, aRs_bel, aDen_bel, cells_bel]; done) | (simp only [List.drop_zero, ← List.map_take, ← List.map_drop, List.map_map, frBel, blksBel, Blk.bel, AV.bel, bels, bels_append, bels_map, aSs_bel, aIs_bel, aBs_bel, aRs_bel, aDen_bel, cells_bel]; simp [AV.bel, aSs_bel, aIs_bel, aBs_bel, aRs_bel, aDen_bel, cells_bel])) ?_) ?_⟩
        · refine Eq.trans (b := .hs 3 (g + 1) 0 (M.length + 1) 1) (by kernel_rfl) ?_
          rw [k1, List.length_append]; rfl
        · rw [over_one (by rw [List.length_map, numL_length]; omega), over_one (by rw [List.length_map, hpl]; omega), td_all (by simp)]
          simp only [blksBel, Blk.bel, bels_append, bels_map, bels, AV.bel, cells_bel, aSs_bel, aIs_bel, ← List.map_set, and_true, true_and]
          simp [bels_map, AV.bel, aIs_bel]
        · rw [td_all (by simp), Nat.zero_add, Nat.mul_one, over_one (by rw [List.length_map, numL_length]; omega), Nat.zero_add, Nat.mul_one, over_one (by rw [List.length_map, hpl]; omega)]
          show _ = [Blk.cells 0 d.cells, .cells 0 [.sl .nil 0 [], .sl .nil 0 [], .sl .nil 0 []], .cells 0 (((numL d.accept.length (metL L ((minF d q).take (a + 1))))).map (.int .i64)), .cells ((g + 1)) (((metL L ((minF d q).take (a + 1)))).map fun x : Nat => .int .i64 (x : Int)), .cells 0 [aSs .any d.tracks, .hs 5 (i) 0 (i) 1, .hs 6 (i) 0 (i) 1], .cells (i) ((acs).map .bool), .cells (i) ((rws).map (aIs .any))] ++ [.cells 0 ((partL (fun j => ((metL L (minF d q)).idxOf ((minF d q).getD j 0) : Int)) rl.length (a + 1)).map (.int .i64))]
          rw [k1, ← partL_step, hgd, k2, ← numL_set hm, List.map_set, List.map_set, List.map_append]
          rfl
    · have hae : a = rl.length := by have := hg; simp at this; omega
      have hta : (minF d q).take a = minF d q := List.take_of_length_le (by rw [hfl]; omega)
      rw [hta] at hLa hLan hLal
      have hrxl : (rowX (minF d) (metL L (minF d q)) q).length = 2 ^ d.tracks.length := by rw [rowX, List.length_map, hfl]
      have hcz' : ∀ j, j < i + 1 → ∀ s, (metL L (minF d q))[j]? = some s → ∀ t ∈ minF d s, t ∈ metL L (minF d q) := fun j hj s hs t ht => by
        obtain ⟨r, hrr⟩ := metL_prefix (minF d q) L
        have hs' : L[j]? = some s := by rw [hrr, List.getElem?_append_left (by omega)] at hs; exact hs
        refine (metL_mem t _ _).2 ?_
        by_cases e : j = i
        · subst e
          rw [hgq] at hs'
          cases hs'
          exact .inr ht
        · exact .inl (hcz j (by omega) s hs' t ht)
      have hmore : i + 1 ≤ (metL L (minF d q)).length := by
        obtain ⟨r, hrr⟩ := metL_prefix (minF d q) L
        rw [hrr, List.length_append]; omega
      have htk : (metL L (minF d q)).take (i + 1) = L.take (i + 1) := by
        obtain ⟨r, hrr⟩ := metL_prefix (minF d q) L
        rw [hrr, List.take_append_of_le_length (by omega)]
      rw [← htk] at haccn hrown
      refine VCode.ent (Ent.fr' (l := [(1, .ref 0 0 0), (2, .ref 1 0 0), (4, aIs .any (lstD d)), (6, .hs 2 0 0 d.accept.length 1), (8, .hs 3 (g) 0 ((metL L (minF d q))).length 1), (9, .ref 4 0 0), (10, .int .i64 (i)), (11, .int .i64 (q : Nat)), (12, .hs 7 0 0 (2 ^ d.tracks.length) 1)])
        (H' := [Blk.cells 0 d.cells, .cells 0 [.sl .nil 0 [], .sl .nil 0 [], .sl .nil 0 []], .cells 0 (((numL d.accept.length (metL L (minF d q)))).map (.int .i64)), .cells (g) (((metL L (minF d q))).map fun x : Nat => .int .i64 (x : Int)), .cells 0 [aSs .any d.tracks, .hs 5 (i) 0 (i) 1, .hs 6 (i) 0 (i) 1], .cells (i) ((acs).map .bool), .cells (i) ((rws).map (aIs .any))] ++ [.cells 0 ((rowX (minF d) (metL L (minF d q)) q).map (.int .i64))]) ⟨(by kernel_rfl), (by kernel_rfl), (by kernel_rfl), (by kernel_rfl), ?_, (by kernel_rfl), (by kernel_rfl), (by kernel_rfl), ?_, trivial⟩ ?_) ?_
      · refine Eq.trans (b := .hs 3 g 0 (metL L ((minF d q).take a)).length 1) (by kernel_rfl) ?_
        rw [hta]
      · rw [← l1]; kernel_rfl
      · refine Eq.trans (b := [Blk.cells 0 d.cells, .cells 0 [.sl .nil 0 [], .sl .nil 0 [], .sl .nil 0 []], .cells 0 (((numL d.accept.length (metL L ((minF d q).take a)))).map (.int .i64)), .cells (g) (((metL L ((minF d q).take a))).map fun x : Nat => .int .i64 (x : Int)), .cells 0 [aSs .any d.tracks, .hs 5 (i) 0 (i) 1, .hs 6 (i) 0 (i) 1], .cells (i) ((acs).map .bool), .cells (i) ((rws).map (aIs .any))] ++ [.cells 0 ((partL (fun j => ((metL L (minF d q)).idxOf ((minF d q).getD j 0) : Int)) rl.length (a)).map (.int .i64))]) (by kernel_rfl) ?_
        rw [hta, hae, partL_full, l1, hall]
      generalize rowX (minF d) (metL L (minF d q)) q = rx at *
      generalize metL L (minF d q) = L' at *
      generalize 2 ^ d.tracks.length = K at *
      repeat first | refine opsStep ?_ | refine codeStep ?_ | refine drawStep ?_
      refine SW.drawn rfl (by kernel_rfl) ?_
      repeat first | refine opsStep ?_ | refine codeStep ?_ | refine drawStep ?_
      refine guardE_of (by omega) ?_
      repeat first | refine opsStep ?_ | refine codeStep ?_ | refine drawStep ?_
      refine optE_of (c := .bool (accN d.accept q)) (by simp [Value.cells, hacc]) ?_
      repeat first | refine opsStep ?_ | refine codeStep ?_ | refine drawStep ?_
      refine guardE_of ⟨rfl, by simp [hal]⟩ ?_
      refine guardE_of rfl ?_
      refine guardE_of ⟨by omega, by show (i + 1) * 1 ≤ 140737488355328; omega⟩ ?_
      repeat first | refine opsStep ?_ | refine codeStep ?_ | refine drawStep ?_
      refine ⟨by kernel_rfl, ?_⟩
      repeat first | refine opsStep ?_ | refine codeStep ?_ | refine drawStep ?_
      refine guardE_of ⟨rfl, by simp [hrwl]⟩ ?_
      refine guardE_of rfl ?_
      refine guardE_of ⟨by omega, by show (i + 1) * 24 ≤ 140737488355328; omega⟩ ?_
      repeat first | refine opsStep ?_ | refine codeStep ?_ | refine drawStep ?_
      refine ⟨⟨(i + 1, L', g), hmore, hex, hLan, hLa, hcz'⟩, (by show 300 - (i + 1) < 300 - i; omega), Ent.rowNext [Blk.cells 0 d.cells, .cells 0 [.sl .nil 0 [], .sl .nil 0 [], .sl .nil 0 []], .cells 0 ((numL d.accept.length L').map (.int .i64)), .cells g (L'.map fun x : Nat => .int .i64 (x : Int)), .cells 0 [aSs .any d.tracks, .hs 5 (i + 1) 0 (i + 1) 1, .hs 6 (i + 1) 0 (i + 1) 1],
          .cells (i + 1) (((acs.map AV.bool).drop 0).take (i * 1) ++ [.bool (accN d.accept q)])]
        (n := K) (es := 1) (L := ((rws.map (aIs .any)).drop 0).take (i * 1)) (gb := i + 1) (gr := 0) (cs := rx.map (.int .i64)) ⟨(by kernel_rfl), (by kernel_rfl), (by kernel_rfl), (by kernel_rfl), (by kernel_rfl), (by kernel_rfl), inc_slot (i := i) (by omega), trivial⟩ (by kernel_rfl) (by kernel_rfl) (by kernel_rfl) rfl (by simp [hrxl]) (Nat.le_of_ble_eq_true (by kernel_rfl)) (by first | (simp [frBel, blksBel, Blk.bel, AV.bel, bels, bels_append, bels_map, aSs_bel, aIs_bel, aBs_bel, aRs_bel, aDen_bel, cells_bel]; done) | (simp only [List.drop_zero, ← List.map_take, ← List.map_drop, List.map_map, frBel, blksBel, Blk.bel, AV.bel, bels, bels_append, bels_map, aSs_bel, aIs_bel, aBs_bel, aRs_bel, aDen_bel, cells_bel]; simp [AV.bel, aSs_bel, aIs_bel, aBs_bel, aRs_bel, aDen_bel, cells_bel])) ?_ (bels_td (bels_map.2 fun _ _ => aIs_bel _ _ _)) (by first | (simp [frBel, blksBel, Blk.bel, AV.bel, bels, bels_append, bels_map, aSs_bel, aIs_bel, aBs_bel, aRs_bel, aDen_bel, cells_bel]; done) | (simp only [List.drop_zero, ← List.map_take, ← List.map_drop, List.map_map, frBel, blksBel, Blk.bel, AV.bel, bels, bels_append, bels_map, aSs_bel, aIs_bel, aBs_bel, aRs_bel, aDen_bel, cells_bel]; simp [AV.bel, aSs_bel, aIs_bel, aBs_bel, aRs_bel, aDen_bel, cells_bel])) ?_⟩
      · rw [td_all (by simp [hal])]
        exact (by first | (simp [frBel, blksBel, Blk.bel, AV.bel, bels, bels_append, bels_map, aSs_bel, aIs_bel, aBs_bel, aRs_bel, aDen_bel, cells_bel]; done) | (simp only [List.drop_zero, ← List.map_take, ← List.map_drop, List.map_map, frBel, blksBel, Blk.bel, AV.bel, bels, bels_append, bels_map, aSs_bel, aIs_bel, aBs_bel, aRs_bel, aDen_bel, cells_bel]; simp [AV.bel, aSs_bel, aIs_bel, aBs_bel, aRs_bel, aDen_bel, cells_bel]))
      · rw [td_all (by simp [hal]), td_all (by simp [hrwl])]
        show _ = [Blk.cells 0 d.cells, .cells 0 [.sl .nil 0 [], .sl .nil 0 [], .sl .nil 0 []], .cells 0 (((numL d.accept.length L')).map (.int .i64)), .cells (g) ((L').map fun x : Nat => .int .i64 (x : Int)), .cells 0 [aSs .any d.tracks, .hs 5 (i + 1) 0 (i + 1) 1, .hs 6 (i + 1) 0 (i + 1) 1], .cells (i + 1) ((((L'.take (i + 1)).map (accN d.accept))).map .bool), .cells (i + 1) ((((L'.take (i + 1)).map (rowX (minF d) L'))).map (aIs .any))]
        rw [haccn, hrown, List.map_append, List.map_append]
        simp [aIs, hrxl]
  · have hie : i = L.length := by have := h; simp at this; omega
    rw [expl_none (by omega)] at hex
    subst hex
    have hLt : L.take L.length = L := List.take_length
    refine VCode.ent (Ent.fr' (l := [(1, .ref 0 0 0), (2, .ref 1 0 0), (4, aIs .any (lstD d)), (6, .hs 2 0 0 d.accept.length 1), (8, .hs 3 (g) 0 (L).length 1), (9, .ref 4 0 0), (10, .int .i64 (L.length))])
        (H' := [Blk.cells 0 d.cells, .cells 0 [.sl .nil 0 [], .sl .nil 0 [], .sl .nil 0 []], .cells 0 (((numL d.accept.length L)).map (.int .i64)), .cells (g) ((L).map fun x : Nat => .int .i64 (x : Int)), .cells 0 [aSs .any d.tracks, .hs 5 (L.length) 0 (L.length) 1, .hs 6 (L.length) 0 (L.length) 1], .cells (L.length) (((L.map (accN d.accept))).map .bool), .cells (L.length) (((L.map (rowX (minF d) L))).map (aIs .any))]) ⟨(by kernel_rfl), (by kernel_rfl), (by kernel_rfl), (by kernel_rfl), (by kernel_rfl), (by kernel_rfl), ?_, trivial⟩ ?_) ?_
    · refine Eq.trans (b := .int .i64 (i : Nat)) (by kernel_rfl) ?_
      rw [hie]
    · refine Eq.trans (b := [Blk.cells 0 d.cells, .cells 0 [.sl .nil 0 [], .sl .nil 0 [], .sl .nil 0 []], .cells 0 (((numL d.accept.length L)).map (.int .i64)), .cells (g) ((L).map fun x : Nat => .int .i64 (x : Int)), .cells 0 [aSs .any d.tracks, .hs 5 (i) 0 (i) 1, .hs 6 (i) 0 (i) 1], .cells (i) ((((L.take i).map (accN d.accept))).map .bool), .cells (i) ((((L.take i).map (rowX (minF d) L))).map (aIs .any))]) (by kernel_rfl) ?_
      rw [hie, hLt]
    repeat first | refine opsStep ?_ | refine codeStep ?_ | refine drawStep ?_
    refine finR (l := [(2, .ref 1 0 0), (3, .int .i64 0)]) (H₁ := [Blk.cells 0 d.cells, .cells 0 [aSs .any d.tracks, .hs 5 L.length 0 L.length 1, .hs 6 L.length 0 L.length 1], .cells 0 ((numL d.accept.length L).map (.int .i64)), .cells g (L.map fun x : Nat => .int .i64 (x : Int)), .cells 0 [aSs .any d.tracks, .hs 5 L.length 0 L.length 1, .hs 6 L.length 0 L.length 1], .cells L.length ((L.map (accN d.accept)).map .bool), .cells L.length ((L.map (rowX (minF d) L)).map (aIs .any))])
      (v := .tup [.agg [aSs .any d.tracks, .hs 5 L.length 0 L.length 1, .hs 6 L.length 0 L.length 1], .int .i64 0]) ⟨(by kernel_rfl), (by kernel_rfl), trivial⟩ (by kernel_rfl) (Ent.refl _ _ _) (by kernel_rfl) ?_
    exact ⟨rfl, _, _, _, _, _, rfl⟩

theorem canon_Minimal_bad (d : Den) (hd : DenOk d) (hr : rightS d = false) : Pure Try.prog 32 [aDen d] (.tup [aDen den0, .int .i64 3]) := by
  have hC := canon_Classes_bad d hd hr
  refine Pure.of_sw 114 Try.func32 rfl Try.ntmps32 (by kernel_rfl) (Nat.le_of_ble_eq_true (by kernel_rfl)) (by simp [closeds, AV.closed, aSs_closed, aIs_closed, aBs_closed, aRs_closed, aDen_closed]) (by simp [AV.closed, closeds, aSs_closed, aIs_closed, aBs_closed, aRs_closed, aDen_closed]) ?_; refine SW.of_vc ?_
  repeat first | refine opsStep ?_ | refine codeStep ?_ | refine drawStep ?_
  refine callP hC ?_
  repeat first | refine opsStep ?_ | refine codeStep ?_ | refine drawStep ?_
  exact finV (v' := .tup [aDen den0, .int .i64 3]) (by kernel_rfl) rfl

end Tab

/- What machines take, as languages; the canonical machine out of the language alone. -/
namespace Tab
open Go Go.Proofs
set_option maxRecDepth 10000
set_option linter.unusedVariables false
set_option linter.unusedSimpArgs false
set_option linter.unusedSectionVars false

abbrev Lang := List Nat → Bool
def letB (k : Nat) (w : List Nat) : Bool := w.all fun a => decide (a < 2 ^ k)
theorem letB_iff {k w} : letB k w = true ↔ Lets k w := by simp [letB, Lets]
/-- What is taken from a state on. -/
def langR (d : Den) (p : Nat) : Lang := fun w => letB d.tracks.length w && accN d.accept (runN d.rows p w)
def lang (d : Den) : Lang := langR d 0
theorem langR_let {d p w} (h : Lets d.tracks.length w) : langR d p w = accN d.accept (runN d.rows p w) := by rw [langR, letB_iff.2 h, Bool.true_and]
theorem alike_iff {d : Den} {p q : Nat} : Alike d p q ↔ langR d p = langR d q := by
  constructor
  · intro h
    funext w
    rw [langR, langR]
    cases e : letB d.tracks.length w with
    | false => rfl
    | true => rw [Bool.true_and, Bool.true_and, h w (letB_iff.1 e)]
  · intro h w hw
    rw [← langR_let hw, h, langR_let hw]
theorem langR_cons {d : Den} {p a : Nat} {w : List Nat} (ha : a < 2 ^ d.tracks.length) : langR d p (a :: w) = langR d (stepN d.rows p a) w := by
  simp only [langR, letB, List.all_cons, ha, decide_true, Bool.true_and, runN, List.foldl_cons]
theorem takesB_lang {d : Den} {w : List Nat} (h : Lets d.tracks.length w) : takesB d w = lang d w := by rw [lang, langR_let h]; rfl

section
variable {d : Den} (hr : rightS d = true)
include hr
theorem lst_alike {p : Nat} (hp : p < d.accept.length) : lstN d p < d.accept.length ∧ langR d (lstN d p) = langR d p := by
  have hn := clsD_ner hr
  have hl := hn.len
  obtain ⟨c1, c2⟩ := lst_cast (d := d) (q := p) (by omega)
  refine ⟨by omega, alike_iff.1 ((hn.iff _ _ (by omega) hp).1 ?_)⟩
  have hp' : p < (clsD d).length := by omega
  have e : (lstD d).getD p 0 = ((clsD d).idxOf (clsD d)[p] : Int) := by simp [lstD, List.getD_eq_getElem?_getD, hp']
  have hm := List.idxOf_lt_length_of_mem (List.getElem_mem hp')
  have e2 : lstN d p = (clsD d).idxOf (clsD d)[p] := by omega
  rw [e2, List.getD_eq_getElem?_getD, List.getElem?_eq_getElem hm, List.getElem_idxOf, List.getD_eq_getElem?_getD, List.getElem?_eq_getElem hp']
theorem lst_eq {p q : Nat} (hp : p < d.accept.length) (hq : q < d.accept.length) (h : langR d p = langR d q) : lstN d p = lstN d q := by
  have hn := clsD_ner hr
  have hl := hn.len
  have hc := (hn.iff p q hp hq).2 (alike_iff.2 h)
  have e : ∀ x, x < d.accept.length → lstN d x = (clsD d).idxOf ((clsD d).getD x 0) := fun x hx => by
    have hx' : x < (clsD d).length := by omega
    simp [lstN, lstD, List.getD_eq_getElem?_getD, hx']
  rw [e p hp, e q hq, hc]
theorem lst_zero : lstN d 0 = 0 := by
  have hl := (clsD_ner hr).len
  have hp := right_pos hr
  have hx : 0 < (clsD d).length := by omega
  have e : lstN d 0 = (clsD d).idxOf (clsD d)[0] := by simp [lstN, lstD, List.getD_eq_getElem?_getD, hx]
  rw [e]
  obtain ⟨x, l, h⟩ : ∃ x l, clsD d = x :: l := by
    cases e : clsD d with
    | nil => rw [e] at hx; simp at hx
    | cons x l => exact ⟨x, l, rfl⟩
  simp [h]

/-- Least ones of their classes. -/
def Least (d : Den) (q : Nat) : Prop := q < d.accept.length ∧ lstN d q = q
omit hr in
theorem minF_get {q a : Nat} (ha : a < 2 ^ d.tracks.length) : (minF d q)[a]? = some (lstN d (stepN d.rows q a)) := by
  rw [minF, List.getElem?_map, List.getElem?_range ha]; rfl
omit hr in
theorem minF_mem {q t : Nat} (h : t ∈ minF d q) : ∃ a, a < 2 ^ d.tracks.length ∧ t = lstN d (stepN d.rows q a) := by
  obtain ⟨a, ha, rfl⟩ := List.mem_map.1 h
  exact ⟨a, List.mem_range.1 ha, rfl⟩
theorem least_lst {p : Nat} (hp : p < d.accept.length) : Least d (lstN d p) := by
  obtain ⟨h1, h2⟩ := lst_alike hr hp
  exact ⟨h1, lst_eq hr h1 hp h2⟩
theorem least_step {q : Nat} (h : Least d q) : ∀ t ∈ minF d q, Least d t := fun t ht => by
  obtain ⟨a, ha, rfl⟩ := minF_mem ht
  exact least_lst hr (stepN_ok hr h.1 ha).2.2.2
theorem least_zero : Least d 0 := ⟨right_pos hr, lst_zero hr⟩
theorem least_inj {p q : Nat} (hp : Least d p) (hq : Least d q) (h : langR d p = langR d q) : p = q := by
  rw [← hp.2, ← hq.2]; exact lst_eq hr hp.1 hq.1 h

theorem minR_least : ∀ q ∈ minR d, Least d q := expl_all (fun s hs => least_step hr hs) 300 0 [0] (by simpa using least_zero hr)
omit hr in
theorem minR_nodup : (minR d).Nodup := expl_nodup 300 0 [0] (by simp)
theorem minR_len : (minR d).length ≤ d.accept.length := nodup_le minR_nodup fun q hq => (minR_least hr q hq).1
theorem minR_closed : ∀ s ∈ minR d, ∀ t ∈ minF d s, t ∈ minR d := by
  have h1 := minR_len hr
  have h2 := (tracksS_parts (rightS_parts hr).1).2.2.2
  exact expl_closed 300 0 [0] (fun i hi => by omega) (by show (minR d).length ≤ 0 + 300; omega)
omit hr in
theorem minR_zero : (minR d)[0]? = some 0 := by
  obtain ⟨r, h⟩ := expl_prefix (f := minF d) 300 0 [0]
  rw [minR, h]; rfl

/-! ### The canonical machine of a language -/

omit hr in
def langF (k : Nat) (K : Lang) : List Lang := (List.range (2 ^ k)).map fun a w => K (a :: w)
noncomputable def canL (k : Nat) (K : Lang) : List Lang := @expl Lang (Classical.typeDecidableEq _) (langF k) 300 0 [K]
noncomputable def canRow (k : Nat) (K J : Lang) : List Int := @rowX Lang (Classical.typeDecidableEq _) (langF k) (canL k K) J

theorem minF_lang {q : Nat} (h : Least d q) : (minF d q).map (langR d) = langF d.tracks.length (langR d q) := by
  rw [minF, langF, List.map_map]
  refine List.map_congr_left fun a ha => ?_
  have ha := List.mem_range.1 ha
  rw [Function.comp_apply, (lst_alike hr (stepN_ok hr h.1 ha).2.2.2).2]
  funext w
  exact (langR_cons ha).symm
theorem minR_lang : (minR d).map (langR d) = canL d.tracks.length (lang d) :=
  letI := Classical.typeDecidableEq Lang
  expl_map (f := minF d) (f' := langF d.tracks.length) (langR d) (Q := Least d) (fun s hs => least_step hr hs) (fun x y hx hy h => least_inj hr hx hy h) (fun s hs => minF_lang hr hs) 300 0 [0] (by simpa using least_zero hr)
theorem minD_accept : (minD d).accept = (canL d.tracks.length (lang d)).map fun K => K [] := by
  rw [← minR_lang hr, List.map_map]
  refine List.map_congr_left fun q _ => ?_
  rw [Function.comp_apply, langR_let (fun a ha => absurd ha (by simp))]; rfl
theorem minD_rows : (minD d).rows = (canL d.tracks.length (lang d)).map fun J => canRow d.tracks.length (lang d) J := by
  have e : (minD d).rows = (minR d).map (rowX (minF d) (minR d)) := by simp [minD, Den.rows, Function.comp_def]
  rw [e, ← minR_lang hr, List.map_map]
  refine List.map_congr_left fun q hq => ?_
  have hl := minR_least hr q hq
  have h := @rowX_map _ _ _ (Classical.typeDecidableEq Lang) (minF d) (langF d.tracks.length) (langR d) (minR d) q (minF_lang hr hl) fun x hx y hy e => least_inj hr (minR_least hr y hy) (least_step hr hl x hx) e
  rw [Function.comp_apply, canRow, ← minR_lang hr]
  exact h.symm
end

/-- Machines over the same tracks that take the same have one canonical machine. -/
theorem minD_same {d e : Den} (hd : rightS d = true) (he : rightS e = true) (ht : d.tracks = e.tracks) (h : lang d = lang e) : sameD (minD d) (minD e) = true := by
  rw [sameD_eq, minD_accept hd, minD_accept he, minD_rows hd, minD_rows he, ht, h]
  simp [show (minD d).tracks = (minD e).tracks from ht]

/-! ### The canonical machine takes the same -/

section
variable {d : Den} (hr : rightS d = true)
include hr
theorem min_idx {i a : Nat} (hi : i < (minR d).length) (ha : a < 2 ^ d.tracks.length) :
    ∃ h : stepN (minD d).rows i a < (minR d).length, (minR d)[stepN (minD d).rows i a] = lstN d (stepN d.rows (minR d)[i] a) := by
  have hm := minR_closed hr _ (List.getElem_mem hi) _ (List.mem_of_getElem? (minF_get (q := (minR d)[i]) ha))
  have hlt := List.idxOf_lt_length_of_mem hm
  have e1 : (minD d).rows.getD i [] = rowX (minF d) (minR d) (minR d)[i] := by
    simp [minD, Den.rows, List.getD_eq_getElem?_getD, hi]
  have e : stepN (minD d).rows i a = (minR d).idxOf (lstN d (stepN d.rows (minR d)[i] a)) := by
    rw [stepN, e1, rowX, List.getD_eq_getElem?_getD, List.getElem?_map, minF_get ha]; rfl
  refine ⟨by rw [e]; exact hlt, ?_⟩
  simp only [e]
  exact List.getElem_idxOf hlt
theorem min_right : rightS (minD d) = true := by
  obtain ⟨h1, h2, h3⟩ := rightS_parts hr
  obtain ⟨k1, k2, k3, k4⟩ := tracksS_parts h1
  have hl := minR_len hr
  have hpos : 0 < (minR d).length := by
    have := (List.getElem?_eq_some_iff.1 (minR_zero (d := d))).1; omega
  have ha : (minD d).accept.length = (minR d).length := by simp [minD]
  rw [rightS, show (minD d).tracks = d.tracks from rfl, ha, tracksS_mk k1 k2 (by omega) (by omega), decide_eq_true (by simp [minD] : (minD d).next.length = (minR d).length)]
  simp only [Bool.true_and, List.all_eq_true]
  intro r hrr
  simp only [minD, List.mem_map] at hrr
  obtain ⟨q, hq, rfl⟩ := hrr
  rw [rowOk, decide_eq_true (by rw [rowX, List.length_map, minF_length]), Bool.true_and, List.all_eq_true]
  intro x hx
  obtain ⟨t, ht, rfl⟩ := List.mem_map.1 hx
  have := List.idxOf_lt_length_of_mem (minR_closed hr q hq t ht)
  simp
  omega
theorem min_langR : ∀ (w : List Nat) {i : Nat} (hi : i < (minR d).length), langR (minD d) i w = langR d (minR d)[i] w
  | [], i, hi => by
    rw [langR, langR]
    simp only [letB, List.all_nil, runN, List.foldl_nil, Bool.true_and]
    simp [accN, minD, List.getD_eq_getElem?_getD, hi]
  | a :: w, i, hi => by
    by_cases ha : a < 2 ^ d.tracks.length
    · obtain ⟨h1, h2⟩ := min_idx hr hi ha
      rw [langR_cons (d := minD d) ha, langR_cons ha, min_langR w h1, h2]
      have := (lst_alike hr (stepN_ok hr (minR_least hr _ (List.getElem_mem hi)).1 ha).2.2.2).2
      rw [this]
    · simp [langR, letB, ha, show (minD d).tracks = d.tracks from rfl]
theorem min_lang : lang (minD d) = lang d := by
  obtain ⟨h, e⟩ := List.getElem?_eq_some_iff.1 (minR_zero (d := d))
  funext w
  rw [lang, min_langR hr w h, e]; rfl

/-! ### Sound -/

/-- A language that says a sign again and again alike, and not the empty word. -/
def SoundL (k : Nat) (K : Lang) : Prop := K [] = false ∧ ∀ w a, Lets k w → a < 2 ^ k → K (w ++ [a]) = K (w ++ [a, a])
omit hr in
theorem run_append (rows : List (List Int)) (q : Nat) (u v : List Nat) : runN rows q (u ++ v) = runN rows (runN rows q u) v := by simp [runN]
theorem min_reach : ∀ q ∈ minR d, ∃ w, Lets d.tracks.length w ∧ langR d q = langR d (runN d.rows 0 w) := by
  refine fun q hq => (expl_all (Q := fun q => q < d.accept.length ∧ ∃ w, Lets d.tracks.length w ∧ langR d q = langR d (runN d.rows 0 w)) ?_ 300 0 [0] ?_ q hq).2
  · rintro s ⟨hs, w, hw, e⟩ t ht
    obtain ⟨a, ha, rfl⟩ := minF_mem ht
    have h1 := stepN_ok hr hs ha
    refine ⟨(lst_alike hr h1.2.2.2).1, w ++ [a], fun b hb => ?_, ?_⟩
    · rcases List.mem_append.1 hb with hb | hb
      · exact hw b hb
      · simp at hb; omega
    · rw [(lst_alike hr h1.2.2.2).2, run_append]
      funext v
      show _ = langR d (stepN d.rows (runN d.rows 0 w) a) v
      rw [← langR_cons ha, ← langR_cons ha, e]
  · intro s hs
    simp at hs; subst hs
    exact ⟨right_pos hr, [], fun a ha => absurd ha (by simp), rfl⟩
theorem min_hit : ∀ (w : List Nat), Lets d.tracks.length w → ∃ q ∈ minR d, langR d q = langR d (runN d.rows 0 w) := by
  intro w hw
  have h0 : 0 ∈ minR d := List.mem_of_getElem? minR_zero
  suffices h : ∀ (w : List Nat) (q p : Nat), Lets d.tracks.length w → q ∈ minR d → p < d.accept.length → langR d q = langR d p → ∃ t ∈ minR d, langR d t = langR d (runN d.rows p w) from
    h w 0 0 hw h0 (right_pos hr) rfl
  intro w
  induction w with
  | nil => exact fun q p _ hq _ e => ⟨q, hq, e⟩
  | cons a w ih =>
    intro q p hw hq hp e
    have ha := hw a (by simp)
    have hq1 := stepN_ok hr (minR_least hr q hq).1 ha
    have hp1 := stepN_ok hr hp ha
    refine ih (lstN d (stepN d.rows q a)) (stepN d.rows p a) (fun b hb => hw b (by simp [hb])) (minR_closed hr q hq _ (List.mem_of_getElem? (minF_get ha))) hp1.2.2.2 ?_
    rw [(lst_alike hr hq1.2.2.2).2]
    funext v
    rw [← langR_cons ha, ← langR_cons ha, e]

/-- What the program looks at: no state's letter is told otherwise behind itself. -/
def soundS (m : Den) : Bool := !(accN m.accept 0) && (List.range m.accept.length).all fun i => (List.range (2 ^ m.tracks.length)).all fun a => decide (accN m.accept (stepN m.rows i a) = accN m.accept (stepN m.rows (stepN m.rows i a) a))
theorem sound_iff : soundS (minD d) = true ↔ SoundL d.tracks.length (lang d) := by
  have hm := min_right hr
  obtain ⟨hz, ez⟩ := List.getElem?_eq_some_iff.1 (minR_zero (d := d))
  have hacc : ∀ i (hi : i < (minR d).length), accN (minD d).accept i = langR d (minR d)[i] [] := fun i hi => by
    rw [← min_langR hr [] hi]; simp [langR, letB, runN]
  have hal : (minD d).accept.length = (minR d).length := by simp [minD]
  have hone : ∀ i (hi : i < (minR d).length) a, a < 2 ^ d.tracks.length → accN (minD d).accept (stepN (minD d).rows i a) = langR d (minR d)[i] [a] := fun i hi a ha => by
    rw [← min_langR hr [a] hi, langR_cons (d := minD d) ha]
    obtain ⟨h1, _⟩ := min_idx hr hi ha
    simp [langR, letB, runN]
  have htwo : ∀ i (hi : i < (minR d).length) a, a < 2 ^ d.tracks.length → accN (minD d).accept (stepN (minD d).rows (stepN (minD d).rows i a) a) = langR d (minR d)[i] [a, a] := fun i hi a ha => by
    rw [← min_langR hr [a, a] hi, langR_cons (d := minD d) ha, langR_cons (d := minD d) ha]
    simp [langR, letB, runN]
  have happ : ∀ (q : Nat) (w v : List Nat), Lets d.tracks.length w → langR d (runN d.rows q w) v = langR d q (w ++ v) := by
    intro q w v hw
    simp only [langR, letB, List.all_append, run_append]
    rw [show (w.all fun a => decide (a < 2 ^ d.tracks.length)) = true from letB_iff.2 hw, Bool.true_and]
  simp only [soundS, Bool.and_eq_true, Bool.not_eq_true', List.all_eq_true, List.mem_range, decide_eq_true_eq, hal, show (minD d).tracks = d.tracks from rfl]
  constructor
  · rintro ⟨h1, h2⟩
    refine ⟨?_, fun w a hw ha => ?_⟩
    · rw [hacc 0 hz, ez] at h1; exact h1
    · obtain ⟨q, hq, e⟩ := min_hit hr w hw
      obtain ⟨i, hi, rfl⟩ := List.getElem_of_mem hq
      have := h2 i hi a ha
      rw [hone i hi a ha, htwo i hi a ha, e, happ 0 w [a] hw, happ 0 w [a, a] hw] at this
      exact this
  · rintro ⟨h1, h2⟩
    refine ⟨by rw [hacc 0 hz, ez]; exact h1, fun i hi a ha => ?_⟩
    obtain ⟨w, hw, e⟩ := min_reach hr _ (List.getElem_mem hi)
    rw [hone i hi a ha, htwo i hi a ha, e, happ 0 w [a] hw, happ 0 w [a, a] hw]
    exact h2 w a hw ha
end

end Tab

/- canon.Sound. -/
namespace Tab
open Go Go.Proofs
set_option maxRecDepth 10000
set_option linter.unusedVariables false
set_option linter.unusedSimpArgs false
set_option linter.unusedSectionVars false

theorem minD_ok {d : Den} (hd : DenOk d) (hr : rightS d = true) : DenOk (minD d) := by
  have hl := minR_len hr
  have h := hd.accept
  have h2 := (tracksS_parts (rightS_parts hr).1).2.2.2
  have hk6 := (tracksS_parts (rightS_parts hr).1).1
  refine ⟨hd.tracks, hd.names, by simp [minD]; omega, by simp [minD]; omega, fun r hrr => ?_⟩
  simp only [minD, List.mem_map] at hrr
  obtain ⟨q, _, rfl⟩ := hrr
  have : 2 ^ d.tracks.length ≤ 2 ^ 6 := Nat.pow_le_pow_right (by omega) hk6
  simp only [rowX, List.length_map, minF_length]
  omega
@[irreducible] def soundD (d : Den) : Bool := rightS d && soundS (minD d)
theorem soundD_ok {d : Den} (h : rightS d = true) : soundD d = soundS (minD d) := by rw [soundD, h, Bool.true_and]
theorem soundD_bad {d : Den} (h : rightS d = false) : soundD d = false := by rw [soundD, h, Bool.false_and]
theorem soundD_iff {d : Den} (h : rightS d = true) : soundD d = true ↔ SoundL d.tracks.length (lang d) := by rw [soundD_ok h]; exact sound_iff h

def sndRow (m : Den) (i : Nat) : Bool := (List.range (2 ^ m.tracks.length)).all fun a => decide (accN m.accept (stepN m.rows i a) = accN m.accept (stepN m.rows (stepN m.rows i a) a))
theorem soundS_bad {m : Den} {i a : Nat} (hi : i < m.accept.length) (ha : a < 2 ^ m.tracks.length) (h : accN m.accept (stepN m.rows i a) ≠ accN m.accept (stepN m.rows (stepN m.rows i a) a)) : soundS m = false := by
  rw [soundS, ← Bool.not_eq_true, Bool.and_eq_true, List.all_eq_true]
  rintro ⟨_, k⟩
  have := k i (List.mem_range.2 hi)
  rw [List.all_eq_true] at this
  exact h (of_decide_eq_true (this a (List.mem_range.2 ha)))
theorem soundS_ok {m : Den} (h0 : accN m.accept 0 = false) (h : ∀ i, i < m.accept.length → ∀ a, a < 2 ^ m.tracks.length → accN m.accept (stepN m.rows i a) = accN m.accept (stepN m.rows (stepN m.rows i a) a)) : soundS m = true := by
  rw [soundS, h0]
  simp only [Bool.not_false, Bool.true_and, List.all_eq_true, List.mem_range, decide_eq_true_eq]
  exact h

end Tab
