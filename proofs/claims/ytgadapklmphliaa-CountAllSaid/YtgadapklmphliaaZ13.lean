/- Lemmas for this claim: part 13. No condition. -/
import Derived.Test.YtgadapklmphliaaZ9
import Derived.Test.YtgadapklmphliaaZ10
import Derived.Test.YtgadapklmphliaaZ11
import Derived.DeepKeys4
/- Pairs of numbers as keys. -/
namespace Tab
open Go Go.Proofs
set_option maxRecDepth 10000
set_option linter.unusedVariables false
set_option linter.unusedSimpArgs false
set_option linter.unusedSectionVars false

def pv2 (p : Int × Int) : Value := .agg #[.int .i64 p.1, .int .i64 p.2]
theorem pv2_inj {p q : Int × Int} (h : pv2 p = pv2 q) : p = q := by
  obtain ⟨a, b⟩ := p
  obtain ⟨c, d⟩ := q
  simp only [pv2, Value.agg.injEq, Array.mk.injEq, List.cons.injEq, Value.int.injEq, true_and, and_true] at h
  simp [h.1, h.2]
def ok2 (p : Int × Int) : Prop := (-(2^63) ≤ p.1 ∧ p.1 < 2^63) ∧ (-(2^63) ≤ p.2 ∧ p.2 < 2^63)
theorem lits2 {t : TypeId} (hu : Try.prog.underlying t = some (.array 2 3)) (hc : Try.prog.cellsOf t = 2) {a b : Int} (h : ok2 (a, b)) (n : Nat) : Try.prog.keyLits (n + 2) t [.int .i64 a, .int .i64 b] = some [.int .i64 a, .int .i64 b] := by
  have hi : Try.prog.underlying 3 = some (.int .i64) := (by kernel_rfl)
  have hc1 : Try.prog.cellsOf 3 = 1 := (by kernel_rfl)
  have hw : ∀ x : Int, (-(2^63) ≤ x ∧ x < 2^63) → (Lit.int .i64 x).wf = true := fun x h => by
    simp only [Lit.wf, Bool.and_eq_true, decide_eq_true_eq, show IntKind.i64.min = -9223372036854775808 from rfl, show IntKind.i64.max = 9223372036854775807 from rfl]
    omega
  have e1 : ∀ (n : Nat) (x : Int), (-(2^63) ≤ x ∧ x < 2^63) → Try.prog.keyLits (n + 1) 3 [.int .i64 x] = some [.int .i64 x] := fun n x h => by
    unfold Program.keyLits
    rw [hi]
    exact if_pos ⟨rfl, hw x h⟩
  unfold Program.keyLits
  rw [hu]
  simp only
  rw [if_pos (by rw [hc]; rfl), hc1]
  simp [List.range_succ, e1 n a h.1, e1 n b h.2]
theorem key2 {t : TypeId} (hu : Try.prog.underlying t = some (.array 2 3)) (hc : Try.prog.cellsOf t = 2) (hk : Try.prog.keyType t = true) {p : Int × Int} (h : ok2 p) : ∃ l, keyOf Try.prog t (pv2 p) = some l := by
  obtain ⟨a, b⟩ := p
  unfold keyOf
  rw [hu]
  obtain ⟨n, hn⟩ : ∃ n, Try.prog.types.size = n + 1 := ⟨Try.prog.types.size - 1, by have : 0 < Try.prog.types.size := (Nat.le_of_ble_eq_true (by kernel_rfl)); omega⟩
  refine ⟨.string (keyBytes [.int .i64 a, .int .i64 b]), ?_⟩
  have hf : Value.formed Try.prog t (pv2 (a, b)) = true := by simp only [Value.formed, pv2, hu, hc]; rfl
  show (if (Try.prog.keyType t && Value.formed Try.prog t (pv2 (a, b))) = true then Option.map (fun ls => Lit.string (keyBytes ls)) (Try.prog.keyLits (Try.prog.types.size + 1) t (pv2 (a, b)).cells.toList) else none) = _
  rw [hk, hf]
  rw [if_pos (show (true && true) = true from rfl), hn, show (pv2 (a, b)).cells.toList = [.int .i64 a, .int .i64 b] from rfl, lits2 hu hc h n]
  rfl
theorem eql2 {t : TypeId} (hu : Try.prog.underlying t = some (.array 2 3)) (hc : Try.prog.cellsOf t = 2) (hk : Try.prog.keyTypeAt 2 t = true) (hg : Try.prog.eqGuardType Try.prog.depth t = false) {a b c d : Int} (h1 : ok2 (a, b)) (h2 : ok2 (c, d)) :
    EqlE Try.prog t [.int .i64 a, .int .i64 b] [.int .i64 c, .int .i64 d] (decide ((a, b) = (c, d))) := by
  have hf : ∀ x y : Int, Value.formed Try.prog t (.agg #[.int .i64 x, .int .i64 y]) = true := fun x y => by simp only [Value.formed, hu, hc]; rfl
  refine .mk (xs := [.int .i64 a, .int .i64 b]) (ys := [.int .i64 c, .int .i64 d]) (la := [.int .i64 a, .int .i64 b]) (lb := [.int .i64 c, .int .i64 d]) (D := 0 + 2) (D' := 0 + 2) (m := 2) ?_ rfl rfl (lits2 hu hc h1 0) (lits2 hu hc h2 0) hk (by decide) (hf a b) (hf c d) hg
  rw [decide_eq_true_eq]
  simp

theorem keyed2 : Maps.Keyed Try.prog 151 := Maps.Keyed.of_law (deep_law_laid ((by kernel_rfl) : laidOutB Try.prog = true) (m := 2) (by decide) (of_decide_eq_true (by kernel_rfl)) (by kernel_rfl) (by kernel_rfl))

end Tab

/- Pairs of numbers, numbered as they are met. -/
namespace Tab
open Go Go.Proofs
set_option maxRecDepth 10000
set_option linter.unusedVariables false
set_option linter.unusedSimpArgs false
set_option linter.unusedSectionVars false

theorem mapPI : NumMap Try.prog 211 151 3 where
  map := (by kernel_rfl)
  law := Maps.Keyed.of_law (deep_law_laid ((by kernel_rfl) : laidOutB Try.prog = true) (m := 2) (by decide) (of_decide_eq_true (by kernel_rfl)) (by kernel_rfl) (by kernel_rfl))
  zero := mapII.zero
theorem keyP {p : Int × Int} (h : ok2 p) : ∃ l, keyOf Try.prog 151 (pv2 p) = some l := by
  have hu : Try.prog.underlying 151 = some (.array 2 3) := (by kernel_rfl)
  obtain ⟨a, b⟩ := p
  unfold keyOf
  rw [hu]
  have hi : Try.prog.underlying 3 = some (.int .i64) := (by kernel_rfl)
  have hc : Try.prog.cellsOf 151 = 2 := (by kernel_rfl)
  have hc1 : Try.prog.cellsOf 3 = 1 := (by kernel_rfl)
  have hw : ∀ x : Int, (-(2^63) ≤ x ∧ x < 2^63) → (Lit.int .i64 x).wf = true := fun x h => by
    simp only [Lit.wf, Bool.and_eq_true, decide_eq_true_eq, show IntKind.i64.min = -9223372036854775808 from rfl, show IntKind.i64.max = 9223372036854775807 from rfl]
    omega
  have e1 : ∀ (n : Nat) (x : Int), (-(2^63) ≤ x ∧ x < 2^63) → Try.prog.keyLits (n + 1) 3 [.int .i64 x] = some [.int .i64 x] := fun n x h => by
    unfold Program.keyLits
    rw [hi]
    exact if_pos ⟨rfl, hw x h⟩
  have e2 : ∀ n : Nat, Try.prog.keyLits (n + 2) 151 [.int .i64 a, .int .i64 b] = some [.int .i64 a, .int .i64 b] := fun n => by
    unfold Program.keyLits
    rw [hu]
    simp only
    rw [if_pos (by rw [hc]; rfl), hc1]
    simp [List.range_succ, e1 n a h.1, e1 n b h.2]
  obtain ⟨n, hn⟩ : ∃ n, Try.prog.types.size = n + 1 := ⟨Try.prog.types.size - 1, by have : 0 < Try.prog.types.size := (Nat.le_of_ble_eq_true (by kernel_rfl)); omega⟩
  refine ⟨.string (keyBytes [.int .i64 a, .int .i64 b]), ?_⟩
  show (if (Try.prog.keyType 151 && Value.formed Try.prog 151 (pv2 (a, b))) = true then Option.map (fun ls => Lit.string (keyBytes ls)) (Try.prog.keyLits (Try.prog.types.size + 1) 151 (pv2 (a, b)).cells.toList) else none) = _
  rw [if_pos (by kernel_rfl), hn]
  rw [show (pv2 (a, b)).cells.toList = [.int .i64 a, .int .i64 b] from rfl, e2 n]
  rfl

/-- What the closure answers: the number of a pair; and the pairs that are met then. -/
def met2 (L : List (Int × Int)) (p : Int × Int) : List (Int × Int) := if p ∈ L then L else L ++ [p]
theorem canon_split1 (a b : Int) (L : List (Int × Int)) (d : Den) (x3 : List Int) (hL : L.Nodup) (hl : L.length < 2^40) (hok : ∀ p ∈ L, ok2 p) (hp : ok2 (a, b)) :
    ACall Try.prog 168 [.int .i64 a, .int .i64 b, .ref 2 0 0] [.cells 0 d.cells, .dict (dI (L.map pv2)), .cells 0 [.mp 1], .cells 0 (x3.map (.int .i64))]
      fun o H' => o = .ret (.int .i64 ((met2 L (a, b)).idxOf (a, b) : Nat)) ∧ H' = [.cells 0 d.cells, .dict (dI ((met2 L (a, b)).map pv2)), .cells 0 [.mp 1], .cells 0 (x3.map (.int .i64))] := by
  have hn2 : (L.map pv2).Nodup := List.Pairwise.map _ (fun p q h e => h (pv2_inj e)) hL
  have hks : ∀ x ∈ L.map pv2, ∃ q, keyOf Try.prog 151 x = some q := fun x hx => by
    obtain ⟨y, hy, rfl⟩ := List.mem_map.1 hx
    exact keyP (hok y hy)
  obtain ⟨lx, hlx⟩ := keyP hp
  refine ACall.of_sw 26 Try.func168 rfl Try.ntmps168 (by kernel_rfl) (Nat.le_of_ble_eq_true (by kernel_rfl)) ?_; refine SW.of_vc ?_
  repeat first | refine opsStep ?_ | refine codeStep ?_ | refine drawStep ?_
  refine look_num mapPI (kv := pv2 (a, b)) (by kernel_rfl) hlx hn2 hks (fun p hp => ?_) (fun hp => ?_)
  · obtain ⟨q, hq, hqe⟩ : ∃ q, L[p]? = some q ∧ pv2 q = pv2 (a, b) := by
      rw [List.getElem?_map, Option.map_eq_some_iff] at hp; exact hp
    have hqe := pv2_inj hqe
    subst hqe
    have hm := List.mem_of_getElem? hq
    have hix : L.idxOf (a, b) = p := by
      obtain ⟨k1, e1⟩ := List.getElem?_eq_some_iff.1 hq
      have hlt := List.idxOf_lt_length_of_mem hm
      have e2 := List.getElem_idxOf hlt
      rcases Nat.lt_trichotomy (L.idxOf (a, b)) p with k | k | k
      · exact absurd (e2.trans e1.symm) (List.pairwise_iff_getElem.1 hL _ _ hlt k1 k)
      · exact k
      · exact absurd (e1.trans e2.symm) (List.pairwise_iff_getElem.1 hL _ _ k1 hlt k)
    repeat first | refine opsStep ?_ | refine codeStep ?_ | refine drawStep ?_
    refine finR (l := [(5, .int .i64 (p : Nat))]) (v := .int .i64 (p : Nat)) (H₁ := [.cells 0 d.cells, .dict (dI (L.map pv2)), .cells 0 [.mp 1], .cells 0 (x3.map (.int .i64))] ++ [.cells 0 [.int .i64 a, .int .i64 b]]) ⟨(by kernel_rfl), trivial⟩ (by kernel_rfl) (Ent.drop (Nat.le_of_ble_eq_true (by kernel_rfl)) (by first | (simp [frBel, blksBel, Blk.bel, AV.bel, bels, bels_append, bels_map, aSs_bel, aIs_bel, aBs_bel, aRs_bel, aDen_bel, cells_bel]; done) | (simp only [List.drop_zero, ← List.map_take, ← List.map_drop, List.map_map, frBel, blksBel, Blk.bel, AV.bel, bels, bels_append, bels_map, aSs_bel, aIs_bel, aBs_bel, aRs_bel, aDen_bel, cells_bel]; simp [AV.bel, aSs_bel, aIs_bel, aBs_bel, aRs_bel, aDen_bel, cells_bel])) (by first | (simp [frBel, blksBel, Blk.bel, AV.bel, bels, bels_append, bels_map, aSs_bel, aIs_bel, aBs_bel, aRs_bel, aDen_bel, cells_bel]; done) | (simp only [List.drop_zero, ← List.map_take, ← List.map_drop, List.map_map, frBel, blksBel, Blk.bel, AV.bel, bels, bels_append, bels_map, aSs_bel, aIs_bel, aBs_bel, aRs_bel, aDen_bel, cells_bel]; simp [AV.bel, aSs_bel, aIs_bel, aBs_bel, aRs_bel, aDen_bel, cells_bel]))) (by kernel_rfl) ?_
    rw [met2, if_pos hm, hix]
    exact ⟨rfl, rfl⟩
  · have hm : (a, b) ∉ L := fun h => hp (List.mem_map.2 ⟨_, h, rfl⟩)
    repeat first | refine opsStep ?_ | refine codeStep ?_ | refine drawStep ?_
    refine put_num mapPI (kv := pv2 (a, b)) (n := (dI (L.map pv2)).length) (by kernel_rfl) hlx hks hp (dI_length _) ?_
    repeat first | refine opsStep ?_ | refine codeStep ?_ | refine drawStep ?_
    refine finR (l := [(5, .int .i64 ((dI (L.map pv2)).length : Nat))]) (v := .int .i64 ((dI (L.map pv2)).length : Nat)) (H₁ := [.cells 0 d.cells, .dict (dI (L.map pv2 ++ [pv2 (a, b)])), .cells 0 [.mp 1], .cells 0 (x3.map (.int .i64))] ++ [.cells 0 [.int .i64 a, .int .i64 b]]) ⟨(by kernel_rfl), trivial⟩ (by kernel_rfl) (Ent.drop (Nat.le_of_ble_eq_true (by kernel_rfl)) (by first | (simp [frBel, blksBel, Blk.bel, AV.bel, bels, bels_append, bels_map, aSs_bel, aIs_bel, aBs_bel, aRs_bel, aDen_bel, cells_bel]; done) | (simp only [List.drop_zero, ← List.map_take, ← List.map_drop, List.map_map, frBel, blksBel, Blk.bel, AV.bel, bels, bels_append, bels_map, aSs_bel, aIs_bel, aBs_bel, aRs_bel, aDen_bel, cells_bel]; simp [AV.bel, aSs_bel, aIs_bel, aBs_bel, aRs_bel, aDen_bel, cells_bel])) (by first | (simp [frBel, blksBel, Blk.bel, AV.bel, bels, bels_append, bels_map, aSs_bel, aIs_bel, aBs_bel, aRs_bel, aDen_bel, cells_bel]; done) | (simp only [List.drop_zero, ← List.map_take, ← List.map_drop, List.map_map, frBel, blksBel, Blk.bel, AV.bel, bels, bels_append, bels_map, aSs_bel, aIs_bel, aBs_bel, aRs_bel, aDen_bel, cells_bel]; simp [AV.bel, aSs_bel, aIs_bel, aBs_bel, aRs_bel, aDen_bel, cells_bel]))) (by kernel_rfl) ?_
    rw [met2, if_neg hm, dI_length, List.length_map, List.idxOf_append, if_neg hm, List.map_append]
    exact ⟨by simp, rfl⟩

end Tab

/- The states told apart once more. -/
namespace Tab
open Go Go.Proofs
set_option maxRecDepth 10000
set_option linter.unusedVariables false
set_option linter.unusedSimpArgs false
set_option linter.unusedSectionVars false

/-- A row: the pairs met and the number, ahead of the letter a. -/
def rowN (cls : List Int) (r : List Int) (L : List (Int × Int)) (n : Nat) : Nat → List (Int × Int) × Nat
  | 0 => (L, n)
  | a + 1 =>
    let x := rowN cls r L n a
    let p : Int × Int := ((x.2 : Int) * (r.length + 1) + a, cls.getD (r.getD a 0).toNat 0)
    (met2 x.1 p, (met2 x.1 p).idxOf p)
theorem met2_length (L p) : (met2 L p).length ≤ L.length + 1 := by rw [met2]; split <;> simp
theorem met2_mem (L p) : p ∈ met2 L p := by rw [met2]; split <;> simp_all
theorem met2_idx (L p) : (met2 L p).idxOf p ≤ L.length := by
  have := List.idxOf_lt_length_of_mem (met2_mem L p)
  have := met2_length L p
  omega
theorem rowN_bound (cls r L) (n : Nat) : ∀ a, (rowN cls r L n a).1.length ≤ L.length + a ∧ (rowN cls r L n a).2 ≤ max n (L.length + a)
  | 0 => ⟨Nat.le_refl _, Nat.le_max_left _ _⟩
  | a + 1 => by
    obtain ⟨h1, h2⟩ := rowN_bound cls r L n a
    simp only [rowN]
    have := met2_length (rowN cls r L n a).1 (((rowN cls r L n a).2 : Int) * (r.length + 1) + a, cls.getD (r.getD a 0).toNat 0)
    have := met2_idx (rowN cls r L n a).1 (((rowN cls r L n a).2 : Int) * (r.length + 1) + a, cls.getD (r.getD a 0).toNat 0)
    constructor <;> omega
theorem met2_nodup {L p} (h : List.Nodup L) : (met2 L p).Nodup := by
  rw [met2]
  split
  · exact h
  · rename_i hx
    exact List.nodup_append.2 ⟨h, by simp, by intro a ha b hb e; simp only [List.mem_singleton] at hb; subst hb; subst e; exact hx ha⟩
theorem rowN_nodup (cls r L) (n : Nat) (h : List.Nodup L) : ∀ a, (rowN cls r L n a).1.Nodup
  | 0 => h
  | a + 1 => by simp only [rowN]; exact met2_nodup (rowN_nodup cls r L n h a)

theorem ok2_mk {a b : Int} (h1 : -(2^63) ≤ a) (h2 : a < 2^63) (h3 : -(2^63) ≤ b) (h4 : b < 2^63) : ok2 (a, b) := ⟨⟨h1, h2⟩, ⟨h3, h4⟩⟩
theorem rowN_ok {cls r : List Int} (hc : ∀ v ∈ cls, 0 ≤ v ∧ v ≤ 300) (hr : r.length ≤ 64) {L : List (Int × Int)} {n : Nat} (hL : ∀ p ∈ L, ok2 p) (hl : L.length ≤ 2^30) (hn : n ≤ 2^30) : ∀ a, a ≤ r.length → ∀ p ∈ (rowN cls r L n a).1, ok2 p
  | 0, _ => hL
  | a + 1, ha => by
    have ih := rowN_ok hc hr hL hl hn a (by omega)
    have hb := (rowN_bound cls r L n a).2
    simp only [rowN]
    intro p hp
    rw [met2] at hp
    have : p ∈ (rowN cls r L n a).1 ∨ p = (((rowN cls r L n a).2 : Int) * (r.length + 1) + a, cls.getD (r.getD a 0).toNat 0) := by
      split at hp
      · exact .inl hp
      · simpa using hp
    rcases this with h | h
    · exact ih p h
    · subst h
      have h2 : ((rowN cls r L n a).2 : Int) * (r.length + 1) ≤ 2^31 * 65 := Int.mul_le_mul (by omega) (by omega) (by omega) (by omega)
      have h3 : 0 ≤ ((rowN cls r L n a).2 : Int) * (r.length + 1) := Int.mul_nonneg (by omega) (by omega)
      refine ok2_mk (by omega) (by omega) ?_ ?_
      all_goals
       simp only [List.getD_eq_getElem?_getD]
       cases e : cls[(r[a]?.getD 0).toNat]? with
       | none => simp
       | some v => have := hc v (List.mem_of_getElem? e); simp only [Option.getD_some]; omega

/-- The pairs met ahead of the row q, and the row's number. -/
def spL (cls : List Int) (rows : List (List Int)) : Nat → List (Int × Int)
  | 0 => []
  | q + 1 => (rowN cls (rows.getD q []) (spL cls rows q) (cls.getD q 0).toNat (rows.getD q []).length).1
def spV (cls : List Int) (rows : List (List Int)) (q : Nat) : Nat := (rowN cls (rows.getD q []) (spL cls rows q) (cls.getD q 0).toNat (rows.getD q []).length).2
def spN (cls : List Int) (rows : List (List Int)) : List Int := (List.range rows.length).map fun q => (spV cls rows q : Int)

theorem cls_le {cls : List Int} (hc : ∀ v ∈ cls, 0 ≤ v ∧ v ≤ 300) (q : Nat) : (cls.getD q 0).toNat ≤ 300 ∧ 0 ≤ cls.getD q 0 := by
  simp only [List.getD_eq_getElem?_getD]
  cases e : cls[q]? with
  | none => simp
  | some v => have := hc v (List.mem_of_getElem? e); simp only [Option.getD_some]; omega
theorem spL_ok {cls : List Int} {rows : List (List Int)} (hc : ∀ v ∈ cls, 0 ≤ v ∧ v ≤ 300) (hr : ∀ r ∈ rows, r.length ≤ 64) : ∀ q, q ≤ rows.length → rows.length ≤ 256 → (spL cls rows q).length ≤ q * 64 ∧ (spL cls rows q).Nodup ∧ ∀ p ∈ spL cls rows q, ok2 p
  | 0, _, _ => ⟨Nat.zero_le _, List.nodup_nil, by simp [spL]⟩
  | q + 1, hq, h256 => by
    obtain ⟨h1, h2, h3⟩ := spL_ok hc hr q (by omega) h256
    have hg : rows.getD q [] ∈ rows := by simp [List.getD_eq_getElem?_getD, show q < rows.length by omega]
    have hrl := hr _ hg
    have hcl := (cls_le hc q).1
    have hb := (rowN_bound cls (rows.getD q []) (spL cls rows q) (cls.getD q 0).toNat (rows.getD q []).length).1
    refine ⟨by rw [spL]; omega, rowN_nodup _ _ _ _ h2 _, ?_⟩
    rw [spL]
    exact rowN_ok hc hrl h3 (by omega) (by omega) _ (Nat.le_refl _)

theorem canon_split (k : SK) (d : Den) (hd : DenOk d) (hr : rightS d = true) (cls : List Int) (hl : cls.length = d.accept.length) (hc : ∀ v ∈ cls, 0 ≤ v ∧ v ≤ 300) :
    Pure Try.prog 146 [aDen d, aIs k cls] (.tup [aIs .any (denL (spN cls d.rows)), .int .i64 ((metL [] (spN cls d.rows)).length : Nat)]) := by
  obtain ⟨g1, g2, g3⟩ := rightS_parts hr
  obtain ⟨j1, j2, j3, j4⟩ := tracksS_parts g1
  have hrl : d.rows.length = cls.length := by simp [Den.rows]; omega
  have hn := hd.next
  have hrow : ∀ r ∈ d.rows, r.length ≤ 64 := fun r h => by rw [rows_len hr r h]; exact by have : 2 ^ d.tracks.length ≤ 2 ^ 6 := Nat.pow_le_pow_right (by omega) j1; omega
  have hsp := fun q (h : q ≤ d.rows.length) => spL_ok hc hrow q h (by omega)
  refine Pure.of_sw 61 Try.func146 rfl Try.ntmps146 (by kernel_rfl) (Nat.le_of_ble_eq_true (by kernel_rfl)) (by simp [closeds, AV.closed, aSs_closed, aIs_closed, aBs_closed, aRs_closed, aDen_closed]) (by simp [AV.closed, closeds, aSs_closed, aIs_closed, aBs_closed, aRs_closed, aDen_closed]) ?_; refine SW.of_vc ?_
  repeat first | refine opsStep ?_ | refine codeStep ?_ | refine drawStep ?_
  refine guardE_of ⟨by omega, by omega, by show (8 : Int) * (cls.length : Int) ≤ 281474976710656; omega, by omega⟩ ?_
  repeat first | refine opsStep ?_ | refine codeStep ?_ | refine drawStep ?_
  refine loopE_of (ι := {q : Nat // q ≤ cls.length})
    (fun q => (fr [(1, aIs k cls), (2, .ref 0 0 0), (7, .fn (.func 168) [] [.ref 2 0 0]), (8, .hs 3 0 0 cls.length 1), (20, aRs d.nk d.next), (21, .int .i64 d.next.length), (22, .int .i64 q.1)], [Blk.cells 0 d.cells, .dict (dI ((spL cls d.rows q.1).map pv2)), .cells 0 [.mp 1], .cells 0 ((partL (fun j => (spV cls d.rows j : Int)) cls.length (q.1)).map (.int .i64))]))
    (fun q => cls.length - q.1) ⟨0, by omega⟩ (Ent.fr' ⟨(by kernel_rfl), (by kernel_rfl), (by kernel_rfl), (by kernel_rfl), (by kernel_rfl), (by kernel_rfl), (by kernel_rfl), trivial⟩ ?_) ?_
  · refine Eq.trans (b := [.cells 0 d.cells, .dict [], .cells 0 [.mp 1], Blk.cells 0 (reps [.int .i64 0] cls.length)]) (by kernel_rfl) ?_
    rw [reps_one, partL_zero]; simp [spL, dI_nil]
  rintro ⟨q, hq⟩
  obtain ⟨m1, m2, m3⟩ := hsp q (by omega)
  have hpl := partL_length (fun j => (spV cls d.rows j : Int)) cls.length q
  repeat first | refine opsStep ?_ | refine codeStep ?_ | refine drawStep ?_
  refine decB_dec (fun h => ?_) (fun h => ?_)
  · have hqn : q < d.next.length := by have := h; simp at this; omega
    have hrw : d.rows.getD q [] = (d.next[q]).2 := by simp [Den.rows, List.getD_eq_getElem?_getD, hqn]
    have hlen := (rowOk_parts (g3 _ (List.getElem_mem hqn))).1
    have hval := (rowOk_parts (g3 _ (List.getElem_mem hqn))).2
    have h64 : (d.next[q]).2.length ≤ 64 := by rw [← hrw]; exact hrow _ (by rw [hrw]; exact List.mem_map.2 ⟨_, List.getElem_mem hqn, rfl⟩)
    have hcq := cls_le hc q
    have e1 : spL cls d.rows (q + 1) = (rowN cls (d.next[q]).2 (spL cls d.rows q) (cls.getD q 0).toNat (d.next[q]).2.length).1 := by rw [spL, hrw]
    have e2 : spV cls d.rows q = (rowN cls (d.next[q]).2 (spL cls d.rows q) (cls.getD q 0).toNat (d.next[q]).2.length).2 := by rw [spV, hrw]
    generalize hLe : spL cls d.rows q = L at *
    repeat first | refine opsStep ?_ | refine codeStep ?_ | refine drawStep ?_
    refine guardE_of (by simp; omega) ?_
    repeat first | refine opsStep ?_ | refine codeStep ?_ | refine drawStep ?_
    refine optE_of (c := aIs (d.next[q]).1 (d.next[q]).2) (by simp [Value.cells, hqn]) ?_
    repeat first | refine opsStep ?_ | refine codeStep ?_ | refine drawStep ?_
    refine guardE_of (by simp; omega) ?_
    repeat first | refine opsStep ?_ | refine codeStep ?_ | refine drawStep ?_
    refine optE_of (c := .int .i64 ((cls.getD q 0).toNat : Nat)) ?_ ?_
    · simp [Value.cells, List.getD_eq_getElem?_getD, show q < cls.length by omega]
      have := hcq.2
      simp [List.getD_eq_getElem?_getD, show q < cls.length by omega] at this
      omega
    repeat first | refine opsStep ?_ | refine codeStep ?_ | refine drawStep ?_
    generalize hre : d.next[q] = r at *
    refine loopE_of (ι := {a : Nat // a ≤ r.2.length})
      (fun a => (fr [(1, aIs k cls), (2, .ref 0 0 0), (7, .fn (.func 168) [] [.ref 2 0 0]), (8, .hs 3 0 0 cls.length 1), (9, .int .i64 q), (10, aIs r.1 r.2), (11, .int .i64 ((rowN cls r.2 L (cls.getD q 0).toNat a.1).2 : Nat)), (20, aRs d.nk d.next), (21, .int .i64 d.next.length), (22, .int .i64 q), (31, aIs r.1 r.2), (32, .int .i64 r.2.length), (33, .int .i64 a.1)], [Blk.cells 0 d.cells, .dict (dI (((rowN cls r.2 L (cls.getD q 0).toNat a.1).1).map pv2)), .cells 0 [.mp 1], .cells 0 ((partL (fun j => (spV cls d.rows j : Int)) cls.length (q)).map (.int .i64))]))
      (fun a => r.2.length - a.1) ⟨0, by omega⟩ (Ent.fr' ⟨(by kernel_rfl), (by kernel_rfl), (by kernel_rfl), (by kernel_rfl), (by kernel_rfl), (by kernel_rfl), (by kernel_rfl), (by kernel_rfl), (by kernel_rfl), (by kernel_rfl), (by kernel_rfl), (by kernel_rfl), (by kernel_rfl), trivial⟩ (by kernel_rfl)) ?_
    rintro ⟨a, ha⟩
    have hb := rowN_bound cls r.2 L (cls.getD q 0).toNat a
    have hnd := rowN_nodup cls r.2 L (cls.getD q 0).toNat m2 a
    have hok := rowN_ok hc h64 m3 (by omega) (by omega) (n := (cls.getD q 0).toNat) a ha
    repeat first | refine opsStep ?_ | refine codeStep ?_ | refine drawStep ?_
    refine decB_dec (fun h => ?_) (fun h => ?_)
    · have hal : a < r.2.length := by have := h; simp at this; omega
      have hv := hval _ (List.getElem_mem hal)
      have e3 : rowN cls r.2 L (cls.getD q 0).toNat (a + 1) = (met2 (rowN cls r.2 L (cls.getD q 0).toNat a).1 (((rowN cls r.2 L (cls.getD q 0).toNat a).2 : Int) * (r.2.length + 1) + a, cls.getD (r.2.getD a 0).toNat 0), (met2 (rowN cls r.2 L (cls.getD q 0).toNat a).1 (((rowN cls r.2 L (cls.getD q 0).toNat a).2 : Int) * (r.2.length + 1) + a, cls.getD (r.2.getD a 0).toNat 0)).idxOf (((rowN cls r.2 L (cls.getD q 0).toNat a).2 : Int) * (r.2.length + 1) + a, cls.getD (r.2.getD a 0).toNat 0)) := rfl
      generalize rowN cls r.2 L (cls.getD q 0).toNat a = x at *
      obtain ⟨xl, xn⟩ := x
      simp only at hb hnd hok e3
      have ga : r.2.getD a 0 = r.2[a] := by simp [List.getD_eq_getElem?_getD, hal]
      rw [ga] at e3
      have hct := cls_le hc (r.2[a]).toNat
      have w1 : IntKind.wrap .i64 ((r.2.length : Int) + 1) = r.2.length + 1 := IntWalk.i64_in _ (by omega)
      have u1 : (xn : Int) * ((r.2.length : Int) + 1) ≤ 2^31 * 65 := Int.mul_le_mul (by omega) (by omega) (by omega) (by omega)
      have u2 : 0 ≤ (xn : Int) * ((r.2.length : Int) + 1) := Int.mul_nonneg (by omega) (by omega)
      have w2 : IntKind.wrap .i64 ((xn : Int) * ((r.2.length : Int) + 1)) = (xn : Int) * (r.2.length + 1) := IntWalk.i64_in _ (by omega)
      have w3 : IntKind.wrap .i64 ((xn : Int) * ((r.2.length : Int) + 1) + (a : Int)) = (xn : Int) * (r.2.length + 1) + a := IntWalk.i64_in _ (by omega)
      have hcall := canon_split1 ((xn : Int) * (r.2.length + 1) + a) (cls.getD (r.2[a]).toNat 0) xl d (partL (fun j => (spV cls d.rows j : Int)) cls.length q) hnd (by omega) hok (ok2_mk (by omega) (by omega) (by omega) (by omega))
      repeat first | refine opsStep ?_ | refine codeStep ?_ | refine drawStep ?_
      refine guardE_of (by simp; omega) ?_
      repeat first | refine opsStep ?_ | refine codeStep ?_ | refine drawStep ?_
      refine optE_of (c := .int .i64 r.2[a]) (by simp [Value.cells, hal]) ?_
      repeat first | refine opsStep ?_ | refine codeStep ?_ | refine drawStep ?_
      refine guardE_of (by omega) ?_
      repeat first | refine opsStep ?_ | refine codeStep ?_ | refine drawStep ?_
      refine optE_of (c := .int .i64 (cls.getD (r.2[a]).toNat 0)) (by simp [Value.cells, List.getD_eq_getElem?_getD, show (r.2[a]).toNat < cls.length by omega]) ?_
      rw [w1, w2, w3]
      repeat first | refine opsStep ?_ | refine codeStep ?_ | refine drawStep ?_
      refine callH hcall ?_
      repeat first | refine opsStep ?_ | refine codeStep ?_ | refine drawStep ?_
      refine ⟨⟨a + 1, by omega⟩, (by show r.2.length - (a + 1) < r.2.length - a; omega), Ent.fr' ⟨(by kernel_rfl), (by kernel_rfl), (by kernel_rfl), (by kernel_rfl), (by kernel_rfl), (by kernel_rfl), ?_, (by kernel_rfl), (by kernel_rfl), (by kernel_rfl), (by kernel_rfl), (by kernel_rfl), inc_slot (i := a) (by omega), trivial⟩ ?_⟩
      · show AV.int .i64 _ = AV.int .i64 ((rowN cls r.2 L (cls.getD q 0).toNat (a + 1)).2 : Nat)
        rw [e3]
      · refine Eq.trans (b := [Blk.cells 0 d.cells, .dict (dI ((met2 xl ((xn : Int) * (r.2.length + 1) + a, cls.getD (r.2[a]).toNat 0)).map pv2)), .cells 0 [.mp 1], .cells 0 ((partL (fun j => (spV cls d.rows j : Int)) cls.length (q)).map (.int .i64))]) (by kernel_rfl) ?_
        show _ = [Blk.cells 0 d.cells, .dict (dI (((rowN cls r.2 L (cls.getD q 0).toNat (a + 1)).1).map pv2)), .cells 0 [.mp 1], .cells 0 ((partL (fun j => (spV cls d.rows j : Int)) cls.length (q)).map (.int .i64))]
        rw [e3]
    · have hal : a = r.2.length := by have := h; simp at this; omega
      subst hal
      rw [← e1, ← e2]
      repeat first | refine opsStep ?_ | refine codeStep ?_ | refine drawStep ?_
      refine guardE_of (by simp; omega) ?_
      repeat first | refine opsStep ?_ | refine codeStep ?_ | refine drawStep ?_
      refine guardE_of ⟨rfl, by decide, by show 0 + q * 1 + 1 ≤ ((partL (fun j => (spV cls d.rows j : Int)) cls.length q).map (AV.int .i64)).length; rw [List.length_map, hpl]; omega⟩ ?_
      repeat first | refine opsStep ?_ | refine codeStep ?_ | refine drawStep ?_
      refine ⟨⟨q + 1, by omega⟩, (by show cls.length - (q + 1) < cls.length - q; omega), Ent.fr' ⟨(by kernel_rfl), (by kernel_rfl), (by kernel_rfl), (by kernel_rfl), (by kernel_rfl), (by kernel_rfl), inc_slot (i := q) (by omega), trivial⟩ ?_⟩
      refine Eq.trans (b := [.cells 0 d.cells, .dict (dI ((spL cls d.rows (q + 1)).map pv2)), .cells 0 [.mp 1], .cells 0 (over ((partL (fun j => (spV cls d.rows j : Int)) cls.length q).map (AV.int .i64)) (0 + q * 1) [.int .i64 (spV cls d.rows q : Nat)])]) (by kernel_rfl) ?_
      rw [Nat.zero_add, Nat.mul_one, over_one (by rw [List.length_map, hpl]; omega)]
      show _ = [Blk.cells 0 d.cells, .dict (dI ((spL cls d.rows (q + 1)).map pv2)), .cells 0 [.mp 1], .cells 0 ((partL (fun j => (spV cls d.rows j : Int)) cls.length (q + 1)).map (.int .i64))]
      rw [← partL_step, List.map_set]
  · have hqn : q = cls.length := by have := h; simp at this; omega
    subst hqn
    have hdn := canon_dense .any (spN cls d.rows) (by simp [spN]; omega) (fun v hv => ?_)
    rotate_left
    · obtain ⟨i, hi, rfl⟩ := List.mem_map.1 hv
      have hi := List.mem_range.1 hi
      have hb := (rowN_bound cls (d.rows.getD i []) (spL cls d.rows i) (cls.getD i 0).toNat (d.rows.getD i []).length).2
      have h64 := hrow _ (show d.rows.getD i [] ∈ d.rows by simp [List.getD_eq_getElem?_getD, hi])
      have := (hsp i (by omega)).1
      have := (cls_le hc i).1
      simp only [spV]
      omega
    have hsl : aIs .any (spN cls d.rows) = .sl .any cls.length ((partL (fun j => (spV cls d.rows j : Int)) cls.length cls.length).map (.int .i64)) := by
      rw [aIs, partL_full, spN, hrl]; simp
    rw [hsl] at hdn
    have hfit : cls.length * 1 = ((partL (fun j => (spV cls d.rows j : Int)) cls.length cls.length).map (AV.int .i64)).length := by rw [List.length_map, partL_length]; omega
    generalize (partL (fun j => (spV cls d.rows j : Int)) cls.length cls.length).map (AV.int .i64) = cs at *
    repeat first | refine opsStep ?_ | refine codeStep ?_ | refine drawStep ?_
    refine callZ 3 (g := 0) (cs := cs) (by kernel_rfl) hdn (.hs (b := 3) (g := 0) (by kernel_rfl) hfit .nil) ?_
    repeat first | refine opsStep ?_ | refine codeStep ?_ | refine drawStep ?_
    exact finV (v' := .tup [aIs .any (denL (spN cls d.rows)), .int .i64 ((metL [] (spN cls d.rows)).length : Nat)]) (by kernel_rfl) rfl

end Tab

/- Which states are alike: the plain law of split and classes. -/
namespace Tab
open Go Go.Proofs
set_option maxRecDepth 10000
set_option linter.unusedVariables false
set_option linter.unusedSimpArgs false
set_option linter.unusedSectionVars false

/-! ### split tells apart -/

theorem met2_prefix (L : List (Int × Int)) (p) : ∃ r, met2 L p = L ++ r := by
  rw [met2]; split
  · exact ⟨[], by simp⟩
  · exact ⟨[p], rfl⟩
theorem rowN_prefix (cls r L) (n : Nat) : ∀ a, ∃ s, (rowN cls r L n a).1 = L ++ s
  | 0 => ⟨[], by simp [rowN]⟩
  | a + 1 => by
    obtain ⟨s, hs⟩ := rowN_prefix cls r L n a
    simp only [rowN]
    obtain ⟨t, ht⟩ := met2_prefix (rowN cls r L n a).1 (((rowN cls r L n a).2 : Int) * (r.length + 1) + a, cls.getD (r.getD a 0).toNat 0)
    exact ⟨s ++ t, by rw [ht, hs, List.append_assoc]⟩
theorem rowN_le (cls r L) (n : Nat) (a : Nat) : ∀ b, ∃ s, (rowN cls r L n (a + b)).1 = (rowN cls r L n a).1 ++ s
  | 0 => ⟨[], by simp⟩
  | b + 1 => by
    obtain ⟨s, hs⟩ := rowN_le cls r L n a b
    rw [← Nat.add_assoc]
    simp only [rowN]
    obtain ⟨t, ht⟩ := met2_prefix (rowN cls r L n (a + b)).1 (((rowN cls r L n (a + b)).2 : Int) * (r.length + 1) + (a + b : Nat), cls.getD (r.getD (a + b) 0).toNat 0)
    exact ⟨s ++ t, by rw [ht, hs, List.append_assoc]⟩
theorem spL_le (cls rows) (q : Nat) : ∀ b, ∃ s, spL cls rows (q + b) = spL cls rows q ++ s
  | 0 => ⟨[], by simp⟩
  | b + 1 => by
    obtain ⟨s, hs⟩ := spL_le cls rows q b
    rw [← Nat.add_assoc, spL]
    obtain ⟨t, ht⟩ := rowN_prefix cls (rows.getD (q + b) []) (spL cls rows (q + b)) (cls.getD (q + b) 0).toNat (rows.getD (q + b) []).length
    exact ⟨s ++ t, by rw [ht, hs, List.append_assoc]⟩

/-- The number of a row ahead of the letter a is the place of its pair among all pairs. -/
theorem rowN_at {cls r L} {n : Nat} {P : List (Int × Int)} {a : Nat} (h : ∃ s, P = (rowN cls r L n (a + 1)).1 ++ s) :
    (((rowN cls r L n a).2 : Int) * (r.length + 1) + a, cls.getD (r.getD a 0).toNat 0) ∈ P ∧ (rowN cls r L n (a + 1)).2 = P.idxOf (((rowN cls r L n a).2 : Int) * (r.length + 1) + a, cls.getD (r.getD a 0).toNat 0) := by
  obtain ⟨s, rfl⟩ := h
  simp only [rowN]
  have hm := met2_mem (rowN cls r L n a).1 (((rowN cls r L n a).2 : Int) * (r.length + 1) + a, cls.getD (r.getD a 0).toNat 0)
  exact ⟨List.mem_append.2 (.inl hm), by rw [List.idxOf_append, if_pos hm]⟩

theorem idx_inj' {α : Type} [BEq α] [LawfulBEq α] {l : List α} {a b : α} (ha : a ∈ l) (hb : b ∈ l) (h : l.idxOf a = l.idxOf b) : a = b := by
  have h1 := List.getElem_idxOf (List.idxOf_lt_length_of_mem ha)
  have h2 := List.getElem_idxOf (List.idxOf_lt_length_of_mem hb)
  rw [← h1, ← h2]
  simp only [h]

theorem rowN_inj {cls r r'} {L L' P : List (Int × Int)} {n n' : Nat} (hk : r.length = r'.length) : ∀ a, (∃ s, P = (rowN cls r L n a).1 ++ s) → (∃ s, P = (rowN cls r' L' n' a).1 ++ s) →
    ((rowN cls r L n a).2 = (rowN cls r' L' n' a).2 ↔ n = n' ∧ ∀ b, b < a → cls.getD (r.getD b 0).toNat 0 = cls.getD (r'.getD b 0).toNat 0)
  | 0, _, _ => by simp [rowN]
  | a + 1, h, h' => by
    obtain ⟨s, hs⟩ := h
    obtain ⟨s', hs'⟩ := h'
    obtain ⟨u, hu⟩ := rowN_le cls r L n a 1
    obtain ⟨u', hu'⟩ := rowN_le cls r' L' n' a 1
    have ih := rowN_inj (P := P) (L := L) (L' := L') (n := n) (n' := n') (cls := cls) hk a ⟨u ++ s, by rw [← List.append_assoc, ← hu]; exact hs⟩ ⟨u' ++ s', by rw [← List.append_assoc, ← hu']; exact hs'⟩
    obtain ⟨m1, e1⟩ := rowN_at (P := P) ⟨s, hs⟩
    obtain ⟨m2, e2⟩ := rowN_at (P := P) ⟨s', hs'⟩
    constructor
    · intro h
      rw [e1, e2] at h
      have he := idx_inj' m1 m2 h
      simp only [Prod.mk.injEq] at he
      rw [hk] at he
      have hx : ((rowN cls r L n a).2 : Int) * (r'.length + 1) = ((rowN cls r' L' n' a).2 : Int) * (r'.length + 1) := by omega
      have hx := Int.eq_of_mul_eq_mul_right (by omega) hx
      obtain ⟨k1, k2⟩ := ih.1 (by omega)
      refine ⟨k1, fun b hb => ?_⟩
      by_cases e : b = a
      · subst e; exact he.2
      · exact k2 b (by omega)
    · rintro ⟨h1, h2⟩
      rw [e1, e2, ih.2 ⟨h1, fun b hb => h2 b (by omega)⟩, h2 a (by omega), hk]

theorem spV_iff {cls : List Int} {rows : List (List Int)} {p q K : Nat} (hp : p < rows.length) (hq : q < rows.length) (hk : ∀ r ∈ rows, r.length = K) (h0 : 0 ≤ cls.getD p 0) (h1 : 0 ≤ cls.getD q 0) :
    spV cls rows p = spV cls rows q ↔ cls.getD p 0 = cls.getD q 0 ∧ ∀ a, a < K → cls.getD (stepN rows p a) 0 = cls.getD (stepN rows q a) 0 := by
  have gp : rows.getD p [] ∈ rows := by simp [List.getD_eq_getElem?_getD, hp]
  have gq : rows.getD q [] ∈ rows := by simp [List.getD_eq_getElem?_getD, hq]
  have kp := hk _ gp
  have kq := hk _ gq
  have pre : ∀ x, x < rows.length → ∃ s, spL cls rows rows.length = (rowN cls (rows.getD x []) (spL cls rows x) (cls.getD x 0).toNat (rows.getD x []).length).1 ++ s := fun x hx => by
    obtain ⟨s, hs⟩ := spL_le cls rows (x + 1) (rows.length - (x + 1))
    rw [show x + 1 + (rows.length - (x + 1)) = rows.length by omega] at hs
    exact ⟨s, by rw [hs, spL]⟩
  have a1 := pre p hp
  have a2 := pre q hq
  rw [kp] at a1
  rw [kq] at a2
  rw [spV, spV, kp, kq, rowN_inj (P := spL cls rows rows.length) (by rw [kp, kq]) K a1 a2]
  simp only [stepN]
  constructor
  · rintro ⟨h, k⟩; exact ⟨by omega, k⟩
  · rintro ⟨h, k⟩; exact ⟨by rw [h], k⟩

theorem denL_length (l) : (denL l).length = l.length := by simp [denL]
theorem denL_iff {l : List Int} {i j : Nat} (hi : i < l.length) (hj : j < l.length) : (denL l).getD i 0 = (denL l).getD j 0 ↔ l.getD i 0 = l.getD j 0 := by
  have hm : ∀ x, x < l.length → l.getD x 0 ∈ metL [] l := fun x hx => (metL_mem _ _ _).2 (.inr (by simp [List.getD_eq_getElem?_getD, hx]))
  have e : ∀ x, x < l.length → (denL l).getD x 0 = ((metL [] l).idxOf (l.getD x 0) : Int) := fun x hx => by
    rw [List.getD_eq_getElem?_getD, denL, List.getElem?_map, List.getElem?_range hx]; rfl
  rw [e i hi, e j hj]
  constructor
  · intro h
    exact idx_inj' (hm i hi) (hm j hj) (by omega)
  · intro h; rw [h]
theorem denL_range {l : List Int} {v : Int} (h : v ∈ denL l) : 0 ≤ v ∧ v < l.length := by
  obtain ⟨i, hi, rfl⟩ := List.mem_map.1 h
  have hi := List.mem_range.1 hi
  have hm : l.getD i 0 ∈ metL [] l := (metL_mem _ _ _).2 (.inr (by simp [List.getD_eq_getElem?_getD, hi]))
  have h1 := List.idxOf_lt_length_of_mem hm
  have h2 := metL_len l []
  simp only [List.length_nil] at h2
  omega

/-! ### How many there are -/

theorem nodup_sub {α : Type} [DecidableEq α] : ∀ {a b : List α}, a.Nodup → (∀ x ∈ a, x ∈ b) → a.length ≤ b.length
  | [], _, _, _ => Nat.zero_le _
  | x :: a, b, hn, h => by
    have hx := h x (by simp)
    obtain ⟨h1, h2⟩ := List.nodup_cons.1 hn
    have := nodup_sub (a := a) (b := b.erase x) h2 fun y hy => (List.mem_erase_of_ne (fun e : y = x => h1 (e ▸ hy))).2 (h y (by simp [hy]))
    rw [List.length_erase_of_mem hx] at this
    have : 0 < b.length := List.length_pos_of_mem hx
    simp only [List.length_cons]
    omega

abbrev disN (l : List Int) : Nat := (metL [] l).length
theorem dis_le (l : List Int) : disN l ≤ l.length := by have := metL_len l []; simpa using this
theorem dis_pos {l : List Int} (h : 0 < l.length) : 0 < disN l := by
  cases l with
  | nil => simp at h
  | cons x l => exact List.length_pos_of_mem ((metL_mem x (x :: l) []).2 (.inr (by simp)))

theorem dis_refine {l m : List Int} (hl : l.length = m.length) (h : ∀ i j, i < l.length → j < l.length → m.getD i 0 = m.getD j 0 → l.getD i 0 = l.getD j 0) :
    disN l ≤ disN m ∧ (disN l = disN m → ∀ i j, i < l.length → j < l.length → l.getD i 0 = l.getD j 0 → m.getD i 0 = m.getD j 0) := by
  let g : Int → Int := fun x => l.getD (m.idxOf x) 0
  have hg : ∀ i, i < l.length → g (m.getD i 0) = l.getD i 0 := fun i hi => by
    have hm : m.getD i 0 ∈ m := by simp [List.getD_eq_getElem?_getD, ← hl, hi]
    have h1 := List.idxOf_lt_length_of_mem hm
    refine h _ _ (by omega) hi ?_
    rw [List.getD_eq_getElem?_getD, List.getElem?_eq_getElem h1, List.getElem_idxOf]; rfl
  have mem : ∀ x, x ∈ metL [] l → ∃ i, i < l.length ∧ l.getD i 0 = x := fun x hx => by
    have := (metL_mem x l []).1 hx
    simp only [List.not_mem_nil, false_or] at this
    obtain ⟨i, hi, rfl⟩ := List.getElem_of_mem this
    exact ⟨i, hi, by simp [List.getD_eq_getElem?_getD, hi]⟩
  have memm : ∀ i, i < l.length → m.getD i 0 ∈ metL [] m := fun i hi => (metL_mem _ _ _).2 (.inr (by simp [List.getD_eq_getElem?_getD, ← hl, hi]))
  have hn := metL_nodup l [] List.nodup_nil
  have hnm := metL_nodup m [] List.nodup_nil
  refine ⟨?_, fun he i j hi hj hij => ?_⟩
  · have := nodup_sub (b := (metL [] m).map g) hn fun x hx => by
      obtain ⟨i, hi, rfl⟩ := mem x hx
      exact List.mem_map.2 ⟨m.getD i 0, memm i hi, hg i hi⟩
    simpa using this
  · refine Classical.byContradiction fun hne => ?_
    have := nodup_sub (b := ((metL [] m).erase (m.getD i 0)).map g) hn fun x hx => by
      obtain ⟨k, hk, rfl⟩ := mem x hx
      by_cases hki : m.getD k 0 = m.getD i 0
      · refine List.mem_map.2 ⟨m.getD j 0, (List.mem_erase_of_ne (fun e => hne e.symm)).2 (memm j hj), ?_⟩
        rw [hg j hj, ← hij, ← hg i hi, ← hki, hg k hk]
      · exact List.mem_map.2 ⟨m.getD k 0, (List.mem_erase_of_ne hki).2 (memm k hk), hg k hk⟩
    rw [List.length_map, List.length_erase_of_mem (memm i hi)] at this
    have hp : 0 < (metL [] m).length := List.length_pos_of_mem (memm i hi)
    simp only [disN] at he
    omega

/-! ### classes -/

/-- States told apart, again and again, until their number stays. -/
def clsL (rows : List (List Int)) : Nat → List Int → Nat → List Int
  | 0, cls, _ => cls
  | f + 1, cls, c => if disN (spN cls rows) = c then denL (spN cls rows) else clsL rows f (denL (spN cls rows)) (disN (spN cls rows))
def cls0 (acc : List Bool) : List Int := acc.map fun b => if b then 1 else 0
def clsD (d : Den) : List Int := clsL d.rows (d.accept.length + 1) (cls0 d.accept) 0

theorem dis_den (l : List Int) : disN (denL l) = disN l := by
  have h := fun i j (hi : i < l.length) (hj : j < l.length) => denL_iff (l := l) hi hj
  have h1 := (dis_refine (l := denL l) (m := l) (denL_length l) fun i j hi hj e => (h i j (by rwa [denL_length] at hi) (by rwa [denL_length] at hj)).2 e).1
  have h2 := (dis_refine (l := l) (m := denL l) (denL_length l).symm fun i j hi hj e => (h i j hi hj).1 e).1
  omega

/-- Letters of a word. -/
abbrev Lets (k : Nat) (w : List Nat) : Prop := ∀ a ∈ w, a < 2 ^ k
def accN (acc : List Bool) (q : Nat) : Bool := acc.getD q false
/-- Are two states alike? -/
def Alike (d : Den) (p q : Nat) : Prop := ∀ w, Lets d.tracks.length w → accN d.accept (runN d.rows p w) = accN d.accept (runN d.rows q w)

structure ClsInv (d : Den) (cls : List Int) : Prop where
  len : cls.length = d.accept.length
  rng : ∀ v ∈ cls, 0 ≤ v ∧ v ≤ 300
  acc : ∀ p q, p < d.accept.length → q < d.accept.length → cls.getD p 0 = cls.getD q 0 → accN d.accept p = accN d.accept q
  apart : ∀ p q, p < d.accept.length → q < d.accept.length → cls.getD p 0 ≠ cls.getD q 0 → ∃ w, Lets d.tracks.length w ∧ accN d.accept (runN d.rows p w) ≠ accN d.accept (runN d.rows q w)

theorem cls_nonneg {d : Den} {cls : List Int} (h : ClsInv d cls) (q : Nat) : 0 ≤ cls.getD q 0 := (cls_le h.rng q).2
theorem rows_length {d : Den} (hr : rightS d = true) : d.rows.length = d.accept.length := by
  obtain ⟨_, h2, _⟩ := rightS_parts hr
  simp [Den.rows, h2]
theorem sp_iff {d : Den} (hr : rightS d = true) {cls : List Int} (h : ClsInv d cls) {p q : Nat} (hp : p < d.accept.length) (hq : q < d.accept.length) :
    (denL (spN cls d.rows)).getD p 0 = (denL (spN cls d.rows)).getD q 0 ↔ cls.getD p 0 = cls.getD q 0 ∧ ∀ a, a < 2 ^ d.tracks.length → cls.getD (stepN d.rows p a) 0 = cls.getD (stepN d.rows q a) 0 := by
  have hl := rows_length hr
  rw [denL_iff (by simp [spN]; omega) (by simp [spN]; omega), ← spV_iff (by omega) (by omega) (rows_len hr) (cls_nonneg h p) (cls_nonneg h q)]
  have e : ∀ x, x < d.accept.length → (spN cls d.rows).getD x 0 = (spV cls d.rows x : Int) := fun x hx => by
    rw [List.getD_eq_getElem?_getD, spN, List.getElem?_map, List.getElem?_range (by omega)]; rfl
  rw [e p hp, e q hq]
  omega
theorem sp_inv {d : Den} (hr : rightS d = true) {cls : List Int} (h : ClsInv d cls) : ClsInv d (denL (spN cls d.rows)) := by
  have hl := rows_length hr
  have h256 := (tracksS_parts (rightS_parts hr).1).2.2.2
  have hsl : (spN cls d.rows).length = d.accept.length := by simp [spN, hl]
  refine ⟨by rw [denL_length, hsl], fun v hv => ?_, fun p q hp hq e => h.acc p q hp hq ((sp_iff hr h hp hq).1 e).1, fun p q hp hq e => ?_⟩
  · have := denL_range hv; omega
  · by_cases hc : cls.getD p 0 = cls.getD q 0
    · have : ¬ ∀ a, a < 2 ^ d.tracks.length → cls.getD (stepN d.rows p a) 0 = cls.getD (stepN d.rows q a) 0 := fun k => e ((sp_iff hr h hp hq).2 ⟨hc, k⟩)
      have : ∃ a, a < 2 ^ d.tracks.length ∧ cls.getD (stepN d.rows p a) 0 ≠ cls.getD (stepN d.rows q a) 0 :=
        Classical.byContradiction fun k => this fun a ha => Classical.byContradiction fun k' => k ⟨a, ha, k'⟩
      obtain ⟨a, ha, hne⟩ := this
      obtain ⟨_, _, _, p1⟩ := stepN_ok hr hp ha
      obtain ⟨_, _, _, q1⟩ := stepN_ok hr hq ha
      obtain ⟨w, hw, hd⟩ := h.apart _ _ p1 q1 hne
      exact ⟨a :: w, fun b hb => by
        rcases List.mem_cons.1 hb with rfl | hb
        · exact ha
        · exact hw b hb, hd⟩
    · exact h.apart p q hp hq hc
theorem sp_more {d : Den} (hr : rightS d = true) {cls : List Int} (h : ClsInv d cls) : disN cls ≤ disN (spN cls d.rows) := by
  have hl := rows_length hr
  have hlen := h.len
  rw [← dis_den (spN cls d.rows)]
  refine (dis_refine (by rw [denL_length]; simp [spN]; omega) fun i j hi hj e => ?_).1
  exact ((sp_iff hr h (by omega) (by omega)).1 e).1
/-- Where their number stays, alike ones share a class, and only they. -/
theorem sp_done {d : Den} (hr : rightS d = true) {cls : List Int} (h : ClsInv d cls) (he : disN (spN cls d.rows) = disN cls) {p q : Nat} (hp : p < d.accept.length) (hq : q < d.accept.length) :
    (denL (spN cls d.rows)).getD p 0 = (denL (spN cls d.rows)).getD q 0 ↔ Alike d p q := by
  have hl := rows_length hr
  have hlen := h.len
  have hb := (dis_refine (l := cls) (m := denL (spN cls d.rows)) (by rw [denL_length]; simp [spN]; omega) fun i j hi hj e => ((sp_iff hr h (by omega) (by omega)).1 e).1).2 (by rw [dis_den]; omega)
  constructor
  · intro e w
    induction w generalizing p q with
    | nil => exact fun _ => h.acc p q hp hq ((sp_iff hr h hp hq).1 e).1
    | cons a w ih =>
      intro hw
      have ha := hw a (by simp)
      obtain ⟨_, _, _, p1⟩ := stepN_ok hr hp ha
      obtain ⟨_, _, _, q1⟩ := stepN_ok hr hq ha
      exact ih p1 q1 (hb _ _ (by omega) (by omega) (((sp_iff hr h hp hq).1 e).2 a ha)) fun b hb => hw b (by simp [hb])
  · intro k
    refine Classical.byContradiction fun hne => ?_
    obtain ⟨w, hw, hd⟩ := (sp_inv hr h).apart p q hp hq hne
    exact hd (k w hw)

theorem cls0_inv (d : Den) : ClsInv d (cls0 d.accept) := by
  have e : ∀ p, p < d.accept.length → (cls0 d.accept).getD p 0 = if accN d.accept p = true then 1 else 0 := fun p hp => by
    simp [cls0, accN, List.getD_eq_getElem?_getD, hp]
  refine ⟨by simp [cls0], fun v hv => ?_, fun p q hp hq h => ?_, fun p q hp hq h => ⟨[], fun a ha => absurd ha (by simp), ?_⟩⟩
  · obtain ⟨b, _, rfl⟩ := List.mem_map.1 hv
    cases b <;> simp
  · rw [e p hp, e q hq] at h
    cases h1 : accN d.accept p <;> cases h2 : accN d.accept q <;> simp_all
  · rw [e p hp, e q hq] at h
    simp only [runN, List.foldl_nil]
    intro k
    rw [k] at h
    exact h rfl

/-- What the classes are: alike states share one, and only they. -/
structure Ner (d : Den) (cls : List Int) : Prop where
  len : cls.length = d.accept.length
  rng : ∀ v ∈ cls, 0 ≤ v ∧ v ≤ 300
  iff : ∀ p q, p < d.accept.length → q < d.accept.length → (cls.getD p 0 = cls.getD q 0 ↔ Alike d p q)

theorem clsL_ner {d : Den} (hr : rightS d = true) : ∀ (f : Nat) (cls : List Int) (c : Nat), ClsInv d cls → (c = 0 ∨ c = disN cls) → d.accept.length + 1 ≤ f + c → Ner d (clsL d.rows f cls c)
  | 0, cls, c, h, hc, hf => by
    have := dis_le cls
    have := h.len
    omega
  | f + 1, cls, c, h, hc, hf => by
    rw [clsL]
    have hl := rows_length hr
    have hpos := right_pos hr
    have hi := sp_inv hr h
    split
    · rename_i he
      have hp : 0 < disN (spN cls d.rows) := dis_pos (by rw [spN, List.length_map, List.length_range]; omega)
      have hc : c = disN cls := by omega
      exact ⟨hi.len, hi.rng, fun p q hp hq => sp_done hr h (by omega) hp hq⟩
    · have := sp_more hr h
      exact clsL_ner hr f _ _ hi (.inr (dis_den _).symm) (by omega)
theorem clsD_ner {d : Den} (hr : rightS d = true) : Ner d (clsD d) := clsL_ner hr _ _ _ (cls0_inv d) (.inl rfl) (Nat.le_refl _)

end Tab

/- Words of a machine counted: plain. -/
namespace Tab
open Go
set_option maxRecDepth 10000
set_option linter.unusedVariables false
set_option linter.unusedSimpArgs false
set_option linter.unusedSectionVars false

def sumTo (f : Nat → Nat) : Nat → Nat
  | 0 => 0
  | k + 1 => sumTo f k + f k
theorem sumTo_congr {f g : Nat → Nat} : ∀ {k}, (∀ a, a < k → f a = g a) → sumTo f k = sumTo g k
  | 0, _ => rfl
  | k + 1, h => by rw [sumTo, sumTo, sumTo_congr fun a ha => h a (by omega), h k (by omega)]
theorem sumTo_pos {f : Nat → Nat} : ∀ {k}, 0 < sumTo f k ↔ ∃ a, a < k ∧ 0 < f a
  | 0 => ⟨fun h => by simp [sumTo] at h, fun ⟨a, h, _⟩ => by omega⟩
  | k + 1 => by
    rw [sumTo]
    constructor
    · intro h
      by_cases h0 : 0 < f k
      · exact ⟨k, by omega, h0⟩
      · obtain ⟨a, h1, h2⟩ := (sumTo_pos (f := f) (k := k)).1 (by omega)
        exact ⟨a, by omega, h2⟩
    · rintro ⟨a, h1, h2⟩
      by_cases e : a = k
      · subst e; omega
      · have := (sumTo_pos (f := f) (k := k)).2 ⟨a, by omega, h2⟩; omega
theorem sumTo_le {f : Nat → Nat} : ∀ {k a}, a < k → f a ≤ sumTo f k
  | 0, a, h => by omega
  | k + 1, a, h => by
    rw [sumTo]
    by_cases e : a = k
    · subst e; omega
    · have := sumTo_le (f := f) (k := k) (a := a) (by omega); omega
theorem sumTo_mono {f : Nat → Nat} {j k : Nat} (h : j ≤ k) : sumTo f j ≤ sumTo f k := by
  induction k with
  | zero => have : j = 0 := by omega
            subst this; exact Nat.le_refl _
  | succ k ih =>
    by_cases e : j = k + 1
    · subst e; exact Nat.le_refl _
    · have := ih (by omega); rw [sumTo]; omega
theorem sumTo_add (f g : Nat → Nat) : ∀ k, sumTo (fun a => f a + g a) k = sumTo f k + sumTo g k
  | 0 => rfl
  | k + 1 => by rw [sumTo, sumTo, sumTo, sumTo_add f g k]; omega
theorem sumTo_zero {f : Nat → Nat} {k : Nat} (h : ∀ a, a < k → f a = 0) : sumTo f k = 0 := by
  rcases Nat.eq_zero_or_pos (sumTo f k) with e | e
  · exact e
  · obtain ⟨a, h1, h2⟩ := sumTo_pos.1 e
    have := h a h1; omega
theorem sumTo_swap (f : Nat → Nat → Nat) (k : Nat) : ∀ j, sumTo (fun a => sumTo (f a) k) j = sumTo (fun b => sumTo (fun a => f a b) j) k
  | 0 => by rw [sumTo, sumTo_zero]; intro a _; rfl
  | j + 1 => by
    rw [sumTo, sumTo_swap f k j, ← sumTo_add]
    exact sumTo_congr fun a _ => rfl
theorem sumTo_head (f : Nat → Nat) : ∀ k, sumTo f (k + 1) = f 0 + sumTo (fun a => f (a + 1)) k
  | 0 => by simp [sumTo]
  | k + 1 => by rw [sumTo, sumTo_head f k, sumTo]; omega
theorem sumTo_stop {f : Nat → Nat} {j k : Nat} (h : j ≤ k) (hz : ∀ a, j ≤ a → f a = 0) : sumTo f k = sumTo f j := by
  induction k with
  | zero => have : j = 0 := by omega
            subst this; rfl
  | succ k ih =>
    by_cases e : j = k + 1
    · subst e; rfl
    · rw [sumTo, ih (by omega), hz k (by omega)]; rfl

structure Gr where
  n : Nat
  K : Nat
  st : Nat → Nat → Nat
  ac : Nat → Bool
structure Gr.Ok (g : Gr) : Prop where
  pos : 0 < g.n
  big : g.n ≤ 256
  let' : g.K ≤ 64
  stay : ∀ q a, q < g.n → a < g.K → g.st q a < g.n

section
variable (g : Gr)
def yesTo (q k : Nat) : Nat := ((List.range k).filter fun a => g.ac (g.st q a)).length
def yesN (q : Nat) : Nat := yesTo g q g.K
theorem yesTo_succ (q k) : yesTo g q (k + 1) = yesTo g q k + (if g.ac (g.st q k) = true then 1 else 0) := by
  rw [yesTo, List.range_succ, List.filter_append, List.length_append]
  cases h : g.ac (g.st q k) with
  | true => simp [h, yesTo]
  | false => simp [h, yesTo]
theorem yesTo_le (q k) : yesTo g q k ≤ k := by
  rw [yesTo]
  exact Nat.le_trans (List.length_filter_le _ _) (by simp)
/-- How many letters, unlike the last one, end a word from here. -/
def endsN (q a : Nat) : Nat := if g.ac (g.st q a) = true then yesN g q - 1 else yesN g q
theorem endsN_le (q a) : endsN g q a ≤ yesN g q := by rw [endsN]; split <;> omega
theorem yes_pos {q a : Nat} (ha : a < g.K) (h : g.ac (g.st q a) = true) : 0 < yesN g q := by
  rw [yesN, yesTo, List.length_pos_iff_exists_mem]
  exact ⟨a, List.mem_filter.2 ⟨List.mem_range.2 ha, h⟩⟩
def wordsN : Nat → Nat → Nat
  | 0, q => sumTo (fun a => endsN g (g.st q a) a) g.K
  | k + 1, q => sumTo (fun a => wordsN k (g.st q a)) g.K
def liveP (q : Nat) : Prop := ∃ k, 0 < wordsN g k q
theorem live_iff (q) : liveP g q ↔ ∃ a, a < g.K ∧ (0 < endsN g (g.st q a) a ∨ liveP g (g.st q a)) := by
  constructor
  · rintro ⟨k, h⟩
    cases k with
    | zero =>
      obtain ⟨a, h1, h2⟩ := sumTo_pos.1 h
      exact ⟨a, h1, .inl h2⟩
    | succ k =>
      obtain ⟨a, h1, h2⟩ := sumTo_pos.1 h
      exact ⟨a, h1, .inr ⟨k, h2⟩⟩
  · rintro ⟨a, h1, h2 | ⟨k, h2⟩⟩
    · exact ⟨0, sumTo_pos.2 ⟨a, h1, h2⟩⟩
    · exact ⟨k + 1, sumTo_pos.2 ⟨a, h1, h2⟩⟩
open Classical in
@[irreducible] noncomputable def liveB (q : Nat) : Bool := decide (liveP g q)
open Classical in
theorem liveB_iff {q} : liveB g q = true ↔ liveP g q := by unfold liveB; exact decide_eq_true_iff
noncomputable def liveL : List Bool := (List.range g.n).map (liveB g)
theorem liveL_length : (liveL g).length = g.n := by simp [liveL]
theorem liveL_get {q} (h : q < g.n) : (liveL g)[q]? = some (liveB g q) := by simp [liveL, h]
def SpSound (L : List Bool) : Prop := L.length = g.n ∧ ∀ q, L[q]? = some true → liveP g q
def SpDone (L : List Bool) (q a : Nat) : Prop := (0 < endsN g (g.st q a) a ∨ L[g.st q a]? = some true) → L[q]? = some true
variable {g}
theorem live_final (hg : g.Ok) {L : List Bool} (h : SpSound g L) (hc : ∀ q a, q < g.n → a < g.K → SpDone g L q a) : L = liveL g := by
  obtain ⟨hl, hs⟩ := h
  have key : ∀ k q, q < g.n → 0 < wordsN g k q → L[q]? = some true := by
    intro k
    induction k with
    | zero =>
      intro q hq h
      obtain ⟨a, h1, h2⟩ := sumTo_pos.1 h
      exact hc q a hq h1 (.inl h2)
    | succ k ih =>
      intro q hq h
      obtain ⟨a, h1, h2⟩ := sumTo_pos.1 h
      exact hc q a hq h1 (.inr (ih _ (hg.stay q a hq h1) h2))
  refine List.ext_getElem? fun q => ?_
  by_cases hq : q < g.n
  · rw [liveL_get g hq]
    cases hb : liveB g q with
    | true =>
      obtain ⟨k, hk⟩ := (liveB_iff g).1 hb
      exact key k q hq hk
    | false =>
      rw [List.getElem?_eq_getElem (by omega)]
      cases hx : L[q]'(by omega) with
      | false => rfl
      | true =>
        have := (liveB_iff g).2 (hs q (by rw [List.getElem?_eq_getElem (by omega), hx]))
        rw [hb] at this; simp at this
  · rw [List.getElem?_eq_none (by omega), List.getElem?_eq_none (by rw [liveL_length]; omega)]
theorem SpSound.set {L : List Bool} (h : SpSound g L) {q a : Nat} (ha : a < g.K) (hx : 0 < endsN g (g.st q a) a ∨ L[g.st q a]? = some true) : SpSound g (L.set q true) := by
  obtain ⟨hl, hs⟩ := h
  refine ⟨by simpa using hl, fun x hx' => ?_⟩
  rw [List.getElem?_set] at hx'
  split at hx'
  · rename_i e
    subst e
    exact (live_iff g q).2 ⟨a, ha, hx.imp id (hs _)⟩
  · exact hs x hx'
def trues (L : List Bool) : Nat := (L.filter id).length
theorem trues_set : ∀ {L : List Bool} {q : Nat}, L[q]? = some false → trues (L.set q true) = trues L + 1
  | [], q, h => by simp at h
  | b :: L, 0, h => by simp at h; subst h; simp [trues]
  | b :: L, q + 1, h => by
    have ih := trues_set (L := L) (q := q) (by simpa using h)
    simp only [trues, List.set_cons_succ] at ih ⊢
    cases b <;> simp [ih]
theorem trues_le (L : List Bool) : trues L ≤ L.length := List.length_filter_le _ _

/-! ### Rings -/
variable (g)
def Ed (x y : Nat) : Prop := liveP g x ∧ ∃ a, a < g.K ∧ y = g.st x a
inductive Pth : Nat → Nat → Prop
  | one {x y} : Ed g x y → Pth x y
  | snoc {x y z} : Pth x y → Ed g y z → Pth x z
def Rch (x : Nat) : Prop := x = 0 ∨ Pth g 0 x
def FinP : Prop := ∃ r : Nat → Nat, ∀ x, Rch g x → ∀ y, Ed g x y → liveP g y → r y < r x
open Classical in
@[irreducible] noncomputable def finT : Bool := decide (FinP g)
open Classical in
theorem finT_iff : finT g = true ↔ FinP g := by unfold finT; exact decide_eq_true_iff
variable {g}
theorem Pth.trans {x y z} (h : Pth g x y) (h' : Pth g y z) : Pth g x z := by
  induction h' with
  | one e => exact .snoc h e
  | snoc _ e ih => exact .snoc ih e
theorem Rch.snoc {x y} (h : Rch g x) (e : Ed g x y) : Rch g y := by
  rcases h with rfl | h
  · exact .inr (.one e)
  · exact .inr (.snoc h e)
theorem Rch.pth {x y} (h : Rch g x) (p : Pth g x y) : Rch g y := by
  rcases h with rfl | h
  · exact .inr p
  · exact .inr (h.trans p)
theorem Pth.live {x y} (h : Pth g x y) : liveP g x := by
  induction h with
  | one e => exact e.1
  | snoc _ _ ih => exact ih
theorem Pth.down {r : Nat → Nat} (hr : ∀ x, Rch g x → ∀ y, Ed g x y → liveP g y → r y < r x) {x y} (hx : Rch g x) (h : Pth g x y) : liveP g y → r y < r x := by
  induction h with
  | one e => exact hr _ hx _ e
  | snoc p e ih =>
    intro hl
    have h1 := ih e.1
    have h2 := hr _ (hx.pth p) _ e hl
    omega
theorem ring_not {x} (hx : Rch g x) (h : Pth g x x) : ¬ FinP g := fun ⟨r, hr⟩ => by
  have := h.down hr hx h.live
  omega
theorem Rch.lt (hg : g.Ok) {x} (h : Rch g x) : x < g.n := by
  rcases h with rfl | h
  · exact hg.pos
  · induction h with
    | one e => obtain ⟨_, a, ha, rfl⟩ := e; exact hg.stay _ _ hg.pos ha
    | snoc _ e ih => obtain ⟨_, a, ha, rfl⟩ := e; exact hg.stay _ _ ih ha

variable (g)
/-- What is done lies on no ring. -/
def DoneI (M : List Nat) : Prop := ∃ r : Nat → Nat, ∀ x : Nat, M[x]? = some 2 → liveP g x ∧ ∀ a, a < g.K → liveP g (g.st x a) → M[g.st x a]? = some 2 ∧ r (g.st x a) < r x
structure RgPre (M : List Nat) (q : Nat) : Prop where
  len : M.length = g.n
  two : ∀ x v : Nat, M[x]? = some v → v ≤ 2
  done : DoneI g M
  on : ∀ x : Nat, M[x]? = some 1 → Rch g x ∧ Pth g x q
  at' : Rch g q
structure RgSame (M M' : List Nat) : Prop where
  len : M'.length = g.n
  two : ∀ x v : Nat, M'[x]? = some v → v ≤ 2
  zero : ∀ x : Nat, M'[x]? = some 0 → M[x]? = some 0
  one : ∀ x : Nat, M'[x]? = some 1 ↔ M[x]? = some 1
  keep : ∀ x : Nat, M[x]? = some 2 → M'[x]? = some 2
  done : DoneI g M'
def RgPost (M : List Nat) (q : Nat) : Bool → List Nat → Prop
  | true, M' => M'.length = g.n ∧ ∃ x, Rch g x ∧ Pth g x x
  | false, M' => RgSame g M M' ∧ (liveP g q → M'[q]? = some 2)
variable {g}
def zeros : List Nat → Nat
  | [] => 0
  | x :: l => (if x = 0 then 1 else 0) + zeros l
theorem zeros_set : ∀ {M : List Nat} {q v : Nat}, M[q]? = some 0 → v ≠ 0 → zeros (M.set q v) + 1 = zeros M
  | [], q, v, h, _ => by simp at h
  | b :: M, 0, v, h, hv => by simp at h; subst h; simp [zeros, hv]; omega
  | b :: M, q + 1, v, h, hv => by
    have ih := zeros_set (M := M) (q := q) (v := v) (by simpa using h) hv
    rw [List.set_cons_succ, zeros, zeros]; omega
theorem zeros_le : ∀ {M M' : List Nat}, M'.length = M.length → (∀ x : Nat, M'[x]? = some 0 → M[x]? = some 0) → zeros M' ≤ zeros M
  | [], [], _, _ => Nat.le_refl _
  | [], _ :: _, h, _ => by simp at h
  | _ :: _, [], h, _ => by simp at h
  | a :: M, b :: M', h, hz => by
    have ih := zeros_le (M := M) (M' := M') (by simpa using h) fun x hx => by simpa using hz (x + 1) (by simpa using hx)
    have h0 := hz 0
    simp only [List.getElem?_cons_zero, Option.some.injEq] at h0
    rw [zeros, zeros]
    by_cases hb : b = 0
    · rw [if_pos hb, if_pos (h0 hb)]; omega
    · rw [if_neg hb]; omega
theorem RgPre.go {M : List Nat} {q a : Nat} (h : RgPre g M q) (hq : q < g.n) (hl : liveP g q) (h0 : M[q]? = some 0) (ha : a < g.K) {M' : List Nat} (hs : RgSame g (M.set q 1) M') : RgPre g M' (g.st q a) := by
  have he : Ed g q (g.st q a) := ⟨hl, a, ha, rfl⟩
  refine ⟨hs.len, hs.two, hs.done, fun x hx => ?_, h.at'.snoc he⟩
  have := (hs.one x).1 hx
  rw [List.getElem?_set] at this
  split at this
  · rename_i e
    subst e
    exact ⟨h.at', .one he⟩
  · obtain ⟨h1, h2⟩ := h.on x this
    exact ⟨h1, .snoc h2 he⟩
theorem RgSame.refl {M : List Nat} (hl : M.length = g.n) (h2 : ∀ x v : Nat, M[x]? = some v → v ≤ 2) (hd : DoneI g M) : RgSame g M M := ⟨hl, h2, fun _ h => h, fun _ => Iff.rfl, fun _ h => h, hd⟩
theorem RgSame.trans {M M' M'' : List Nat} (h : RgSame g M M') (h' : RgSame g M' M'') : RgSame g M M'' := ⟨h'.len, h'.two, fun x hx => h.zero x (h'.zero x hx), fun x => (h'.one x).trans (h.one x), fun x hx => h'.keep x (h.keep x hx), h'.done⟩
theorem RgPre.start {M : List Nat} {q : Nat} (h : RgPre g M q) (h0 : M[q]? = some 0) : RgSame g (M.set q 1) (M.set q 1) := by
  refine RgSame.refl (by simpa using h.len) (fun x v hx => ?_) ?_
  · rw [List.getElem?_set] at hx
    split at hx
    · split at hx
      · simp at hx; omega
      · simp at hx
    · exact h.two x v hx
  · obtain ⟨r, hr⟩ := h.done
    refine ⟨r, fun x hx => ?_⟩
    rw [List.getElem?_set] at hx
    split at hx
    · split at hx
      · simp at hx
      · simp at hx
    · obtain ⟨h1, h2⟩ := hr x hx
      refine ⟨h1, fun a ha hl => ?_⟩
      obtain ⟨h3, h4⟩ := h2 a ha hl
      refine ⟨?_, h4⟩
      rw [List.getElem?_set]
      split
      · rename_i e
        rw [← e, h0] at h3; simp at h3
      · exact h3
theorem RgPre.stop {M : List Nat} {q : Nat} (hg : g.Ok) (h : RgPre g M q) (hq : q < g.n) (hl : liveP g q) (h0 : M[q]? = some 0) {M' : List Nat} (hs : RgSame g (M.set q 1) M') (hd : ∀ a, a < g.K → liveP g (g.st q a) → M'[g.st q a]? = some 2) :
    RgPost g M q false (M'.set q 2) := by
  have hq1 : M'[q]? = some 1 := (hs.one q).2 (by rw [List.getElem?_set, if_pos rfl, if_pos (by rw [h.len]; exact hq)])
  have hql : q < M'.length := by rw [hs.len]; exact hq
  have hne : ∀ x : Nat, M'[x]? = some 2 → q ≠ x := fun x hx e => by rw [← e, hq1] at hx; simp at hx
  refine ⟨⟨by simpa using hs.len, fun x v hx => ?_, fun x hx => ?_, fun x => ?_, fun x hx => ?_, ?_⟩, fun _ => by rw [List.getElem?_set, if_pos rfl, if_pos hql]⟩
  · rw [List.getElem?_set] at hx
    split at hx
    · simp at hx; omega
    · exact hs.two x v hx
  · rw [List.getElem?_set] at hx
    split at hx
    · simp at hx
    · have := hs.zero x hx
      rw [List.getElem?_set] at this
      split at this
      · split at this <;> simp at this
      · exact this
  · rw [List.getElem?_set]
    split
    · rename_i e
      subst e
      rw [h0]; simp
    · rename_i e
      rw [hs.one x, List.getElem?_set, if_neg e]
  · rw [List.getElem?_set]
    split
    · rfl
    · rename_i e
      exact hs.keep x (by rw [List.getElem?_set, if_neg e]; exact hx)
  · obtain ⟨r, hr⟩ := hs.done
    refine ⟨fun x => if x = q then 1 + sumTo r g.n else r x, fun x hx => ?_⟩
    have h2 : ∀ y, M'[y]? = some 2 → (M'.set q 2)[y]? = some 2 := fun y hy => by rw [List.getElem?_set, if_neg (hne y hy)]; exact hy
    by_cases e : q = x
    · subst e
      refine ⟨hl, fun a ha hla => ?_⟩
      have h3 := hd a ha hla
      refine ⟨h2 _ h3, ?_⟩
      have h4 := hne _ h3
      simp only [if_pos, if_neg (Ne.symm h4)]
      have := sumTo_le (f := r) (hg.stay q a hq ha)
      omega
    · rw [List.getElem?_set, if_neg e] at hx
      obtain ⟨k1, k2⟩ := hr x hx
      refine ⟨k1, fun a ha hla => ?_⟩
      obtain ⟨k3, k4⟩ := k2 a ha hla
      refine ⟨h2 _ k3, ?_⟩
      simp only [if_neg (Ne.symm (hne _ k3)), if_neg (Ne.symm e)]
      exact k4
theorem RgPre.ring {M : List Nat} {q : Nat} (h : RgPre g M q) (h1 : M[q]? = some 1) : RgPost g M q true M := ⟨h.len, q, h.on q h1⟩
theorem RgPre.none {M : List Nat} {q : Nat} (h : RgPre g M q) (h1 : liveB g q = false ∨ M[q]? = some 2) : RgPost g M q false M :=
  ⟨.refl h.len h.two h.done, fun hl => by
    rcases h1 with h1 | h1
    · have := (liveB_iff g).2 hl; rw [h1] at this; simp at this
    · exact h1⟩
theorem RgPre.zero (hg : g.Ok) : RgPre g (List.replicate g.n 0) 0 := by
  have hx : ∀ x v : Nat, (List.replicate g.n 0)[x]? = some v → v = 0 := fun x v h => by
    rw [List.getElem?_replicate] at h
    split at h
    · simpa using h.symm
    · simp at h
  refine ⟨by simp, fun x v h => by rw [hx x v h]; omega, ⟨fun _ => 0, fun x h => by have := hx x _ h; omega⟩, fun x h => by have := hx x _ h; omega, .inl rfl⟩
/-- What the walk from the start tells. -/
theorem ring_fin (hg : g.Ok) {b : Bool} {M : List Nat} (h : RgPost g (List.replicate g.n 0) 0 b M) : finT g = !b := by
  cases b with
  | true =>
    obtain ⟨_, x, h1, h2⟩ := h
    have := ring_not h1 h2
    cases hf : finT g with
    | false => rfl
    | true => exact absurd ((finT_iff g).1 hf) this
  | false =>
    obtain ⟨hs, h0⟩ := h
    refine (finT_iff g).2 ?_
    obtain ⟨r, hr⟩ := hs.done
    refine ⟨r, fun x hx y hy hl => ?_⟩
    have key : ∀ x, Rch g x → liveP g x → M[x]? = some 2 := by
      intro x hx
      rcases hx with rfl | hx
      · exact h0
      · induction hx with
        | one e =>
          obtain ⟨e1, a, ha, rfl⟩ := e
          exact fun hl => ((hr _ (h0 e1)).2 a ha hl).1
        | snoc _ e ih =>
          obtain ⟨e1, a, ha, rfl⟩ := e
          exact fun hl => ((hr _ (ih e1)).2 a ha hl).1
    obtain ⟨e1, a, ha, rfl⟩ := hy
    exact ((hr x (key x hx e1)).2 a ha hl).2

/-! ### Sums -/
variable (g)
def beyN (q : Nat) : Nat := sumTo (fun k => wordsN g k q) g.n
def totN : Nat := yesN g 0 + beyN g 0
def uptoN (n : Nat) : Nat := yesN g 0 + sumTo (fun k => wordsN g k 0) (n - 1)
variable {g}
theorem words_zero {q k} (h : ¬ liveP g q) : wordsN g k q = 0 := by
  rcases Nat.eq_zero_or_pos (wordsN g k q) with e | e
  · exact e
  · exact absurd ⟨k, e⟩ h
theorem bey_dead {q} (h : ¬ liveP g q) : beyN g q = 0 := sumTo_zero fun _ _ => words_zero h
def lowC (n : Nat) (r : Nat → Nat) (q : Nat) : Nat := ((List.range n).filter fun x => decide (r x < r q)).length
theorem filter_len_le {l : List Nat} {p q : Nat → Bool} (h : ∀ x, p x = true → q x = true) : (l.filter p).length ≤ (l.filter q).length := by
  induction l with
  | nil => exact Nat.le_refl _
  | cons a l ih =>
    simp only [List.filter_cons]
    cases hp : p a with
    | true => rw [h a hp]; simpa using ih
    | false => cases q a <;> simp <;> omega
theorem filter_len_lt {l : List Nat} {p q : Nat → Bool} (h : ∀ x, p x = true → q x = true) {y : Nat} (hy : y ∈ l) (h1 : p y = false) (h2 : q y = true) : (l.filter p).length < (l.filter q).length := by
  induction l with
  | nil => simp at hy
  | cons a l ih =>
    have hle := filter_len_le (l := l) h
    simp only [List.filter_cons]
    rcases List.mem_cons.1 hy with rfl | hy
    · rw [h1, h2]; simp; omega
    · have := ih hy
      cases hp : p a with
      | true => rw [h a hp]; simpa using this
      | false => cases q a <;> simp <;> omega
theorem words_stop (hg : g.Ok) (hf : FinP g) {q k} (hq : Rch g q) (hk : g.n ≤ k) : wordsN g k q = 0 := by
  obtain ⟨r, hr⟩ := hf
  have key : ∀ k q, Rch g q → 0 < wordsN g k q → k ≤ lowC g.n r q := by
    intro k
    induction k with
    | zero => intro q _ _; omega
    | succ k ih =>
      intro q hq h
      have hl : liveP g q := ⟨_, h⟩
      obtain ⟨a, h1, h2⟩ := sumTo_pos.1 h
      have he : Ed g q (g.st q a) := ⟨hl, a, h1, rfl⟩
      have h3 := ih _ (hq.snoc he) h2
      have h4 := hr q hq _ he ⟨k, h2⟩
      have : lowC g.n r (g.st q a) < lowC g.n r q := filter_len_lt (fun x hx => by simp at hx ⊢; omega) (List.mem_range.2 ((hq.snoc he).lt hg)) (by simp) (by simpa using h4)
      omega
  rcases Nat.eq_zero_or_pos (wordsN g k q) with e | e
  · exact e
  · have h1 := key k q hq e
    have h2 : lowC g.n r q < g.n := by
      have h3 := filter_len_lt (l := List.range g.n) (p := fun x => decide (r x < r q)) (q := fun _ => true) (fun _ _ => rfl) (List.mem_range.2 (hq.lt hg)) (by simp) rfl
      have h4 := List.length_filter_le (fun _ => true) (List.range g.n)
      rw [List.length_range] at h4
      exact Nat.lt_of_lt_of_le h3 h4
    omega
theorem bey_rec (hg : g.Ok) (hf : FinP g) {q} (hq : Rch g q) : beyN g q = sumTo (fun a => endsN g (g.st q a) a + beyN g (g.st q a)) g.K := by
  have h1 : beyN g q = sumTo (fun k => wordsN g k q) (g.n + 1) := by
    rw [beyN, sumTo, words_stop hg hf hq (Nat.le_refl _)]; omega
  rw [h1, sumTo_head, sumTo_add]
  show sumTo _ _ + _ = _
  congr 1
  have := sumTo_swap (fun k a => wordsN g k (g.st q a)) g.K g.n
  exact this
theorem tot_upto (hg : g.Ok) (hf : FinP g) (n : Nat) : uptoN g n ≤ totN g := by
  have : sumTo (fun k => wordsN g k 0) (n - 1) ≤ beyN g 0 := by
    rw [beyN]
    by_cases h : n - 1 ≤ g.n
    · exact sumTo_mono h
    · rw [sumTo_stop (j := g.n) (k := n - 1) (by omega) fun a ha => words_stop hg hf (.inl rfl) ha]
      exact Nat.le_refl _
  rw [uptoN, totN]; omega
theorem tot_eq (hg : g.Ok) (hf : FinP g) {n : Nat} (h : g.n ≤ n - 1) : uptoN g n = totN g := by
  rw [uptoN, totN, beyN, sumTo_stop h fun a ha => words_stop hg hf (.inl rfl) ha]
theorem upto_mono {m n : Nat} (h : m ≤ n) : uptoN g m ≤ uptoN g n := by
  have := sumTo_mono (f := fun k => wordsN g k 0) (show m - 1 ≤ n - 1 by omega)
  rw [uptoN, uptoN]; omega
end

/-- The machine of a table. -/
def grD (d : Den) : Gr := ⟨d.accept.length, 2 ^ d.tracks.length, stepN d.rows, accN d.accept⟩
theorem grD_ok {d : Den} (hd : rightS d = true) : (grD d).Ok := by
  obtain ⟨k6, _, _, d256⟩ := tracksS_parts (rightS_parts hd).1
  have hK : 2 ^ d.tracks.length ≤ 2 ^ 6 := Nat.pow_le_pow_right (by omega) k6
  exact ⟨right_pos hd, by show d.accept.length ≤ 256; omega, by show 2 ^ d.tracks.length ≤ 64; omega, fun q a hq ha => (stepN_ok hd hq ha).2.2.2⟩

end Tab

/- chk.Add, count.sum, count.capped. -/
namespace Tab
open Go Go.Proofs
set_option maxRecDepth 10000
set_option linter.unusedVariables false
set_option linter.unusedSimpArgs false
set_option linter.unusedSectionVars false

def addE (a b : Int) : Int := if -9223372036854775808 ≤ a + b ∧ a + b < 9223372036854775808 then 0 else 10
def addV (a b : Int) : Int := if -9223372036854775808 ≤ a + b ∧ a + b < 9223372036854775808 then a + b else 0
abbrev in63 (a : Int) : Prop := -9223372036854775808 ≤ a ∧ a < 9223372036854775808
theorem add_fit {a b : Int} (h : in63 (a + b)) : addV a b = IntKind.wrap .i64 (a + b) ∧ addE a b = 0 := by
  rw [addV, addE, if_pos h, if_pos h, IntWalk.i64_in _ (by omega)]; exact ⟨rfl, rfl⟩
theorem add_bad {a b : Int} (h : ¬ in63 (a + b)) : addV a b = 0 ∧ addE a b = 10 := by
  rw [addV, addE, if_neg h, if_neg h]; exact ⟨rfl, rfl⟩
theorem add_out {a b : Int} (ha : in63 a) (hb : in63 b) (h : ¬ in63 (a + b)) : ((0 ≤ a) ↔ (0 ≤ b)) ∧ (0 ≤ IntKind.wrap .i64 (a + b) ↔ ¬ 0 ≤ a) := by
  rw [IntKind.wrap_i64]; omega
theorem add_in {a b : Int} (ha : in63 a) (hb : in63 b) (h1 : (0 ≤ a) ↔ (0 ≤ b)) (h : in63 (a + b)) : (0 ≤ IntKind.wrap .i64 (a + b) ↔ 0 ≤ a) := by
  rw [IntWalk.i64_in _ (by omega)]; omega
theorem chk_Add (a b : Int) (ha : in63 a) (hb : in63 b) :
    Pure Try.prog 95 [.int .i64 a, .int .i64 b] (.tup [.int .i64 (addV a b), .int .i64 (addE a b)]) := by
  have hin := add_in ha hb
  have hout := add_out ha hb
  have hfit := add_fit (a := a) (b := b)
  have hbad := add_bad (a := a) (b := b)
  generalize addV a b = v at *
  generalize addE a b = e at *
  refine Pure.of_sw 23 Try.func95 rfl Try.ntmps95 (by kernel_rfl) (Nat.le_of_ble_eq_true (by kernel_rfl)) (by simp [closeds, AV.closed, aSs_closed, aIs_closed, aBs_closed, aRs_closed, aDen_closed]) (by simp [AV.closed, closeds, aSs_closed, aIs_closed, aBs_closed, aRs_closed, aDen_closed]) ?_; refine SW.of_vc ?_
  by_cases h1 : (0 ≤ a) ↔ (0 ≤ b)
  · repeat first | refine opsStep ?_ | refine codeStep ?_ | refine drawStep ?_
    refine decB_true (b := (decide (a ≥ 0) == decide (b ≥ 0))) (by rw [beq_iff_eq]; exact decide_eq_decide.2 h1) ?_
    by_cases h2 : in63 (a + b)
    · have h3 := hin h1 h2
      obtain ⟨rfl, rfl⟩ := hfit h2
      repeat first | refine opsStep ?_ | refine codeStep ?_ | refine drawStep ?_
      refine decB_false (b := !(decide (IntKind.wrap .i64 (a + b) ≥ 0) == decide (a ≥ 0))) (by by_cases h4 : 0 ≤ a <;> simp [h3, h4]) ?_
      repeat first | refine opsStep ?_ | refine codeStep ?_ | refine drawStep ?_
      exact finV (v' := .tup [.int .i64 (IntKind.wrap .i64 (a + b)), .int .i64 0]) (by kernel_rfl) rfl
    · have h3 := (hout h2).2
      obtain ⟨rfl, rfl⟩ := hbad h2
      repeat first | refine opsStep ?_ | refine codeStep ?_ | refine drawStep ?_
      refine decB_true (b := !(decide (IntKind.wrap .i64 (a + b) ≥ 0) == decide (a ≥ 0))) (by by_cases h4 : 0 ≤ a <;> simp [h3, h4]) ?_
      repeat first | refine opsStep ?_ | refine codeStep ?_ | refine drawStep ?_
      exact finV (v' := .tup [.int .i64 0, .int .i64 10]) (by kernel_rfl) rfl
  · have h2 : in63 (a + b) := by
      refine Decidable.byContradiction fun h => h1 (hout h).1
    obtain ⟨rfl, rfl⟩ := hfit h2
    repeat first | refine opsStep ?_ | refine codeStep ?_ | refine drawStep ?_
    refine decB_false (b := (decide (a ≥ 0) == decide (b ≥ 0))) (by rw [beq_eq_false_iff_ne]; exact fun h => h1 (decide_eq_decide.1 h)) ?_
    repeat first | refine opsStep ?_ | refine codeStep ?_ | refine drawStep ?_
    exact finV (v' := .tup [.int .i64 (IntKind.wrap .i64 (a + b)), .int .i64 0]) (by kernel_rfl) rfl

/-- A number of 63 bits, or -1 where it is wider. -/
def capV (n : Nat) : Int := if n < 9223372036854775808 then n else -1
theorem capV_in (n) : in63 (capV n) := by rw [capV]; split <;> omega
theorem capV_fit {n : Nat} (h : n < 9223372036854775808) : capV n = n := if_pos h
theorem capV_wide {n : Nat} (h : ¬ n < 9223372036854775808) : capV n = -1 := if_neg h
theorem count_capped (m n : Nat) : Pure Try.prog 54 [.int .i64 (capV m), .int .i64 (capV n)] (.int .i64 (capV (m + n))) := by
  have had := chk_Add (capV m) (capV n) (capV_in m) (capV_in n)
  by_cases h1 : m < 9223372036854775808
  · by_cases h2 : n < 9223372036854775808
    · rw [capV_fit h1, capV_fit h2] at had
      rw [capV_fit h1, capV_fit h2]
      by_cases h3 : m + n < 9223372036854775808
      · rw [(add_fit (show in63 ((m : Int) + n) by omega)).1, (add_fit (show in63 ((m : Int) + n) by omega)).2, IntWalk.i64_in _ (by omega)] at had
        rw [capV_fit h3]
        refine Pure.of_sw 24 Try.func54 rfl Try.ntmps54 (by kernel_rfl) (Nat.le_of_ble_eq_true (by kernel_rfl)) (by simp [closeds, AV.closed, aSs_closed, aIs_closed, aBs_closed, aRs_closed, aDen_closed]) (by simp [AV.closed, closeds, aSs_closed, aIs_closed, aBs_closed, aRs_closed, aDen_closed]) ?_; refine SW.of_vc ?_
        repeat first | refine opsStep ?_ | refine codeStep ?_ | refine drawStep ?_
        refine callP had ?_
        repeat first | refine opsStep ?_ | refine codeStep ?_ | refine drawStep ?_
        exact finV (v' := .int .i64 ((m : Int) + n)) (by kernel_rfl) (by rw [Int.natCast_add])
      · rw [(add_bad (show ¬ in63 ((m : Int) + n) by omega)).1, (add_bad (show ¬ in63 ((m : Int) + n) by omega)).2] at had
        rw [capV_wide h3]
        refine Pure.of_sw 24 Try.func54 rfl Try.ntmps54 (by kernel_rfl) (Nat.le_of_ble_eq_true (by kernel_rfl)) (by simp [closeds, AV.closed, aSs_closed, aIs_closed, aBs_closed, aRs_closed, aDen_closed]) (by simp [AV.closed, closeds, aSs_closed, aIs_closed, aBs_closed, aRs_closed, aDen_closed]) ?_; refine SW.of_vc ?_
        repeat first | refine opsStep ?_ | refine codeStep ?_ | refine drawStep ?_
        refine callP had ?_
        repeat first | refine opsStep ?_ | refine codeStep ?_ | refine drawStep ?_
        exact finV (v' := .int .i64 (-1)) (by kernel_rfl) rfl
    · rw [capV_fit h1, capV_wide h2] at had
      rw [capV_fit h1, capV_wide h2, capV_wide (n := m + n) (by omega)]
      generalize addV m (-1) = v at *
      generalize addE m (-1) = e at *
      refine Pure.of_sw 24 Try.func54 rfl Try.ntmps54 (by kernel_rfl) (Nat.le_of_ble_eq_true (by kernel_rfl)) (by simp [closeds, AV.closed, aSs_closed, aIs_closed, aBs_closed, aRs_closed, aDen_closed]) (by simp [AV.closed, closeds, aSs_closed, aIs_closed, aBs_closed, aRs_closed, aDen_closed]) ?_; refine SW.of_vc ?_
      repeat first | refine opsStep ?_ | refine codeStep ?_ | refine drawStep ?_
      refine callP had ?_
      repeat first | refine opsStep ?_ | refine codeStep ?_ | refine drawStep ?_
      exact finV (v' := .int .i64 (-1)) (by kernel_rfl) rfl
  · rw [capV_wide h1] at had
    rw [capV_wide h1, capV_wide (n := m + n) (by omega)]
    generalize addV (-1) (capV n) = v at *
    generalize addE (-1) (capV n) = e at *
    generalize capV n = c at *
    refine Pure.of_sw 24 Try.func54 rfl Try.ntmps54 (by kernel_rfl) (Nat.le_of_ble_eq_true (by kernel_rfl)) (by simp [closeds, AV.closed, aSs_closed, aIs_closed, aBs_closed, aRs_closed, aDen_closed]) (by simp [AV.closed, closeds, aSs_closed, aIs_closed, aBs_closed, aRs_closed, aDen_closed]) ?_; refine SW.of_vc ?_
    repeat first | refine opsStep ?_ | refine codeStep ?_ | refine drawStep ?_
    refine callP had ?_
    repeat first | refine opsStep ?_ | refine codeStep ?_ | refine drawStep ?_
    exact finV (v' := .int .i64 (-1)) (by kernel_rfl) rfl

theorem count_sum (m n : Nat) (h : m + n < 9223372036854775808) : Pure Try.prog 84 [.int .i64 (m : Nat), .int .i64 (n : Nat)] (.int .i64 (m + n : Nat)) := by
  have had := chk_Add (m : Nat) (n : Nat) ⟨by omega, by omega⟩ ⟨by omega, by omega⟩
  rw [(add_fit (show in63 ((m : Int) + n) by omega)).1, (add_fit (show in63 ((m : Int) + n) by omega)).2, IntWalk.i64_in _ (by omega), ← Int.natCast_add] at had
  generalize m + n = s at *
  refine Pure.of_sw 18 Try.func84 rfl Try.ntmps84 (by kernel_rfl) (Nat.le_of_ble_eq_true (by kernel_rfl)) (by simp [closeds, AV.closed, aSs_closed, aIs_closed, aBs_closed, aRs_closed, aDen_closed]) (by simp [AV.closed, closeds, aSs_closed, aIs_closed, aBs_closed, aRs_closed, aDen_closed]) ?_; refine SW.of_vc ?_
  repeat first | refine opsStep ?_ | refine codeStep ?_ | refine drawStep ?_
  refine callP had ?_
  repeat first | refine opsStep ?_ | refine codeStep ?_ | refine drawStep ?_
  exact finV (v' := .int .i64 (s : Nat)) (by kernel_rfl) rfl
theorem count_sumPan (m n : Nat) (hm : m < 9223372036854775808) (hn : n < 9223372036854775808) (h : ¬ m + n < 9223372036854775808) (H : List Blk) :
    ACall Try.prog 84 [.int .i64 (m : Nat), .int .i64 (n : Nat)] H (fun o H' => o = .pan ∧ H' = H) := by
  have had := chk_Add (m : Nat) (n : Nat) ⟨by omega, by omega⟩ ⟨by omega, by omega⟩
  rw [(add_bad (show ¬ in63 ((m : Int) + n) by omega)).1, (add_bad (show ¬ in63 ((m : Int) + n) by omega)).2] at had
  refine ACall.of_sw 18 Try.func84 rfl Try.ntmps84 (by kernel_rfl) (Nat.le_of_ble_eq_true (by kernel_rfl)) ?_; refine SW.of_vc ?_
  repeat first | refine opsStep ?_ | refine codeStep ?_ | refine drawStep ?_
  refine callP had ?_
  repeat first | refine opsStep ?_ | refine codeStep ?_ | refine drawStep ?_
  exact ⟨_, _, Ent.refl _ _ _, rfl, rfl⟩

end Tab

/- count: ends, made, spread. -/
namespace Tab
open Go Go.Proofs
set_option maxRecDepth 10000
set_option linter.unusedVariables false
set_option linter.unusedSimpArgs false
set_option linter.unusedSectionVars false

theorem gr_row {d : Den} (hd : rightS d = true) {q : Nat} (hq : q < (grD d).n) : ∃ r, d.next[q]? = some r ∧ q < d.next.length ∧ r.2.length = (grD d).K ∧ ∀ a, a < (grD d).K → r.2[a]? = some ((grD d).st q a : Int) ∧ (grD d).st q a < (grD d).n := by
  obtain ⟨s1, _⟩ := stepN_ok hd hq (show 0 < 2 ^ d.tracks.length from Nat.two_pow_pos _)
  refine ⟨_, List.getElem?_eq_getElem s1, s1, (rowOk_parts ((rightS_parts hd).2.2 _ (List.getElem_mem s1))).1, fun a ha => ?_⟩
  obtain ⟨_, a1, a2, a3⟩ := stepN_ok hd hq ha
  exact ⟨by rw [List.getElem?_eq_getElem a1, a2]; rfl, a3⟩
theorem gr_acc {d : Den} {c : Nat} (h : c < (grD d).n) : d.accept[c]? = some ((grD d).ac c) := by
  show _ = some (accN d.accept c)
  rw [accN, List.getD_eq_getElem?_getD, List.getElem?_eq_getElem h]; rfl
def yL (g : Gr) (k : Nat) : List AV := (List.range k).map fun q => .int .i64 (yesN g q : Nat)
theorem yL_length (g k) : (yL g k).length = k := by simp [yL]
theorem yL_get {g : Gr} {k q : Nat} (h : q < k) : (yL g k)[q]? = some (.int .i64 (yesN g q : Nat)) := by simp [yL, h]
theorem yL_snoc (g k) : yL g (k + 1) = yL g k ++ [.int .i64 (yesN g k : Nat)] := by simp [yL, List.range_succ]
theorem yL_bel (m g k) : bels m (yL g k) := by rw [yL, bels_map]; intro x _; trivial
theorem yL_closed (g k) : closeds (yL g k) := by
  rw [closeds_iff]; intro a ha; obtain ⟨r, _, rfl⟩ := List.mem_map.1 ha; trivial
/-- The counter's cells. -/
def cnC (d : Den) (lv kn : AV) : Blk := .cells 0 (d.cells ++ [.sl .any (grD d).n (yL (grD d) (grD d).n), lv, kn])

theorem count_ends (d : Den) (hd : rightS d = true) (q a : Nat) (hq : q < (grD d).n) (ha : a < (grD d).K) (lv kn : AV) (X : List Blk) :
    ACall Try.prog 53 [.ref 0 0 0, .int .i64 (q : Nat), .int .i64 (a : Nat)] (cnC d lv kn :: X) (fun o H' => o = .ret (.int .i64 (endsN (grD d) q a : Nat)) ∧ H' = cnC d lv kn :: X) := by
  obtain ⟨r, g1, g2, g3, g4⟩ := gr_row hd hq
  obtain ⟨h1, h2⟩ := g4 a ha
  have h3 := gr_acc h2
  have h4 := (List.getElem?_eq_some_iff.1 h3).1
  have hy := yL_get (g := grD d) hq
  have hyl := yL_length (grD d) (grD d).n
  have hyk : yesN (grD d) q ≤ 64 := Nat.le_trans (yesTo_le _ _ _) (grD_ok hd).let'
  have hyp := yes_pos (grD d) (q := q) ha
  rw [endsN, cnC]
  generalize yesN (grD d) q = y at *
  generalize yL (grD d) (grD d).n = Y at *
  generalize hs : (grD d).st q a = c at *
  have hal : a < r.2.length := by omega
  refine ACall.of_sw 40 Try.func53 rfl Try.ntmps53 (by kernel_rfl) (Nat.le_of_ble_eq_true (by kernel_rfl)) ?_; refine SW.of_vc ?_
  repeat first | refine opsStep ?_ | refine codeStep ?_ | refine drawStep ?_
  refine SW.drawn rfl (by kernel_rfl) ?_
  repeat first | refine opsStep ?_ | refine codeStep ?_ | refine drawStep ?_
  refine guardE_of (by simp; omega) ?_
  repeat first | refine opsStep ?_ | refine codeStep ?_ | refine drawStep ?_
  refine optE_of (c := aIs r.1 r.2) (by simp [Value.cells, g1]) ?_
  repeat first | refine opsStep ?_ | refine codeStep ?_ | refine drawStep ?_
  refine guardE_of (by simp; omega) ?_
  repeat first | refine opsStep ?_ | refine codeStep ?_ | refine drawStep ?_
  refine optE_of (c := .int .i64 (c : Nat)) (by simp [Value.cells, h1]) ?_
  repeat first | refine opsStep ?_ | refine codeStep ?_ | refine drawStep ?_
  refine guardE_of (by simp; omega) ?_
  repeat first | refine opsStep ?_ | refine codeStep ?_ | refine drawStep ?_
  refine optE_of (c := .bool ((grD d).ac c)) (by simp [Value.cells, h3]) ?_
  repeat first | refine opsStep ?_ | refine codeStep ?_ | refine drawStep ?_
  refine ⟨by kernel_rfl, ?_⟩
  cases hc : (grD d).ac c with
  | true =>
    have hyp := hyp hc
    repeat first | refine opsStep ?_ | refine codeStep ?_ | refine drawStep ?_
    refine guardE_of (by simp; omega) ?_
    repeat first | refine opsStep ?_ | refine codeStep ?_ | refine drawStep ?_
    refine optE_of (c := .int .i64 (y : Nat)) (by simpa [Value.cells] using hy) ?_
    repeat first | refine opsStep ?_ | refine codeStep ?_ | refine drawStep ?_
    exact finR (l := [(6, .int .i64 (IntKind.wrap .i64 ((y : Int) - 1)))]) (v := .int .i64 (y - 1 : Nat)) ⟨(by kernel_rfl), trivial⟩ (by kernel_rfl) (Ent.refl _ _ _) (Eq.trans (b := some (.int .i64 (IntKind.wrap .i64 ((y : Int) - 1)))) (by kernel_rfl) (by rw [dec_slot (i := y) hyp (by omega)])) ⟨by rw [if_pos rfl], rfl⟩
  | false =>
    repeat first | refine opsStep ?_ | refine codeStep ?_ | refine drawStep ?_
    refine guardE_of (by simp; omega) ?_
    repeat first | refine opsStep ?_ | refine codeStep ?_ | refine drawStep ?_
    refine optE_of (c := .int .i64 (y : Nat)) (by simpa [Value.cells] using hy) ?_
    repeat first | refine opsStep ?_ | refine codeStep ?_ | refine drawStep ?_
    exact finR (l := [(6, .int .i64 (y : Nat))]) (v := .int .i64 (y : Nat)) ⟨(by kernel_rfl), trivial⟩ (by kernel_rfl) (Ent.refl _ _ _) (by kernel_rfl) ⟨by rw [if_neg (by simp)], rfl⟩

end Tab

/- tabardref19.Ends; tabardref20.First. -/
namespace Tab
open Go Go.Proofs
set_option maxRecDepth 10000
set_option linter.unusedVariables false
set_option linter.unusedSimpArgs false
set_option linter.unusedSectionVars false

def cntE (g : Gr) (last : Int) (q k : Nat) : Nat := ((List.range k).filter fun (a : Nat) => decide ((a : Int) ≠ last) && g.ac (g.st q a)).length
theorem cntE_succ (g : Gr) (last : Int) (q k : Nat) : cntE g last q (k + 1) = cntE g last q k + (if (decide ((k : Int) ≠ last) && g.ac (g.st q k)) = true then 1 else 0) := by
  rw [cntE, List.range_succ, List.filter_append, List.length_append]
  cases h : decide ((k : Int) ≠ last) && g.ac (g.st q k) with
  | true => rw [List.filter_cons, if_pos h]; simp [cntE]
  | false => rw [List.filter_cons, if_neg (by rw [h]; simp)]; simp [cntE]
theorem cntE_le (g : Gr) (last q k) : cntE g last q k ≤ k := by
  rw [cntE]; exact Nat.le_trans (List.length_filter_le _ _) (by simp)
theorem cntE_none (g : Gr) (q : Nat) : cntE g (-1) q g.K = yesN g q := by
  rw [cntE, yesN, yesTo]
  have : (fun a : Nat => decide ((a : Int) ≠ -1) && g.ac (g.st q a)) = fun a => g.ac (g.st q a) := by
    funext a
    rw [decide_eq_true (by omega), Bool.true_and]
  rw [this]
theorem cntE_some (g : Gr) (q a : Nat) (ha : a < g.K) : cntE g (a : Int) q g.K = endsN g q a := by
  have key : ∀ k, cntE g (a : Int) q k + (if a < k ∧ g.ac (g.st q a) = true then 1 else 0) = yesTo g q k := by
    intro k
    induction k with
    | zero => simp [cntE, yesTo]
    | succ k ih =>
      rw [cntE_succ, yesTo_succ, ← ih]
      by_cases e : k = a
      · subst e
        rw [decide_eq_false (fun h => h rfl), Bool.false_and, if_neg (by simp), if_neg (show ¬ (k < k ∧ _) by omega)]
        by_cases h : g.ac (g.st q k) = true
        · rw [if_pos ⟨Nat.lt_succ_self _, h⟩, if_pos h]
        · rw [if_neg (fun hh => h hh.2), if_neg h]
      · rw [decide_eq_true (by omega), Bool.true_and]
        have : (a < k + 1 ∧ g.ac (g.st q a) = true) ↔ (a < k ∧ g.ac (g.st q a) = true) := by exact ⟨fun h => ⟨by have := h.1; omega, h.2⟩, fun h => ⟨by have := h.1; omega, h.2⟩⟩
        simp only [this]; omega
  have h := key g.K
  rw [endsN, show yesN g q = yesTo g q g.K from rfl, ← h]
  by_cases hh : g.ac (g.st q a) = true
  · rw [if_pos hh, if_pos ⟨ha, hh⟩]; omega
  · rw [if_neg hh, if_neg (fun x => hh x.2)]; omega

theorem r19_Ends (d : Den) (hd : rightS d = true) (q : Nat) (hq : q < (grD d).n) (last : Int) : Pure Try.prog 39 [aDen d, .int .i64 (q : Nat), .int .i64 last] (.int .i64 (cntE (grD d) last q (grD d).K : Nat)) := by
  obtain ⟨r, g1, g2, g3, g4⟩ := gr_row hd hq
  have hacc := fun c hc => gr_acc (d := d) (c := c) hc
  have hlet := (grD_ok hd).let'
  have hnn : (grD d).n = d.accept.length := rfl
  refine Pure.of_sw 39 Try.func39 rfl Try.ntmps39 (by kernel_rfl) (Nat.le_of_ble_eq_true (by kernel_rfl)) (by simp [closeds, AV.closed, aSs_closed, aIs_closed, aBs_closed, aRs_closed, aDen_closed]) (by simp [AV.closed, closeds, aSs_closed, aIs_closed, aBs_closed, aRs_closed, aDen_closed]) ?_; refine SW.of_vc ?_
  repeat first | refine opsStep ?_ | refine codeStep ?_ | refine drawStep ?_
  refine loopE_of (ι := {a : Nat // a ≤ (grD d).K}) (fun a => (fr [(1, .int .i64 (q : Nat)), (2, .int .i64 last), (3, .ref 0 0 0), (7, .int .i64 (cntE (grD d) last q a.1 : Nat)), (8, .int .i64 (a.1 : Nat))], [.cells 0 d.cells])) (fun a => (grD d).K - a.1) ⟨0, Nat.zero_le _⟩ (Ent.fr' ⟨(by kernel_rfl), (by kernel_rfl), (by kernel_rfl), (by kernel_rfl), (by kernel_rfl), trivial⟩ (by kernel_rfl)) ?_
  rintro ⟨a, ha⟩
  have hcs := cntE_succ (grD d) last q a
  have hcl := cntE_le (grD d) last q a
  repeat first | refine opsStep ?_ | refine codeStep ?_ | refine drawStep ?_
  refine guardE_of (by simp; omega) ?_
  repeat first | refine opsStep ?_ | refine codeStep ?_ | refine drawStep ?_
  refine optE_of (c := aIs r.1 r.2) (by simp [Value.cells, g1]) ?_
  repeat first | refine opsStep ?_ | refine codeStep ?_ | refine drawStep ?_
  refine decB_dec (fun hac => ?_) (fun hac => ?_)
  · have hal : a < (grD d).K := by have h : ((a : Nat) : Int) < ((r.2.length : Nat) : Int) := hac; omega
    obtain ⟨g5, g6⟩ := g4 a hal
    have g7 := hacc _ g6
    have har : a < r.2.length := by omega
    generalize (grD d).st q a = c at *
    generalize cntE (grD d) last q a = m at *
    by_cases hl : (a : Int) ≠ last
    · rw [decide_eq_true hl, Bool.true_and] at hcs
      repeat first | refine opsStep ?_ | refine codeStep ?_ | refine drawStep ?_
      refine SW.drawn rfl (by kernel_rfl) ?_
      repeat first | refine opsStep ?_ | refine codeStep ?_ | refine drawStep ?_
      refine decB_true (b := decide (((a : Nat) : Int) ≠ last)) (decide_eq_true hl) ?_
      repeat first | refine opsStep ?_ | refine codeStep ?_ | refine drawStep ?_
      refine guardE_of (by simp; omega) ?_
      repeat first | refine opsStep ?_ | refine codeStep ?_ | refine drawStep ?_
      refine optE_of (c := aIs r.1 r.2) (by simp [Value.cells, g1]) ?_
      repeat first | refine opsStep ?_ | refine codeStep ?_ | refine drawStep ?_
      refine guardE_of (by simp; omega) ?_
      repeat first | refine opsStep ?_ | refine codeStep ?_ | refine drawStep ?_
      refine optE_of (c := .int .i64 (c : Nat)) (by simp [Value.cells, g5]) ?_
      repeat first | refine opsStep ?_ | refine codeStep ?_ | refine drawStep ?_
      refine guardE_of (by simp; omega) ?_
      repeat first | refine opsStep ?_ | refine codeStep ?_ | refine drawStep ?_
      refine optE_of (c := .bool ((grD d).ac c)) (by simp [Value.cells, g7]) ?_
      repeat first | refine opsStep ?_ | refine codeStep ?_ | refine drawStep ?_
      refine ⟨by kernel_rfl, ?_⟩
      cases hb : (grD d).ac c with
      | true =>
        rw [hb, if_pos rfl] at hcs
        repeat first | refine opsStep ?_ | refine codeStep ?_ | refine drawStep ?_
        refine ⟨⟨a + 1, hal⟩, (by show (grD d).K - (a + 1) < (grD d).K - a; omega), Ent.fr' ⟨(by kernel_rfl), (by kernel_rfl), (by kernel_rfl), (Eq.trans (b := .int .i64 (IntKind.wrap .i64 ((m : Int) + 1))) (by kernel_rfl) (by rw [inc_slot (i := m) (by omega), hcs])), inc_slot (i := a) (by omega), trivial⟩ (by kernel_rfl)⟩
      | false =>
        rw [hb, if_neg (by simp)] at hcs
        repeat first | refine opsStep ?_ | refine codeStep ?_ | refine drawStep ?_
        refine ⟨⟨a + 1, hal⟩, (by show (grD d).K - (a + 1) < (grD d).K - a; omega), Ent.fr' ⟨(by kernel_rfl), (by kernel_rfl), (by kernel_rfl), (Eq.trans (b := .int .i64 (m : Nat)) (by kernel_rfl) (by rw [hcs]; simp)), inc_slot (i := a) (by omega), trivial⟩ (by kernel_rfl)⟩
    · rw [decide_eq_false hl, Bool.false_and, if_neg (by simp)] at hcs
      repeat first | refine opsStep ?_ | refine codeStep ?_ | refine drawStep ?_
      refine SW.drawn rfl (by kernel_rfl) ?_
      repeat first | refine opsStep ?_ | refine codeStep ?_ | refine drawStep ?_
      refine decB_false (b := decide (((a : Nat) : Int) ≠ last)) (decide_eq_false hl) ?_
      repeat first | refine opsStep ?_ | refine codeStep ?_ | refine drawStep ?_
      refine ⟨by kernel_rfl, ?_⟩
      repeat first | refine opsStep ?_ | refine codeStep ?_ | refine drawStep ?_
      refine ⟨⟨a + 1, hal⟩, (by show (grD d).K - (a + 1) < (grD d).K - a; omega), Ent.fr' ⟨(by kernel_rfl), (by kernel_rfl), (by kernel_rfl), (Eq.trans (b := .int .i64 (m : Nat)) (by kernel_rfl) (by rw [hcs]; simp)), inc_slot (i := a) (by omega), trivial⟩ (by kernel_rfl)⟩
  · have hae : a = (grD d).K := by have h : ¬ ((a : Nat) : Int) < ((r.2.length : Nat) : Int) := hac; omega
    subst hae
    repeat first | refine opsStep ?_ | refine codeStep ?_ | refine drawStep ?_
    exact finV (v' := .int .i64 (cntE (grD d) last q (grD d).K : Nat)) (by kernel_rfl) rfl

/-- A list of wide numbers. -/
def wL (f : Nat → Nat) (n : Nat) : List AV := (List.range n).flatMap fun q => [.bool false, wS (digs (f q))]
theorem wL_succ (f n) : wL f (n + 1) = wL f n ++ [.bool false, wS (digs (f n))] := by simp [wL, List.range_succ]
theorem wL_length (f : Nat → Nat) : ∀ n, (wL f n).length = n * 2
  | 0 => rfl
  | n + 1 => by rw [wL_succ, List.length_append, wL_length f n]; simp; omega
theorem wL_get (f : Nat → Nat) : ∀ {n q}, q < n → ((wL f n).drop (q * 2)).take 2 = [.bool false, wS (digs (f q))]
  | 0, q, h => by omega
  | n + 1, q, h => by
    have hl := wL_length f n
    rw [wL_succ]
    by_cases e : q = n
    · subst e
      rw [List.drop_append_of_le_length (by omega), List.drop_of_length_le (by omega)]; rfl
    · rw [List.drop_append_of_le_length (by omega), List.take_append_of_le_length (by rw [List.length_drop]; omega), wL_get f (by omega)]
theorem wL_closed (f : Nat → Nat) (n : Nat) : closeds (wL f n) := by
  induction n with
  | zero => trivial
  | succ n ih =>
    rw [wL_succ]
    refine closeds_iff.2 fun a ha => ?_
    rcases List.mem_append.1 ha with h | h
    · exact closeds_iff.1 ih a h
    · simp only [List.mem_cons, List.not_mem_nil, or_false] at h
      rcases h with rfl | rfl
      · simp only [AV.closed]
      · exact wS_closed _
theorem wL_bel (m f n) : bels m (wL f n) := bels_iff.2 fun a ha => AV.closed_bel _ (closeds_iff.1 (wL_closed f n) a ha)

end Tab

/- tabardref20: First, Next. -/
namespace Tab
open Go Go.Proofs
set_option maxRecDepth 10000
set_option linter.unusedVariables false
set_option linter.unusedSimpArgs false
set_option linter.unusedSectionVars false

theorem words_bound (g : Gr) (hg : g.Ok) : ∀ (k q : Nat), wordsN g k q < 65536 ^ (k + 1) := by
  have hsum : ∀ (f : Nat → Nat) (M : Nat), (∀ a, f a ≤ M) → ∀ k, sumTo f k ≤ k * M := by
    intro f M h k
    induction k with
    | zero => simp [sumTo]
    | succ k ih => rw [sumTo, Nat.add_mul]; have := h k; omega
  have hK := hg.let'
  intro k
  induction k with
  | zero =>
    intro q
    have h1 := hsum (fun a => endsN g (g.st q a) a) 64 (fun a => Nat.le_trans (endsN_le _ _ _) (Nat.le_trans (yesTo_le _ _ _) hK)) g.K
    have h2 : g.K * 64 ≤ 64 * 64 := Nat.mul_le_mul_right _ hK
    show sumTo _ _ < _
    have : (65536 : Nat) ^ (0 + 1) = 65536 := rfl
    omega
  | succ k ih =>
    intro q
    have h1 := hsum (fun a => wordsN g k (g.st q a)) (65536 ^ (k + 1)) (fun a => Nat.le_of_lt (ih _)) g.K
    have h2 : g.K * 65536 ^ (k + 1) ≤ 64 * 65536 ^ (k + 1) := Nat.mul_le_mul_right _ hK
    show sumTo _ _ < _
    have h3 : (65536 : Nat) ^ (k + 1 + 1) = 65536 ^ (k + 1) * 65536 := Nat.pow_succ ..
    have h4 : 0 < 65536 ^ (k + 1) := Nat.pow_pos (by decide)
    omega
theorem upto_bound (g : Gr) (hg : g.Ok) (m : Nat) : yesN g 0 + sumTo (fun k => wordsN g k 0) m < 65536 ^ (m + 1) := by
  have hK := hg.let'
  have hy : yesN g 0 ≤ g.K := yesTo_le _ _ _
  induction m with
  | zero => show yesN g 0 + 0 < 65536; omega
  | succ m ih =>
    have h1 := words_bound g hg m 0
    rw [sumTo]
    have h3 : (65536 : Nat) ^ (m + 1 + 1) = 65536 ^ (m + 1) * 65536 := Nat.pow_succ ..
    omega

set_option maxHeartbeats 1000000 in
theorem r20_First (d : Den) (hd : rightS d = true) : Pure Try.prog 40 [aDen d] (.sl .any (grD d).n (wL (wordsN (grD d) 0) (grD d).n)) := by
  have hrow := fun q hq => gr_row hd (q := q) hq
  have hends := fun q hq last => r19_Ends d hd q hq last
  have hgo := grD_ok hd
  have hlet := hgo.let'
  have hbig := hgo.big
  have hnl : d.next.length = (grD d).n := (rightS_parts hd).2.1
  have hwl := wL_length (wordsN (grD d) 0)
  have hwc := wL_closed (wordsN (grD d) 0) (grD d).n
  refine Pure.of_sw 43 Try.func40 rfl Try.ntmps40 (by kernel_rfl) (Nat.le_of_ble_eq_true (by kernel_rfl)) (by simp [closeds, aDen_closed]) (by simpa [AV.closed] using hwc) ?_; refine SW.of_vc ?_
  repeat first | refine opsStep ?_ | refine codeStep ?_ | refine drawStep ?_
  refine loopE_of (ι := {q : Nat // q ≤ (grD d).n}) (fun q => (fr [(1, .ref 0 0 0), (3, .hs 1 (q.1) 0 (q.1) 2), (4, .int .i64 (q.1 : Nat))], [.cells 0 d.cells, .cells q.1 (wL (wordsN (grD d) 0) q.1)])) (fun q => (grD d).n - q.1) ⟨0, Nat.zero_le _⟩
    (((Ent.fr' (l := [(1, .ref 0 0 0), (3, .sl .nil 0 []), (4, .int .i64 (0 : Nat))]) (H' := [.cells 0 d.cells]) ⟨(by kernel_rfl), (by kernel_rfl), (by kernel_rfl), trivial⟩ (by kernel_rfl)).trans (Ent.nil 3 2 rfl)).trans (Ent.fr' ⟨(by kernel_rfl), (by kernel_rfl), (by kernel_rfl), trivial⟩ (by kernel_rfl))) ?_
  rintro ⟨q, hq⟩
  repeat first | refine opsStep ?_ | refine codeStep ?_ | refine drawStep ?_
  refine decB_dec (fun hqc => ?_) (fun hqc => ?_)
  · have hql : q < (grD d).n := by have h : ((q : Nat) : Int) < ((d.next.length : Nat) : Int) := hqc; omega
    obtain ⟨r, g1, g2, g3, g4⟩ := hrow q hql
    have hw0 : wordsN (grD d) 0 q = sumTo (fun a => endsN (grD d) ((grD d).st q a) a) (grD d).K := rfl
    obtain ⟨f, hf⟩ : ∃ f, (fun a => endsN (grD d) ((grD d).st q a) a) = f := ⟨_, rfl⟩
    have hfa : ∀ a, f a = endsN (grD d) ((grD d).st q a) a := fun a => by rw [← hf]
    have hfb : ∀ a, f a ≤ 64 := fun a => by rw [hfa]; exact Nat.le_trans (endsN_le _ _ _) (Nat.le_trans (yesTo_le _ _ _) hlet)
    have hsb : ∀ a, sumTo f a ≤ a * 64 := fun a => by
      induction a with
      | zero => simp [sumTo]
      | succ a ih => rw [sumTo]; have := hfb a; omega
    rw [hf] at hw0
    repeat first | refine opsStep ?_ | refine codeStep ?_ | refine drawStep ?_
    refine loopE_of (ι := {a : Nat // a ≤ (grD d).K}) (fun a => (fr [(1, .ref 0 0 0), (3, .hs 1 (q) 0 (q) 2), (4, .int .i64 (q : Nat)), (5, .int .i64 (sumTo f a.1 : Nat)), (6, .int .i64 (a.1 : Nat))], [.cells 0 d.cells, .cells q (wL (wordsN (grD d) 0) q)])) (fun a => (grD d).K - a.1) ⟨0, Nat.zero_le _⟩ (Ent.fr' ⟨(by kernel_rfl), (by kernel_rfl), (by kernel_rfl), (by kernel_rfl), (by kernel_rfl), trivial⟩ (by kernel_rfl)) ?_
    rintro ⟨a, ha⟩
    have hsa := hsb a
    repeat first | refine opsStep ?_ | refine codeStep ?_ | refine drawStep ?_
    refine guardE_of (by simp; omega) ?_
    repeat first | refine opsStep ?_ | refine codeStep ?_ | refine drawStep ?_
    refine optE_of (c := aIs r.1 r.2) (by simp [Value.cells, g1]) ?_
    repeat first | refine opsStep ?_ | refine codeStep ?_ | refine drawStep ?_
    refine decB_dec (fun hac => ?_) (fun hac => ?_)
    · have hal : a < (grD d).K := by have h : ((a : Nat) : Int) < ((r.2.length : Nat) : Int) := hac; omega
      obtain ⟨g5, g6⟩ := g4 a hal
      have har : a < r.2.length := by omega
      have hen := hends _ g6 (a : Int)
      rw [cntE_some _ _ _ hal, ← hfa] at hen
      have hfb := hfb a
      have hs1 : sumTo f (a + 1) = sumTo f a + f a := rfl
      obtain ⟨s, hs⟩ : ∃ s, sumTo f a = s := ⟨_, rfl⟩
      rw [hs] at hsa hs1
      generalize (grD d).st q a = to at g5 g6 hen
      generalize f a = e at *
      refine VCode.ent (Ent.fr' (l := [(1, .ref 0 0 0), (3, .hs 1 (q) 0 (q) 2), (4, .int .i64 (q : Nat)), (5, .int .i64 (s : Nat)), (6, .int .i64 (a : Nat))]) (H' := [.cells 0 d.cells, .cells q (wL (wordsN (grD d) 0) q)]) ⟨(by kernel_rfl), (by kernel_rfl), (by kernel_rfl), (Eq.trans (b := .int .i64 (sumTo f a : Nat)) (by kernel_rfl) (by rw [hs])), (by kernel_rfl), trivial⟩ (by kernel_rfl)) ?_
      repeat first | refine opsStep ?_ | refine codeStep ?_ | refine drawStep ?_
      refine SW.drawn rfl (by kernel_rfl) ?_
      repeat first | refine opsStep ?_ | refine codeStep ?_ | refine drawStep ?_
      refine guardE_of (by simp; omega) ?_
      repeat first | refine opsStep ?_ | refine codeStep ?_ | refine drawStep ?_
      refine optE_of (c := aIs r.1 r.2) (by simp [Value.cells, g1]) ?_
      repeat first | refine opsStep ?_ | refine codeStep ?_ | refine drawStep ?_
      refine guardE_of (by simp; omega) ?_
      repeat first | refine opsStep ?_ | refine codeStep ?_ | refine drawStep ?_
      refine optE_of (c := .int .i64 (to : Nat)) (by simp [Value.cells, g5]) ?_
      repeat first | refine opsStep ?_ | refine codeStep ?_ | refine drawStep ?_
      refine .inl ⟨_, _, [], hen, RdsN_refl _, .inr rfl, none_need, ?_⟩
      repeat first | refine opsStep ?_ | refine codeStep ?_ | refine drawStep ?_
      refine ⟨by kernel_rfl, ?_⟩
      repeat first | refine opsStep ?_ | refine codeStep ?_ | refine drawStep ?_
      refine ⟨⟨a + 1, hal⟩, (by show (grD d).K - (a + 1) < (grD d).K - a; omega), Ent.fr' ⟨(by kernel_rfl), (by kernel_rfl), (by kernel_rfl), (Eq.trans (b := .int .i64 (IntKind.wrap .i64 ((s : Int) + (e : Int)))) (by kernel_rfl) ?_), inc_slot (i := a) (by omega), trivial⟩ (by kernel_rfl)⟩
      rw [IntWalk.i64_in _ (by omega), hs1, Int.natCast_add]
    · have hae : a = (grD d).K := by have h : ¬ ((a : Nat) : Int) < ((r.2.length : Nat) : Int) := hac; omega
      subst hae
      have hof := wd_Of (sumTo f (grD d).K) (by omega)
      rw [← hw0] at hof
      have hwq := hwl q
      have hws := wL_succ (wordsN (grD d) 0) q
      refine VCode.ent (Ent.fr' (l := [(1, .ref 0 0 0), (3, .hs 1 (q) 0 (q) 2), (4, .int .i64 (q : Nat)), (5, .int .i64 (wordsN (grD d) 0 q : Nat))]) (H' := [.cells 0 d.cells, .cells q (wL (wordsN (grD d) 0) q)]) ⟨(by kernel_rfl), (by kernel_rfl), (by kernel_rfl), (Eq.trans (b := .int .i64 (sumTo f (grD d).K : Nat)) (by kernel_rfl) (by rw [← hw0])), trivial⟩ (by kernel_rfl)) ?_
      repeat first | refine opsStep ?_ | refine codeStep ?_ | refine drawStep ?_
      refine callP hof ?_
      repeat first | refine opsStep ?_ | refine codeStep ?_ | refine drawStep ?_
      refine guardE_of ⟨rfl, by rw [hwq]; simp⟩ ?_
      refine guardE_of rfl ?_
      refine guardE_of ⟨by show q + 1 ≤ 9223372036854775807; omega, by show (q + 1) * 32 ≤ 140737488355328; omega⟩ ?_
      repeat first | refine opsStep ?_ | refine codeStep ?_ | refine drawStep ?_
      refine ⟨⟨q + 1, hql⟩, (by show (grD d).n - (q + 1) < (grD d).n - q; omega), ?_⟩
      refine Ent.to (Ent.frT (H' := [.cells 0 d.cells, .cells (q + 1) (((wL (wordsN (grD d) 0) q).drop 0).take (q * 2) ++ [.bool false, wS (digs (wordsN (grD d) 0 q))])]) 2 ⟨(by kernel_rfl), (by kernel_rfl), inc_slot (i := q) (by omega), trivial⟩ (by kernel_rfl) (Nat.zero_le _) (by simp [frBel, AV.bel]) ?_) ?_
      · rw [List.drop_zero, List.take_of_length_le (by rw [hwq]; exact Nat.le_refl _)]
        simp [blksBel, Blk.bel, bels_append, bels, AV.bel, wL_bel, cells_bel, uW_bel, wS]
      · rw [List.drop_zero, List.take_of_length_le (by rw [hwq]; exact Nat.le_refl _), ← hws]
  · have hqe : q = (grD d).n := by have h : ¬ ((q : Nat) : Int) < ((d.next.length : Nat) : Int) := hqc; omega
    subst hqe
    repeat first | refine opsStep ?_ | refine codeStep ?_ | refine drawStep ?_
    exact finFrz 2 (b := 1) (g := (grD d).n) (es := 2) (by kernel_rfl) (by kernel_rfl) (by rw [hwl]) rfl

set_option maxHeartbeats 1000000 in
theorem r20_Next (d : Den) (hd : rightS d = true) (f F : Nat → Nat) (hF : ∀ q, F q = sumTo (fun a => f ((grD d).st q a)) (grD d).K) (k : Nat) (hk : k < 2 ^ 20) (hfk : ∀ q, f q < 65536 ^ k) :
    Pure Try.prog 43 [aDen d, .sl .any (grD d).n (wL f (grD d).n)] (.sl .any (grD d).n (wL F (grD d).n)) := by
  have hrow := fun q hq => gr_row hd (q := q) hq
  have hgo := grD_ok hd
  have hlet := hgo.let'
  have hbig := hgo.big
  have hnl : d.next.length = (grD d).n := (rightS_parts hd).2.1
  have hwl := wL_length F
  have hwf := wL_length f (grD d).n
  have hwg := fun q (h : q < (grD d).n) => wL_get f h
  have hwc := wL_closed F (grD d).n
  have hwcf := wL_closed f (grD d).n
  have hof := wd_Of 0 (by decide)
  have hkp : (65536 : Nat) ^ (k + 1) = 65536 ^ k * 65536 := Nat.pow_succ ..
  refine Pure.of_sw 45 Try.func43 rfl Try.ntmps43 (by kernel_rfl) (Nat.le_of_ble_eq_true (by kernel_rfl)) (by simp only [closeds, AV.closed]; exact ⟨aDen_closed d, hwcf, trivial⟩) (by simpa [AV.closed] using hwc) ?_; refine SW.of_vc ?_
  repeat first | refine opsStep ?_ | refine codeStep ?_ | refine drawStep ?_
  refine loopE_of (ι := {q : Nat // q ≤ (grD d).n}) (fun q => (fr [(1, .sl .any (grD d).n (wL f (grD d).n)), (2, .ref 0 0 0), (5, .hs 1 (q.1) 0 (q.1) 2), (6, .int .i64 (q.1 : Nat))], [.cells 0 d.cells, .cells (q.1) (wL F (q.1))])) (fun q => (grD d).n - q.1) ⟨0, Nat.zero_le _⟩
    (((Ent.fr' (l := [(1, .sl .any (grD d).n (wL f (grD d).n)), (2, .ref 0 0 0), (5, .sl .nil 0 []), (6, .int .i64 (0 : Nat))]) (H' := [.cells 0 d.cells]) ⟨(by kernel_rfl), (by kernel_rfl), (by kernel_rfl), (by kernel_rfl), trivial⟩ (by kernel_rfl)).trans (Ent.nil 5 2 rfl)).trans (Ent.fr' ⟨(by kernel_rfl), (by kernel_rfl), (by kernel_rfl), (by kernel_rfl), trivial⟩ (by kernel_rfl))) ?_
  rintro ⟨q, hq⟩
  repeat first | refine opsStep ?_ | refine codeStep ?_ | refine drawStep ?_
  refine decB_dec (fun hqc => ?_) (fun hqc => ?_)
  · have hql : q < (grD d).n := by have h : ((q : Nat) : Int) < ((d.next.length : Nat) : Int) := hqc; omega
    obtain ⟨r, g1, g2, g3, g4⟩ := hrow q hql
    have hFq := hF q
    obtain ⟨e, he⟩ : ∃ e, (fun a => f ((grD d).st q a)) = e := ⟨_, rfl⟩
    have hea : ∀ a, e a = f ((grD d).st q a) := fun a => by rw [← he]
    have hsb : ∀ a, a ≤ 64 → sumTo e a < 65536 ^ (k + 1) ∧ sumTo e a ≤ a * 65536 ^ k := fun a ha => by
      have h2 : sumTo e a ≤ a * 65536 ^ k := by
        induction a with
        | zero => simp [sumTo]
        | succ a ih => rw [sumTo, Nat.add_mul, hea]; have := hfk ((grD d).st q a); have := ih (by omega); omega
      have h3 : a * 65536 ^ k ≤ 64 * 65536 ^ k := Nat.mul_le_mul_right _ ha
      have h4 : 0 < 65536 ^ k := Nat.pow_pos (by decide)
      exact ⟨by omega, h2⟩
    rw [he] at hFq
    repeat first | refine opsStep ?_ | refine codeStep ?_ | refine drawStep ?_
    refine callP hof ?_
    repeat first | refine opsStep ?_ | refine codeStep ?_ | refine drawStep ?_
    refine loopE_of (ι := {a : Nat // a ≤ (grD d).K}) (fun a => (fr [(1, .sl .any (grD d).n (wL f (grD d).n)), (2, .ref 0 0 0), (5, .hs 1 (q) 0 (q) 2), (6, .int .i64 (q : Nat)), (7, .ref 2 0 0), (8, .int .i64 (a.1 : Nat))], [.cells 0 d.cells, .cells (q) (wL F (q)), .cells 0 [.bool false, wS (digs (sumTo e a.1))]])) (fun a => (grD d).K - a.1) ⟨0, Nat.zero_le _⟩ (Ent.fr' ⟨(by kernel_rfl), (by kernel_rfl), (by kernel_rfl), (by kernel_rfl), (by kernel_rfl), (by kernel_rfl), trivial⟩ (by kernel_rfl)) ?_
    rintro ⟨a, ha⟩
    obtain ⟨hsa, _⟩ := hsb a (by omega)
    repeat first | refine opsStep ?_ | refine codeStep ?_ | refine drawStep ?_
    refine guardE_of (by simp; omega) ?_
    repeat first | refine opsStep ?_ | refine codeStep ?_ | refine drawStep ?_
    refine optE_of (c := aIs r.1 r.2) (by simp [Value.cells, g1]) ?_
    repeat first | refine opsStep ?_ | refine codeStep ?_ | refine drawStep ?_
    refine decB_dec (fun hac => ?_) (fun hac => ?_)
    · have hal : a < (grD d).K := by have h : ((a : Nat) : Int) < ((r.2.length : Nat) : Int) := hac; omega
      obtain ⟨g5, g6⟩ := g4 a hal
      have har : a < r.2.length := by omega
      have hgt := hwg _ g6
      have hlt : ((grD d).st q a) * 2 + 2 ≤ (wL f (grD d).n).length := by rw [hwf]; omega
      have hfl : f ((grD d).st q a) < 65536 ^ (k + 1) := by have := hfk ((grD d).st q a); have h4 : 0 < 65536 ^ k := Nat.pow_pos (by decide); omega
      have hpl := wd_Plus (sumTo e a) (f ((grD d).st q a)) (by have := mx_le hsa hfl; omega)
      rw [← hea, show sumTo e a + e a = sumTo e (a + 1) from rfl, hea] at hpl
      generalize f ((grD d).st q a) = fv at *
      generalize (grD d).st q a = to at *
      have hpl : Pure Try.prog 41 [wdA false (digs (sumTo e a)), .agg (((wL f (grD d).n).drop (to * 2)).take 2)] (wdA false (digs (sumTo e (a + 1)))) := by rw [hgt]; exact hpl
      repeat first | refine opsStep ?_ | refine codeStep ?_ | refine drawStep ?_
      refine SW.drawn rfl (by kernel_rfl) ?_
      repeat first | refine opsStep ?_ | refine codeStep ?_ | refine drawStep ?_
      refine guardE_of (by simp; omega) ?_
      repeat first | refine opsStep ?_ | refine codeStep ?_ | refine drawStep ?_
      refine optE_of (c := aIs r.1 r.2) (by simp [Value.cells, g1]) ?_
      repeat first | refine opsStep ?_ | refine codeStep ?_ | refine drawStep ?_
      refine guardE_of (by simp; omega) ?_
      repeat first | refine opsStep ?_ | refine codeStep ?_ | refine drawStep ?_
      refine optE_of (c := .int .i64 (to : Nat)) (by simp [Value.cells, g5]) ?_
      repeat first | refine opsStep ?_ | refine codeStep ?_ | refine drawStep ?_
      refine guardE_of (by show (0 : Int) ≤ ((to : Nat) : Int) ∧ ((to : Nat) : Int) < (((grD d).n : Nat) : Int); omega) ?_
      repeat first | refine opsStep ?_ | refine codeStep ?_ | refine drawStep ?_
      refine guardE_of (by show 2 ≤ ((wL f (grD d).n).drop (to * 2)).length; rw [List.length_drop]; omega) ?_
      repeat first | refine opsStep ?_ | refine codeStep ?_ | refine drawStep ?_
      refine .inl ⟨_, _, [], hpl, RdsN_refl _, .inr rfl, none_need, ?_⟩
      repeat first | refine opsStep ?_ | refine codeStep ?_ | refine drawStep ?_
      refine ⟨by kernel_rfl, ?_⟩
      repeat first | refine opsStep ?_ | refine codeStep ?_ | refine drawStep ?_
      exact ⟨⟨a + 1, hal⟩, (by show (grD d).K - (a + 1) < (grD d).K - a; omega), Ent.fr' ⟨(by kernel_rfl), (by kernel_rfl), (by kernel_rfl), (by kernel_rfl), (by kernel_rfl), inc_slot (i := a) (by omega), trivial⟩ (by kernel_rfl)⟩
    · have hae : a = (grD d).K := by have h : ¬ ((a : Nat) : Int) < ((r.2.length : Nat) : Int) := hac; omega
      subst hae
      have hwq := hwl q
      have hws := wL_succ F q
      rw [hFq] at hws
      repeat first | refine opsStep ?_ | refine codeStep ?_ | refine drawStep ?_
      refine guardE_of ⟨rfl, by rw [hwq]; simp⟩ ?_
      refine guardE_of rfl ?_
      refine guardE_of ⟨by show q + 1 ≤ 9223372036854775807; omega, by show (q + 1) * 32 ≤ 140737488355328; omega⟩ ?_
      repeat first | refine opsStep ?_ | refine codeStep ?_ | refine drawStep ?_
      refine ⟨⟨q + 1, hql⟩, (by show (grD d).n - (q + 1) < (grD d).n - q; omega), ?_⟩
      refine Ent.to (Ent.frT (H' := [.cells 0 d.cells, .cells (q + 1) (((wL F q).drop 0).take (q * 2) ++ [.bool false, wS (digs (sumTo e (grD d).K))])]) 2 ⟨(by kernel_rfl), (by kernel_rfl), (by kernel_rfl), inc_slot (i := q) (by omega), trivial⟩ (by kernel_rfl) (Nat.zero_le _) (by simp [frBel, AV.bel, wL_bel]) ?_) ?_
      · rw [List.drop_zero, List.take_of_length_le (by rw [hwq]; exact Nat.le_refl _)]
        simp [blksBel, Blk.bel, bels_append, bels, AV.bel, wL_bel, cells_bel, uW_bel, wS]
      · rw [List.drop_zero, List.take_of_length_le (by rw [hwq]; exact Nat.le_refl _), ← hws]
  · have hqe : q = (grD d).n := by have h : ¬ ((q : Nat) : Int) < ((d.next.length : Nat) : Int) := hqc; omega
    subst hqe
    repeat first | refine opsStep ?_ | refine codeStep ?_ | refine drawStep ?_
    exact finFrz 4 (b := 1) (g := (grD d).n) (es := 2) (by kernel_rfl) (by kernel_rfl) (by rw [hwl]) rfl

end Tab

/- count: spread. -/
namespace Tab
open Go Go.Proofs
set_option maxRecDepth 10000
set_option linter.unusedVariables false
set_option linter.unusedSimpArgs false
set_option linter.unusedSectionVars false

theorem callA {P : Program} {f : FuncId} {args : List AV} {H : List Blk} {R X : Out → List Blk → Prop} (h : ACall P f args H R) (k : ∀ o H', R o H' → X o H') : ∃ R : Out → List Blk → Prop, ACall P f args H R ∧ ∀ o H', R o H' → X o H' := ⟨R, h, k⟩

theorem callI2 {P : Program} {f : FuncId} {args : List AV} {H : List Blk} {α β : Type} {v : α → β → AV} {Hh : α → β → List Blk} {Q : α → β → Prop} {X : Out → List Blk → Prop} (h : ACall P f args H fun o H' => ∃ a b, o = .ret (v a b) ∧ H' = Hh a b ∧ Q a b)
    (k : ∀ a b, Q a b → X (.ret (v a b)) (Hh a b)) : ∃ R : Out → List Blk → Prop, ACall P f args H R ∧ ∀ o H', R o H' → X o H' :=
  ⟨_, h, by rintro _ _ ⟨a, b, rfl, rfl, hq⟩; exact k a b hq⟩

/-- What one pass leaves. -/
def SpPost (g : Gr) (L0 : List Bool) (b : Bool) (L : List Bool) : Prop := SpSound g L ∧ trues L0 ≤ trues L ∧ (b = true → trues L0 < trues L) ∧ (b = false → L = L0 ∧ ∀ q a, q < g.n → a < g.K → SpDone g L q a)

set_option maxHeartbeats 1000000 in
theorem count_spread (d : Den) (hd : rightS d = true) (g : Gr) (hgr : grD d = g) (gl : Nat) (kn : AV) (X : List Blk) (L0 : List Bool) (h0 : SpSound g L0) :
    ACall Try.prog 81 [.ref 0 0 0] (cnC d (.hs 1 gl 0 g.n 1) kn :: .cells gl ((L0).map .bool) :: X) (fun o H' => ∃ b L, o = .ret (.bool b) ∧ H' = cnC d (.hs 1 gl 0 g.n 1) kn :: .cells gl ((L).map .bool) :: X ∧ SpPost g L0 b L) := by
  have hends := fun q a hq ha (L : List Bool) => count_ends d hd q a hq ha (.hs 1 gl 0 g.n 1) kn (.cells gl (L.map .bool) :: X)
  have hrow := fun q hq => gr_row hd (q := q) hq
  have hnl : d.next.length = (grD d).n := (rightS_parts hd).2.1
  have hgo := grD_ok hd
  have hel : ∀ q a, endsN (grD d) q a ≤ 64 := fun q a => Nat.le_trans (endsN_le _ _ _) (Nat.le_trans (yesTo_le _ _ _) hgo.let')
  rw [hgr] at hends hrow hnl hgo hel
  have hstay := hgo.stay
  have hbig := hgo.big
  have hlet := hgo.let'
  refine ACall.of_sw 59 Try.func81 rfl Try.ntmps81 (by kernel_rfl) (Nat.le_of_ble_eq_true (by kernel_rfl)) ?_; refine SW.of_vc ?_
  repeat first | refine opsStep ?_ | refine codeStep ?_ | refine drawStep ?_
  refine loopE_of (ι := {x : Nat × List Bool × Bool // x.1 ≤ g.n ∧ SpSound g x.2.1 ∧ trues L0 ≤ trues x.2.1 ∧ (x.2.2 = true → trues L0 < trues x.2.1) ∧ (x.2.2 = false → x.2.1 = L0 ∧ ∀ q a, q < x.1 → a < g.K → SpDone g L0 q a)})
    (fun x => (fr [(0, .ref 0 0 0), (3, .bool x.1.2.2), (12, aRs d.nk d.next), (13, .int .i64 (g.n : Nat)), (14, .int .i64 (x.1.1 : Nat))], (cnC d (.hs 1 gl 0 g.n 1) kn :: .cells gl ((x.1.2.1).map .bool) :: X))) (fun x => g.n - x.1.1)
    ⟨(0, L0, false), Nat.zero_le _, h0, Nat.le_refl _, by simp, fun _ => ⟨rfl, fun q a hq => absurd hq (Nat.not_lt_zero _)⟩⟩ (Ent.fr' ⟨(by kernel_rfl), (by kernel_rfl), (by kernel_rfl), (Eq.trans (b := .int .i64 (d.next.length : Nat)) (by kernel_rfl) (by rw [hnl])), (by kernel_rfl), trivial⟩ (by kernel_rfl)) ?_
  rintro ⟨⟨q, L, b⟩, hq, hs, hle, hbt, hbf⟩
  simp only at hq hs hle hbt hbf
  repeat first | refine opsStep ?_ | refine codeStep ?_ | refine drawStep ?_
  refine decB_dec (fun hqc => ?_) (fun hqc => ?_)
  · have hql : q < g.n := by have := hqc; simp at this; omega
    obtain ⟨r, g1, g2, g3, g4⟩ := hrow q hql
    repeat first | refine opsStep ?_ | refine codeStep ?_ | refine drawStep ?_
    refine guardE_of (by simp; omega) ?_
    repeat first | refine opsStep ?_ | refine codeStep ?_ | refine drawStep ?_
    refine optE_of (c := aIs r.1 r.2) (by simp [Value.cells, g1]) ?_
    repeat first | refine opsStep ?_ | refine codeStep ?_ | refine drawStep ?_
    refine loopE_of (ι := {x : Nat × List Bool × Bool // x.1 ≤ g.K ∧ SpSound g x.2.1 ∧ trues L0 ≤ trues x.2.1 ∧ (x.2.2 = true → trues L0 < trues x.2.1) ∧ (x.2.2 = false → x.2.1 = L0 ∧ (∀ q' a, q' < q → a < g.K → SpDone g L0 q' a) ∧ ∀ a, a < x.1 → SpDone g L0 q a)})
      (fun x => (fr [(0, .ref 0 0 0), (3, .bool x.1.2.2), (4, .int .i64 (q : Nat)), (12, aRs d.nk d.next), (13, .int .i64 (g.n : Nat)), (14, .int .i64 (q : Nat)), (19, aIs r.1 r.2), (20, .int .i64 (r.2.length : Nat)), (21, .int .i64 (x.1.1 : Nat))], (cnC d (.hs 1 gl 0 g.n 1) kn :: .cells gl ((x.1.2.1).map .bool) :: X))) (fun x => g.K - x.1.1)
      ⟨(0, L, b), Nat.zero_le _, hs, hle, hbt, fun e => ⟨(hbf e).1, (hbf e).2, fun a ha => absurd ha (Nat.not_lt_zero _)⟩⟩ (Ent.fr' ⟨(by kernel_rfl), (by kernel_rfl), (by kernel_rfl), (by kernel_rfl), (by kernel_rfl), (by kernel_rfl), (by kernel_rfl), (by kernel_rfl), (by kernel_rfl), trivial⟩ (by kernel_rfl)) ?_
    rintro ⟨⟨a, L, b⟩, ha, hs, hle, hbt, hbf⟩
    simp only at ha hs hle hbt hbf
    repeat first | refine opsStep ?_ | refine codeStep ?_ | refine drawStep ?_
    refine decB_dec (fun hac => ?_) (fun hac => ?_)
    · have hal : a < g.K := by have := hac; simp at this; omega
      obtain ⟨g5, g6⟩ := g4 a hal
      have har : a < r.2.length := by omega
      have hll := hs.1
      obtain ⟨vq, hgq⟩ : ∃ v, L[q]? = some v := ⟨_, List.getElem?_eq_getElem (by omega)⟩
      obtain ⟨vt, hgt⟩ : ∃ v, L[g.st q a]? = some v := ⟨_, List.getElem?_eq_getElem (by omega)⟩
      have hset := fun hx => hs.set (q := q) (a := a) hal hx
      have htr := fun h => trues_set (L := L) (q := q) h
      have hen := hends (g.st q a) a g6 hal L
      have hel := hel (g.st q a) a
      have hdn : SpDone g L q a ↔ ((0 < endsN g (g.st q a) a ∨ L[g.st q a]? = some true) → L[q]? = some true) := Iff.rfl
      generalize endsN g (g.st q a) a = en at *
      generalize g.st q a = to at *
      repeat first | refine opsStep ?_ | refine codeStep ?_ | refine drawStep ?_
      refine guardE_of (by simp; omega) ?_
      repeat first | refine opsStep ?_ | refine codeStep ?_ | refine drawStep ?_
      refine optE_of (c := .int .i64 (to : Nat)) (by simp [Value.cells, g5]) ?_
      repeat first | refine opsStep ?_ | refine codeStep ?_ | refine drawStep ?_
      refine guardE_of (by simp; omega) ?_
      repeat first | refine opsStep ?_ | refine codeStep ?_ | refine drawStep ?_
      refine guardE_of rfl ?_
      refine optE_of rfl ?_
      refine optE_of (c := AV.bool vq) (by show (L.map AV.bool)[0 + q * 1]? = _; simp [hgq]) ?_
      cases vq with
      | true =>
        repeat first | refine opsStep ?_ | refine codeStep ?_ | refine drawStep ?_
        refine ⟨⟨(a + 1, L, b), hal, hs, hle, hbt, fun e => ⟨(hbf e).1, (hbf e).2.1, fun a' ha' => ?_⟩⟩, (by show g.K - (a + 1) < g.K - a; omega), Ent.fr' ⟨(by kernel_rfl), (by kernel_rfl), (by kernel_rfl), (by kernel_rfl), (by kernel_rfl), (by kernel_rfl), (by kernel_rfl), (by kernel_rfl), inc_slot (i := a) (by omega), trivial⟩ (by kernel_rfl)⟩
        by_cases e' : a' = a
        · subst e'; rw [← (hbf e).1]; exact hdn.2 fun _ => hgq
        · exact (hbf e).2.2 a' (by omega)
      | false =>
        have htr := htr hgq
        have hmap : (L.map AV.bool).set q (.bool true) = (L.set q true).map AV.bool := by rw [List.map_set]
        repeat first | refine opsStep ?_ | refine codeStep ?_ | refine drawStep ?_
        refine guardE_of (by simp; omega) ?_
        repeat first | refine opsStep ?_ | refine codeStep ?_ | refine drawStep ?_
        refine guardE_of rfl ?_
        refine optE_of rfl ?_
        refine optE_of (c := AV.bool vt) (by show (L.map AV.bool)[0 + to * 1]? = _; simp [hgt]) ?_
        cases vt with
        | true =>
          repeat first | refine opsStep ?_ | refine codeStep ?_ | refine drawStep ?_
          refine guardE_of (by simp; omega) ?_
          repeat first | refine opsStep ?_ | refine codeStep ?_ | refine drawStep ?_
          refine guardE_of rfl ?_
          refine optE_of rfl ?_
          refine optE_of rfl ?_
          refine guardE_of ⟨rfl, by decide, by show 0 + q * 1 + 1 ≤ (L.map AV.bool).length; rw [List.length_map]; omega⟩ ?_
          repeat first | refine opsStep ?_ | refine codeStep ?_ | refine drawStep ?_
          refine ⟨⟨(a + 1, L.set q true, true), hal, hset (.inr hgt), by simp only; omega, fun _ => by simp only; omega, by simp⟩, (by show g.K - (a + 1) < g.K - a; omega), Ent.fr' ⟨(by kernel_rfl), (by kernel_rfl), (by kernel_rfl), (by kernel_rfl), (by kernel_rfl), (by kernel_rfl), (by kernel_rfl), (by kernel_rfl), inc_slot (i := a) (by omega), trivial⟩ ?_⟩
          refine Eq.trans (b := cnC d (.hs 1 gl 0 g.n 1) kn :: .cells gl (over (L.map .bool) (0 + q * 1) [.bool true]) :: X) (by kernel_rfl) ?_
          rw [Nat.zero_add, Nat.mul_one, over_one (by rw [List.length_map]; omega), hmap]
        | false =>
          repeat first | refine opsStep ?_ | refine codeStep ?_ | refine drawStep ?_
          refine callH hen ?_
          repeat first | refine opsStep ?_ | refine codeStep ?_ | refine drawStep ?_
          refine decB_dec (fun hen0 => ?_) (fun hen0 => ?_)
          · have hen0 : (0 : Int) < ((en : Nat) : Int) := hen0
            repeat first | refine opsStep ?_ | refine codeStep ?_ | refine drawStep ?_
            refine guardE_of (by simp; omega) ?_
            repeat first | refine opsStep ?_ | refine codeStep ?_ | refine drawStep ?_
            refine guardE_of rfl ?_
            refine optE_of rfl ?_
            refine optE_of rfl ?_
            refine guardE_of ⟨rfl, by decide, by show 0 + q * 1 + 1 ≤ (L.map AV.bool).length; rw [List.length_map]; omega⟩ ?_
            repeat first | refine opsStep ?_ | refine codeStep ?_ | refine drawStep ?_
            refine ⟨⟨(a + 1, L.set q true, true), hal, hset (.inl (by omega)), by simp only; omega, fun _ => by simp only; omega, by simp⟩, (by show g.K - (a + 1) < g.K - a; omega), Ent.fr' ⟨(by kernel_rfl), (by kernel_rfl), (by kernel_rfl), (by kernel_rfl), (by kernel_rfl), (by kernel_rfl), (by kernel_rfl), (by kernel_rfl), inc_slot (i := a) (by omega), trivial⟩ ?_⟩
            refine Eq.trans (b := cnC d (.hs 1 gl 0 g.n 1) kn :: .cells gl (over (L.map .bool) (0 + q * 1) [.bool true]) :: X) (by kernel_rfl) ?_
            rw [Nat.zero_add, Nat.mul_one, over_one (by rw [List.length_map]; omega), hmap]
          · have hen0 : ¬ (0 : Int) < ((en : Nat) : Int) := hen0
            repeat first | refine opsStep ?_ | refine codeStep ?_ | refine drawStep ?_
            refine ⟨⟨(a + 1, L, b), hal, hs, hle, hbt, fun e => ⟨(hbf e).1, (hbf e).2.1, fun a' ha' => ?_⟩⟩, (by show g.K - (a + 1) < g.K - a; omega), Ent.fr' ⟨(by kernel_rfl), (by kernel_rfl), (by kernel_rfl), (by kernel_rfl), (by kernel_rfl), (by kernel_rfl), (by kernel_rfl), (by kernel_rfl), inc_slot (i := a) (by omega), trivial⟩ (by kernel_rfl)⟩
            by_cases e' : a' = a
            · subst e'
              rw [← (hbf e).1]
              refine hdn.2 fun h => ?_
              rcases h with h | h
              · omega
              · rw [hgt] at h; simp at h
            · exact (hbf e).2.2 a' (by omega)
    · have hae : a = g.K := by have := hac; simp at this; omega
      subst hae
      repeat first | refine opsStep ?_ | refine codeStep ?_ | refine drawStep ?_
      refine ⟨⟨(q + 1, L, b), hql, hs, hle, hbt, fun e => ⟨(hbf e).1, fun q' a' hq' ha' => ?_⟩⟩, (by show g.n - (q + 1) < g.n - q; omega), Ent.fr' ⟨(by kernel_rfl), (by kernel_rfl), (by kernel_rfl), (by kernel_rfl), inc_slot (i := q) (by omega), trivial⟩ (by kernel_rfl)⟩
      by_cases e' : q' = q
      · subst e'; exact (hbf e).2.2 a' ha'
      · exact (hbf e).2.1 q' a' (by omega) ha'
  · have hqe : q = g.n := by have := hqc; simp at this; omega
    subst hqe
    repeat first | refine opsStep ?_ | refine codeStep ?_ | refine drawStep ?_
    exact finR (l := [(2, .bool b)]) (v := .bool b) ⟨(by kernel_rfl), trivial⟩ (by kernel_rfl) (Ent.refl _ _ _) (by kernel_rfl) ⟨b, L, rfl, rfl, hs, hle, hbt, fun e => ⟨(hbf e).1, by rw [(hbf e).1]; exact (hbf e).2⟩⟩

end Tab

/- tabardref20: Live. -/
namespace Tab
open Go Go.Proofs
set_option maxRecDepth 10000
set_option linter.unusedVariables false
set_option linter.unusedSimpArgs false
set_option linter.unusedSectionVars false

/-- What a pass over all states and letters has done so far. -/
structure LvI (g : Gr) (L0 L : List Bool) : Prop where
  sound : SpSound g L
  base : ∀ q, q < g.n → 0 < wordsN g 0 q → L[q]? = some true
  le : trues L0 ≤ trues L
def ClL (g : Gr) (L : List Bool) : Prop := ∀ q a, q < g.n → a < g.K → L[g.st q a]? = some true → L[q]? = some true
def LvD (g : Gr) (L0 L : List Bool) (q a : Nat) : Prop := (ClL g L0 → L = L0) ∧ (trues L0 < trues L ∨ (L = L0 ∧ ∀ q' a', (q' < q ∨ (q' = q ∧ a' < a)) → a' < g.K → L0[g.st q' a']? = some true → L0[q']? = some true))
theorem LvD.start (g : Gr) (L : List Bool) : LvD g L L 0 0 := ⟨fun _ => rfl, .inr ⟨rfl, fun q' a' h _ => by omega⟩⟩
theorem LvD.row {g : Gr} {L0 L : List Bool} {q : Nat} (h : LvD g L0 L q g.K) : LvD g L0 L (q + 1) 0 := by
  obtain ⟨h0, h | ⟨h1, h2⟩⟩ := h
  · exact ⟨h0, .inl h⟩
  · exact ⟨h0, .inr ⟨h1, fun q' a' h h3 => h2 q' a' (by omega) h3⟩⟩
theorem LvD.put {g : Gr} {L0 L : List Bool} {q a : Nat} (hi : LvI g L0 L) (hd : LvD g L0 L q a) (hqn : q < g.n) (ha : a < g.K) (hq : L[q]? = some false) (ht : L[g.st q a]? = some true) : LvI g L0 (L.set q true) ∧ LvD g L0 (L.set q true) q (a + 1) := by
  have h1 := trues_set hq
  have h2 := hi.le
  refine ⟨⟨hi.sound.set ha (.inr ht), fun x hx h => ?_, by omega⟩, fun hc => ?_, .inl (by omega)⟩
  · rw [List.getElem?_set]
    split
    · have := hi.sound.1
      rw [if_pos (by omega)]
    · exact hi.base x hx h
  · have e := hd.1 hc
    subst e
    have := hc q a hqn ha ht
    rw [hq] at this; simp at this
theorem LvD.skip {g : Gr} {L0 L : List Bool} {q a : Nat} (hd : LvD g L0 L q a) (h : L[q]? = some true ∨ L[g.st q a]? = some false) : LvD g L0 L q (a + 1) := by
  obtain ⟨h0, hd | ⟨rfl, h2⟩⟩ := hd
  · exact ⟨h0, .inl hd⟩
  · refine ⟨h0, .inr ⟨rfl, fun q' a' h3 h4 h5 => ?_⟩⟩
    by_cases e : q' = q ∧ a' = a
    · obtain ⟨rfl, rfl⟩ := e
      rcases h with h | h
      · exact h
      · rw [h] at h5; simp at h5
    · exact h2 q' a' (by omega) h4 h5
/-- How many turns are enough. -/
def LvT (g : Gr) (t : Nat) (L : List Bool) : Prop := t ≤ trues L ∨ ClL g L
theorem LvT.next {g : Gr} {t : Nat} {L0 L : List Bool} (h : LvT g t L0) (hd : LvD g L0 L g.n 0) : LvT g (t + 1) L := by
  obtain ⟨h0, hd | ⟨rfl, h2⟩⟩ := hd
  · rcases h with h | h
    · exact .inl (by omega)
    · have := h0 h; subst this; omega
  · exact .inr fun q a hq ha h => h2 q a (.inl hq) ha h
theorem trues_all : ∀ {L : List Bool}, trues L = L.length → ∀ q, q < L.length → L[q]? = some true
  | [], _, q, h => by simp at h
  | b :: L, h, q, hq => by
    have hle := trues_le L
    cases b with
    | false =>
      simp only [trues, List.filter_cons, id, Bool.false_eq_true, if_false, List.length_cons] at h hle
      omega
    | true =>
      simp only [trues, List.filter_cons, id, if_true, List.length_cons] at h
      cases q with
      | zero => rfl
      | succ q => exact trues_all (L := L) (by simp only [trues]; omega) q (by simpa using hq)
theorem LvT.fin {g : Gr} (hg : g.Ok) {L0 L : List Bool} (hi : LvI g L0 L) (h : LvT g g.n L) : L = liveL g := by
  have hl := hi.sound.1
  refine live_final hg hi.sound fun q a hq ha hx => ?_
  rcases hx with hx | hx
  · exact hi.base q hq (sumTo_pos.2 ⟨a, ha, hx⟩)
  · rcases h with h | h
    · have := trues_le L
      exact trues_all (by omega) q (by omega)
    · exact h q a hq ha hx
/-- The start: what the first letters tell. -/
def lv0 (g : Gr) (q : Nat) : List Bool := (List.range g.n).map fun j => decide (j < q ∧ 0 < wordsN g 0 j)
theorem lv0_length (g q) : (lv0 g q).length = g.n := by simp [lv0]
theorem lv0_zero (g) : lv0 g 0 = List.replicate g.n false := by
  refine List.ext_getElem (by simp [lv0]) fun j h1 h2 => ?_
  simp [lv0]
theorem lv0_set (g : Gr) (q : Nat) : (lv0 g q).set q (decide (0 < wordsN g 0 q)) = lv0 g (q + 1) := by
  refine List.ext_getElem (by simp [lv0]) fun j h1 h2 => ?_
  simp only [lv0, List.getElem_set, List.getElem_map, List.getElem_range]
  by_cases e : q = j
  · subst e
    rw [if_pos rfl, decide_eq_decide]
    exact ⟨fun h => ⟨by omega, h⟩, fun h => h.2⟩
  · rw [if_neg e, decide_eq_decide]
    exact ⟨fun h => ⟨by omega, h.2⟩, fun h => ⟨by omega, h.2⟩⟩
theorem lv0_ok (g : Gr) : LvI g (lv0 g g.n) (lv0 g g.n) := by
  refine ⟨⟨lv0_length g g.n, fun q h => ?_⟩, fun q hq h => ?_, Nat.le_refl _⟩
  · have hq : q < g.n := by have := (List.getElem?_eq_some_iff.1 h).1; rwa [lv0_length] at this
    simp only [lv0, List.getElem?_map, List.getElem?_range hq, Option.map_some, Option.some.injEq, decide_eq_true_eq] at h
    exact ⟨0, h.2⟩
  · simp only [lv0, List.getElem?_map, List.getElem?_range hq, Option.map_some, Option.some.injEq, decide_eq_true_eq]
    exact ⟨hq, h⟩
theorem LvI.again {g : Gr} {L0 L : List Bool} (h : LvI g L0 L) : LvI g L L := ⟨h.sound, h.base, Nat.le_refl _⟩

theorem wL_dig {f : Nat → Nat} {n q : Nat} (h : q < n) : (((wL f n).drop (q * 2)).drop 1)[0]? = some (wS (digs (f q))) := by
  have h1 := wL_get f h
  have h2 : (((wL f n).drop (q * 2)).take 2)[1]? = some (wS (digs (f q))) := by rw [h1]; rfl
  rw [List.getElem?_take] at h2
  rw [List.getElem?_drop]
  simpa using h2
theorem set_same {L : List Bool} {q : Nat} {v : Bool} (h : L[q]? = some v) : L.set q v = L := by
  refine List.ext_getElem? fun j => ?_
  rw [List.getElem?_set]
  split
  · rename_i e
    subst e
    rw [if_pos (List.getElem?_eq_some_iff.1 h).1, h]
  · rfl
set_option maxHeartbeats 2000000 in
theorem r20_Live (d : Den) (hd : rightS d = true) : Pure Try.prog 52 [aDen d] (.sl .any (grD d).n ((liveL (grD d)).map .bool)) := by
  have hrow := fun q hq => gr_row hd (q := q) hq
  have hgo := grD_ok hd
  have hlet := hgo.let'
  have hbig := hgo.big
  have hfi := r20_First d hd
  have hwl := wL_length (wordsN (grD d) 0) (grD d).n
  have hwg := fun q (h : q < (grD d).n) => wL_get (wordsN (grD d) 0) h
  have hlc : closeds ((liveL (grD d)).map AV.bool) := closeds_iff.2 fun a ha => by obtain ⟨x, _, rfl⟩ := List.mem_map.1 ha; simp only [AV.closed]
  refine Pure.of_sw 73 Try.func52 rfl Try.ntmps52 (by kernel_rfl) (Nat.le_of_ble_eq_true (by kernel_rfl)) (by simp [closeds, aDen_closed]) (by simpa [AV.closed] using hlc) ?_; refine SW.of_vc ?_
  repeat first | refine opsStep ?_ | refine codeStep ?_ | refine drawStep ?_
  refine callP hfi ?_
  repeat first | refine opsStep ?_ | refine codeStep ?_ | refine drawStep ?_
  refine guardE_of ⟨by show 0 ≤ (((grD d).n : Nat) : Int); omega, Int.le_refl _, by show (1 : Int) * (((grD d).n : Nat) : Int) ≤ _; omega, by show (((grD d).n : Nat) : Int) ≤ _; omega⟩ ?_
  repeat first | refine opsStep ?_ | refine codeStep ?_ | refine drawStep ?_
  refine loopE_of (ι := {q : Nat // q ≤ (grD d).n}) (fun q => (fr [(1, .ref 0 0 0), (4, .hs 1 0 0 (grD d).n 1), (3, .sl .any (grD d).n (wL (wordsN (grD d) 0) (grD d).n)), (5, .int .i64 (q.1 : Nat))], [.cells 0 d.cells, .cells 0 ((lv0 (grD d) q.1).map .bool)])) (fun q => (grD d).n - q.1) ⟨0, Nat.zero_le _⟩ (Ent.fr' ⟨(by kernel_rfl), (by kernel_rfl), (by kernel_rfl), (by kernel_rfl), trivial⟩ ?_) ?_
  · refine Eq.trans (b := [.cells 0 d.cells, .cells 0 (reps [.bool false] (((grD d).n : Nat) : Int).toNat)]) (by kernel_rfl) ?_
    rw [reps_one]
    show _ = [Blk.cells 0 d.cells, Blk.cells 0 ((lv0 (grD d) 0).map AV.bool)]
    rw [lv0_zero]; simp
  rintro ⟨q, hq⟩
  have hll := lv0_length (grD d) q
  repeat first | refine opsStep ?_ | refine codeStep ?_ | refine drawStep ?_
  refine decB_dec (fun hqc => ?_) (fun hqc => ?_)
  · have hql : q < (grD d).n := by have h : ((q : Nat) : Int) < (((grD d).n : Nat) : Int) := hqc; omega
    have hdig := wL_dig (f := wordsN (grD d) 0) hql
    have hset := lv0_set (grD d) q
    have hw : decide ((((digs (wordsN (grD d) 0 q)).length : Nat) : Int) > 0) = decide (0 < wordsN (grD d) 0 q) := by
      have := digs_nil (n := wordsN (grD d) 0 q)
      rw [decide_eq_decide]; omega
    repeat first | refine opsStep ?_ | refine codeStep ?_ | refine drawStep ?_
    refine guardE_of (by show (0 : Int) ≤ ((q : Nat) : Int) ∧ ((q : Nat) : Int) < (((grD d).n : Nat) : Int); omega) ?_
    repeat first | refine opsStep ?_ | refine codeStep ?_ | refine drawStep ?_
    refine optE_of (c := wS (digs (wordsN (grD d) 0 q))) hdig ?_
    repeat first | refine opsStep ?_ | refine codeStep ?_ | refine drawStep ?_
    refine guardE_of (by show (0 : Int) ≤ ((q : Nat) : Int) ∧ ((q : Nat) : Int) < (((grD d).n : Nat) : Int); omega) ?_
    repeat first | refine opsStep ?_ | refine codeStep ?_ | refine drawStep ?_
    refine guardE_of ⟨rfl, by decide, by show 0 + q * 1 + 1 ≤ ((lv0 (grD d) q).map AV.bool).length; rw [List.length_map]; omega⟩ ?_
    repeat first | refine opsStep ?_ | refine codeStep ?_ | refine drawStep ?_
    refine ⟨⟨q + 1, hql⟩, (by show (grD d).n - (q + 1) < (grD d).n - q; omega), Ent.fr' ⟨(by kernel_rfl), (by kernel_rfl), (by kernel_rfl), inc_slot (i := q) (by omega), trivial⟩ ?_⟩
    refine Eq.trans (b := [.cells 0 d.cells, .cells 0 (over ((lv0 (grD d) q).map .bool) (0 + q * 1) [.bool (decide ((((digs (wordsN (grD d) 0 q)).length : Nat) : Int) > 0))])]) (by kernel_rfl) ?_
    rw [Nat.zero_add, Nat.mul_one, over_one (by rw [List.length_map]; omega), hw, ← List.map_set, hset]
  have hqe : q = (grD d).n := by have h : ¬ ((q : Nat) : Int) < (((grD d).n : Nat) : Int) := hqc; omega
  subst hqe
  have hok0 := lv0_ok (grD d)
  clear hfi hwg hwl
  repeat first | refine opsStep ?_ | refine codeStep ?_ | refine drawStep ?_
  refine loopE_of (ι := {x : Nat × List Bool // x.1 ≤ (grD d).n ∧ LvI (grD d) x.2 x.2 ∧ LvT (grD d) x.1 x.2}) (fun x => (fr [(1, .ref 0 0 0), (4, .hs 1 0 0 (grD d).n 1), (6, .int .i64 (x.1.1 : Nat))], [.cells 0 d.cells, .cells 0 ((x.1.2).map .bool)])) (fun x => (grD d).n - x.1.1) ⟨(0, _), Nat.zero_le _, hok0, .inl (Nat.zero_le _)⟩ (Ent.fr' ⟨(by kernel_rfl), (by kernel_rfl), (by kernel_rfl), trivial⟩ (by kernel_rfl)) ?_
  rintro ⟨⟨tn, L0⟩, htn, hi0, ht0⟩
  simp only at htn hi0 ht0
  repeat first | refine opsStep ?_ | refine codeStep ?_ | refine drawStep ?_
  refine decB_dec (fun htc => ?_) (fun htc => ?_)
  · have htl : tn < (grD d).n := by have h : ((tn : Nat) : Int) < (((grD d).n : Nat) : Int) := htc; omega
    repeat first | refine opsStep ?_ | refine codeStep ?_ | refine drawStep ?_
    refine loopE_of (ι := {x : Nat × List Bool // x.1 ≤ (grD d).n ∧ LvI (grD d) L0 x.2 ∧ LvD (grD d) L0 x.2 x.1 0}) (fun x => (fr [(1, .ref 0 0 0), (4, .hs 1 0 0 (grD d).n 1), (6, .int .i64 (tn : Nat)), (7, .int .i64 (x.1.1 : Nat))], [.cells 0 d.cells, .cells 0 ((x.1.2).map .bool)])) (fun x => (grD d).n - x.1.1) ⟨(0, L0), Nat.zero_le _, hi0, LvD.start _ _⟩ (Ent.fr' ⟨(by kernel_rfl), (by kernel_rfl), (by kernel_rfl), (by kernel_rfl), trivial⟩ (by kernel_rfl)) ?_
    rintro ⟨⟨q, L1⟩, hqn, hi1, hd1⟩
    simp only at hqn hi1 hd1
    repeat first | refine opsStep ?_ | refine codeStep ?_ | refine drawStep ?_
    refine decB_dec (fun hqc => ?_) (fun hqc => ?_)
    · have hql : q < (grD d).n := by have h : ((q : Nat) : Int) < (((grD d).n : Nat) : Int) := hqc; omega
      obtain ⟨r, g1, g2, g3, g4⟩ := hrow q hql
      repeat first | refine opsStep ?_ | refine codeStep ?_ | refine drawStep ?_
      refine loopE_of (ι := {x : Nat × List Bool // x.1 ≤ (grD d).K ∧ LvI (grD d) L0 x.2 ∧ LvD (grD d) L0 x.2 q x.1}) (fun x => (fr [(1, .ref 0 0 0), (4, .hs 1 0 0 (grD d).n 1), (6, .int .i64 (tn : Nat)), (7, .int .i64 (q : Nat)), (8, .int .i64 (x.1.1 : Nat))], [.cells 0 d.cells, .cells 0 ((x.1.2).map .bool)])) (fun x => (grD d).K - x.1.1) ⟨(0, L1), Nat.zero_le _, hi1, hd1⟩ (Ent.fr' ⟨(by kernel_rfl), (by kernel_rfl), (by kernel_rfl), (by kernel_rfl), (by kernel_rfl), trivial⟩ (by kernel_rfl)) ?_
      rintro ⟨⟨a, L⟩, ha, hi, hdn⟩
      simp only at ha hi hdn
      have hLl := hi.sound.1
      repeat first | refine opsStep ?_ | refine codeStep ?_ | refine drawStep ?_
      refine guardE_of (by simp; omega) ?_
      repeat first | refine opsStep ?_ | refine codeStep ?_ | refine drawStep ?_
      refine optE_of (c := aIs r.1 r.2) (by simp [Value.cells, g1]) ?_
      repeat first | refine opsStep ?_ | refine codeStep ?_ | refine drawStep ?_
      refine decB_dec (fun hac => ?_) (fun hac => ?_)
      · have hal : a < (grD d).K := by have h : ((a : Nat) : Int) < ((r.2.length : Nat) : Int) := hac; omega
        obtain ⟨g5, g6⟩ := g4 a hal
        have har : a < r.2.length := by omega
        obtain ⟨vq, hgq⟩ : ∃ v, L[q]? = some v := ⟨_, List.getElem?_eq_getElem (by omega)⟩
        obtain ⟨vt, hgt⟩ : ∃ v, L[(grD d).st q a]? = some v := ⟨_, List.getElem?_eq_getElem (by omega)⟩
        have hskip := fun h => hdn.skip h
        have hput := fun h1 h2 => LvD.put hi hdn hql hal h1 h2
        have hss := fun v (h : L[q]? = some v) => set_same h
        generalize (grD d).st q a = to at *
        cases vq with
        | true =>
          have hss := hss true hgq
          repeat first | refine opsStep ?_ | refine codeStep ?_ | refine drawStep ?_
          refine guardE_of (by show (0 : Int) ≤ ((q : Nat) : Int) ∧ ((q : Nat) : Int) < (((grD d).n : Nat) : Int); omega) ?_
          repeat first | refine opsStep ?_ | refine codeStep ?_ | refine drawStep ?_
          refine optE_of (c := .bool true) (by simp [Value.cells, hgq]) ?_
          repeat first | refine opsStep ?_ | refine codeStep ?_ | refine drawStep ?_
          refine guardE_of (by show (0 : Int) ≤ ((q : Nat) : Int) ∧ ((q : Nat) : Int) < (((grD d).n : Nat) : Int); omega) ?_
          repeat first | refine opsStep ?_ | refine codeStep ?_ | refine drawStep ?_
          refine guardE_of ⟨rfl, by decide, by show 0 + q * 1 + 1 ≤ (L.map AV.bool).length; rw [List.length_map]; omega⟩ ?_
          repeat first | refine opsStep ?_ | refine codeStep ?_ | refine drawStep ?_
          refine ⟨⟨(a + 1, L), hal, hi, hskip (.inl hgq)⟩, (by show (grD d).K - (a + 1) < (grD d).K - a; omega), Ent.fr' ⟨(by kernel_rfl), (by kernel_rfl), (by kernel_rfl), (by kernel_rfl), inc_slot (i := a) (by omega), trivial⟩ ?_⟩
          refine Eq.trans (b := [.cells 0 d.cells, .cells 0 (over (L.map .bool) (0 + q * 1) [.bool true])]) (by kernel_rfl) ?_
          rw [Nat.zero_add, Nat.mul_one, over_one (by rw [List.length_map]; omega), ← List.map_set, hss]
        | false =>
          have hss := hss false hgq
          repeat first | refine opsStep ?_ | refine codeStep ?_ | refine drawStep ?_
          refine guardE_of (by show (0 : Int) ≤ ((q : Nat) : Int) ∧ ((q : Nat) : Int) < (((grD d).n : Nat) : Int); omega) ?_
          repeat first | refine opsStep ?_ | refine codeStep ?_ | refine drawStep ?_
          refine optE_of (c := .bool false) (by simp [Value.cells, hgq]) ?_
          repeat first | refine opsStep ?_ | refine codeStep ?_ | refine drawStep ?_
          refine guardE_of (by simp; omega) ?_
          repeat first | refine opsStep ?_ | refine codeStep ?_ | refine drawStep ?_
          refine optE_of (c := aIs r.1 r.2) (by simp [Value.cells, g1]) ?_
          repeat first | refine opsStep ?_ | refine codeStep ?_ | refine drawStep ?_
          refine guardE_of (by simp; omega) ?_
          repeat first | refine opsStep ?_ | refine codeStep ?_ | refine drawStep ?_
          refine optE_of (c := .int .i64 (to : Nat)) (by simp [Value.cells, g5]) ?_
          repeat first | refine opsStep ?_ | refine codeStep ?_ | refine drawStep ?_
          refine guardE_of (by show (0 : Int) ≤ ((to : Nat) : Int) ∧ ((to : Nat) : Int) < (((grD d).n : Nat) : Int); omega) ?_
          repeat first | refine opsStep ?_ | refine codeStep ?_ | refine drawStep ?_
          refine optE_of (c := .bool vt) (by simp [Value.cells, hgt]) ?_
          repeat first | refine opsStep ?_ | refine codeStep ?_ | refine drawStep ?_
          refine guardE_of (by show (0 : Int) ≤ ((q : Nat) : Int) ∧ ((q : Nat) : Int) < (((grD d).n : Nat) : Int); omega) ?_
          repeat first | refine opsStep ?_ | refine codeStep ?_ | refine drawStep ?_
          refine guardE_of ⟨rfl, by decide, by show 0 + q * 1 + 1 ≤ (L.map AV.bool).length; rw [List.length_map]; omega⟩ ?_
          repeat first | refine opsStep ?_ | refine codeStep ?_ | refine drawStep ?_
          have hh : LvI (grD d) L0 (L.set q vt) ∧ LvD (grD d) L0 (L.set q vt) q (a + 1) := by
            cases vt with
            | true => exact hput hgq hgt
            | false => rw [hss]; exact ⟨hi, hskip (.inr hgt)⟩
          refine ⟨⟨(a + 1, L.set q vt), hal, hh.1, hh.2⟩, (by show (grD d).K - (a + 1) < (grD d).K - a; omega), Ent.fr' ⟨(by kernel_rfl), (by kernel_rfl), (by kernel_rfl), (by kernel_rfl), inc_slot (i := a) (by omega), trivial⟩ ?_⟩
          refine Eq.trans (b := [.cells 0 d.cells, .cells 0 (over (L.map .bool) (0 + q * 1) [.bool vt])]) (by kernel_rfl) ?_
          rw [Nat.zero_add, Nat.mul_one, over_one (by rw [List.length_map]; omega), ← List.map_set]
      · have hae : a = (grD d).K := by have h : ¬ ((a : Nat) : Int) < ((r.2.length : Nat) : Int) := hac; omega
        subst hae
        repeat first | refine opsStep ?_ | refine codeStep ?_ | refine drawStep ?_
        exact ⟨⟨(q + 1, L), hql, hi, hdn.row⟩, (by show (grD d).n - (q + 1) < (grD d).n - q; omega), Ent.fr' ⟨(by kernel_rfl), (by kernel_rfl), (by kernel_rfl), inc_slot (i := q) (by omega), trivial⟩ (by kernel_rfl)⟩
    · have hqe : q = (grD d).n := by have h : ¬ ((q : Nat) : Int) < (((grD d).n : Nat) : Int) := hqc; omega
      subst hqe
      have hnx := LvT.next ht0 hd1
      repeat first | refine opsStep ?_ | refine codeStep ?_ | refine drawStep ?_
      exact ⟨⟨(tn + 1, L1), htl, hi1.again, hnx⟩, (by show (grD d).n - (tn + 1) < (grD d).n - tn; omega), Ent.fr' ⟨(by kernel_rfl), (by kernel_rfl), inc_slot (i := tn) (by omega), trivial⟩ (by kernel_rfl)⟩
  · have hte : tn = (grD d).n := by have h : ¬ ((tn : Nat) : Int) < (((grD d).n : Nat) : Int) := htc; omega
    subst hte
    have hfin := LvT.fin hgo hi0 ht0
    subst hfin
    have hlln := liveL_length (grD d)
    repeat first | refine opsStep ?_ | refine codeStep ?_ | refine drawStep ?_
    exact finFrz 2 (b := 1) (g := 0) (es := 1) (by kernel_rfl) (by kernel_rfl) (by rw [List.length_map, hlln]; omega) rfl

end Tab

/- tabardref20.Finite: plain. -/
namespace Tab
open Go
set_option maxRecDepth 10000
set_option linter.unusedVariables false
set_option linter.unusedSimpArgs false
set_option linter.unusedSectionVars false

section
variable {g : Gr}
def S0 (g : Gr) (q : Nat) : Prop := Rch g q ∧ liveP g q
open Classical in
noncomputable def s0L (g : Gr) : List Bool := (List.range g.n).map fun q => decide (S0 g q)
theorem s0L_length : (s0L g).length = g.n := by simp [s0L]
theorem s0L_iff {q : Nat} (hq : q < g.n) : (s0L g)[q]? = some true ↔ S0 g q := by
  simp only [s0L, List.getElem?_map, List.getElem?_range hq, Option.map_some, Option.some.injEq, decide_eq_true_eq]
theorem bool_not {L : List Bool} {q n : Nat} (hl : L.length = n) (hq : q < n) (h : L[q]? ≠ some true) : L[q]? = some false := by
  rw [List.getElem?_eq_getElem (by omega)] at h ⊢
  cases hx : L[q]'(by omega) with
  | true => rw [hx] at h; exact absurd rfl h
  | false => rfl
theorem s0L_eq {L : List Bool} (hl : L.length = g.n) (h : ∀ q, q < g.n → (L[q]? = some true ↔ S0 g q)) : L = s0L g := by
  refine List.ext_getElem? fun q => ?_
  by_cases hq : q < g.n
  · by_cases hs : S0 g q
    · rw [(h q hq).2 hs, (s0L_iff hq).2 hs]
    · rw [bool_not hl hq fun e => hs ((h q hq).1 e), bool_not s0L_length hq fun e => hs ((s0L_iff hq).1 e)]
  · rw [List.getElem?_eq_none (by omega), List.getElem?_eq_none (by rw [s0L_length]; omega)]

/-! ### The list of what is reached -/
structure BfI (g : Gr) (L : List Nat) : Prop where
  nd : L.Nodup
  ok : ∀ x ∈ L, x < g.n ∧ S0 g x
  z : L[0]? = some 0
def BfC (g : Gr) (L : List Nat) (i a : Nat) : Prop := ∀ j x, L[j]? = some x → ∀ b, b < g.K → (j < i ∨ (j = i ∧ b < a)) → liveP g (g.st x b) → g.st x b ∈ L
theorem BfI.start (hg : g.Ok) (h : liveP g 0) : BfI g [0] := ⟨by simp, fun x hx => by simp at hx; subst hx; exact ⟨hg.pos, .inl rfl, h⟩, rfl⟩
theorem BfC.start (L) : BfC g L 0 0 := fun j x _ b _ h => by omega
theorem BfC.row {L : List Nat} {i : Nat} (h : BfC g L i g.K) : BfC g L (i + 1) 0 := fun j x hx b hb h1 => h j x hx b hb (by omega)
theorem BfC.skip {L : List Nat} {i a x : Nat} (h : BfC g L i a) (hx : L[i]? = some x) (hs : liveP g (g.st x a) → g.st x a ∈ L) : BfC g L i (a + 1) := fun j y hy b hb h1 hl => by
  by_cases e : j = i ∧ b = a
  · obtain ⟨rfl, rfl⟩ := e
    rw [hx] at hy; cases hy
    exact hs hl
  · exact h j y hy b hb (by omega) hl
theorem BfI.put (hg : g.Ok) {L : List Nat} {i a x : Nat} (hi : BfI g L) (hc : BfC g L i a) (hx : L[i]? = some x) (ha : a < g.K) (hl : liveP g (g.st x a)) (hn : g.st x a ∉ L) : BfI g (L ++ [g.st x a]) ∧ BfC g (L ++ [g.st x a]) i (a + 1) := by
  have hil := (List.getElem?_eq_some_iff.1 hx).1
  obtain ⟨h1, h2⟩ := hi.ok x (List.mem_of_getElem? hx)
  refine ⟨⟨List.nodup_append.2 ⟨hi.nd, by simp, fun y hy z hz e => by simp at hz; subst hz; subst e; exact hn hy⟩, fun y hy => ?_, by rw [List.getElem?_append_left (by omega)]; exact hi.z⟩, fun j y hy b hb h3 h4 => ?_⟩
  · rcases List.mem_append.1 hy with hy | hy
    · exact hi.ok y hy
    · simp at hy; subst hy
      exact ⟨hg.stay _ _ h1 ha, h2.1.snoc ⟨h2.2, a, ha, rfl⟩, hl⟩
  · have hjl : j < L.length := by omega
    rw [List.getElem?_append_left hjl] at hy
    by_cases e : j = i ∧ b = a
    · obtain ⟨rfl, rfl⟩ := e
      rw [hx] at hy; cases hy
      simp
    · exact List.mem_append.2 (.inl (hc j y hy b hb (by omega) h4))
theorem BfI.fin {L : List Nat} (hi : BfI g L) (hc : BfC g L L.length 0) {q : Nat} : q ∈ L ↔ S0 g q := by
  constructor
  · exact fun h => (hi.ok q h).2
  · rintro ⟨h1, h2⟩
    have cl : ∀ x, x ∈ L → ∀ y, Ed g x y → liveP g y → y ∈ L := by
      rintro x hx y ⟨_, a, ha, rfl⟩ hl
      obtain ⟨j, hj, e⟩ := List.getElem_of_mem hx
      exact hc j x (by rw [List.getElem?_eq_getElem hj, e]) a ha (.inl hj) hl
    rcases h1 with rfl | h1
    · exact List.mem_of_getElem? hi.z
    · induction h1 with
      | one e => exact cl _ (List.mem_of_getElem? hi.z) _ e h2
      | snoc _ e ih => exact cl _ (ih e.1) _ e h2
theorem s0_dead (h : ¬ liveP g 0) (q : Nat) : ¬ S0 g q := fun ⟨h1, h2⟩ => by
  rcases h1 with rfl | h1
  · exact h h2
  · exact h h1.live

/-! ### What is left when what nobody leads to is taken away -/
structure RmI (g : Gr) (S : List Bool) : Prop where
  len : S.length = g.n
  sub : ∀ q, S[q]? = some true → S0 g q
  rk : ∃ f : Nat → Nat, ∀ y, S0 g y → S[y]? = some false → ∀ x, S0 g x → (∃ a, a < g.K ∧ y = g.st x a) → S[x]? = some false ∧ f y < f x
theorem RmI.start : RmI g (s0L g) := by
  refine ⟨s0L_length, fun q h => ?_, fun _ => 0, fun y hy hf => ?_⟩
  · have hq := (List.getElem?_eq_some_iff.1 h).1
    rw [s0L_length] at hq
    exact (s0L_iff hq).1 h
  · have hq := (List.getElem?_eq_some_iff.1 hf).1
    rw [s0L_length] at hq
    rw [(s0L_iff hq).2 hy] at hf; simp at hf
def EnOk (g : Gr) (S E : List Bool) : Prop := E.length = g.n ∧ ∀ y, y < g.n → (E[y]? = some true ↔ ∃ p, S[p]? = some true ∧ ∃ a, a < g.K ∧ y = g.st p a)
def bAt (L : List Bool) (j : Nat) : Bool := L[j]?.getD false
theorem bAt_iff {L : List Bool} {j : Nat} : bAt L j = true ↔ L[j]? = some true := by
  rw [bAt]; cases h : L[j]? with
  | none => simp
  | some b => simp
def rmL (n : Nat) (S E : List Bool) (q : Nat) : List Bool := (List.range n).map fun j => if j < q then (bAt S j && bAt E j) else bAt S j
def rmC (S E : List Bool) (q : Nat) : Bool := (List.range q).any fun j => bAt S j && !bAt E j
theorem rmL_length (n S E q) : (rmL n S E q).length = n := by simp [rmL]
theorem rmL_get {n S E q j} (h : j < n) : (rmL n S E q)[j]? = some (if j < q then (bAt S j && bAt E j) else bAt S j) := by simp [rmL, h]
theorem rmL_zero {n : Nat} {S : List Bool} (E) (h : S.length = n) : rmL n S E 0 = S := by
  refine List.ext_getElem? fun j => ?_
  by_cases hj : j < n
  · rw [rmL_get hj, if_neg (by omega), bAt, List.getElem?_eq_getElem (by omega)]; rfl
  · rw [List.getElem?_eq_none (by rw [rmL_length]; omega), List.getElem?_eq_none (by omega)]
theorem rmL_set (n S E q) : (rmL n S E q).set q (bAt S q && bAt E q) = rmL n S E (q + 1) := by
  refine List.ext_getElem (by simp [rmL]) fun j h1 h2 => ?_
  simp only [rmL, List.getElem_set, List.getElem_map, List.getElem_range]
  by_cases e : q = j
  · subst e; rw [if_pos rfl, if_pos (Nat.lt_succ_self _)]
  · rw [if_neg e]
    by_cases h : j < q
    · rw [if_pos h, if_pos (by omega)]
    · rw [if_neg h, if_neg (by omega)]
theorem rmL_keep {n S E q} (h : bAt S q = (bAt S q && bAt E q)) : rmL n S E q = rmL n S E (q + 1) := by
  refine List.ext_getElem (by simp [rmL]) fun j h1 h2 => ?_
  simp only [rmL, List.getElem_map, List.getElem_range]
  by_cases e : j = q
  · subst e; rw [if_neg (Nat.lt_irrefl _), if_pos (Nat.lt_succ_self _)]; exact h
  · by_cases h : j < q
    · rw [if_pos h, if_pos (by omega)]
    · rw [if_neg h, if_neg (by omega)]
theorem rmC_succ (S E q) : rmC S E (q + 1) = (rmC S E q || (bAt S q && !bAt E q)) := by simp [rmC, List.range_succ]
theorem rm_same {n : Nat} {S E : List Bool} (hl : S.length = n) (h : rmC S E n = false) : rmL n S E n = S ∧ ∀ q : Nat, S[q]? = some true → E[q]? = some true := by
  have key : ∀ j, j < n → bAt S j = true → bAt E j = true := fun j hj hs => by
    simp only [rmC, List.any_eq_false, List.mem_range] at h
    have := h j hj
    rw [hs] at this
    simpa using this
  constructor
  · refine List.ext_getElem? fun j => ?_
    by_cases hj : j < n
    · rw [rmL_get hj, if_pos hj]
      have hS : S[j]? = some (bAt S j) := by rw [bAt, List.getElem?_eq_getElem (by omega)]; rfl
      rw [hS]
      cases hb : bAt S j with
      | false => rfl
      | true => rw [key j hj hb]; rfl
    · rw [List.getElem?_eq_none (by rw [rmL_length]; omega), List.getElem?_eq_none (by omega)]
  · intro q hq
    have hqn := (List.getElem?_eq_some_iff.1 hq).1
    exact bAt_iff.1 (key q (by omega) (bAt_iff.2 hq))
def truB (L : List Bool) : Nat := (L.filter id).length
theorem truB_lt : ∀ {L L' : List Bool}, L'.length = L.length → (∀ j : Nat, L'[j]? = some true → L[j]? = some true) → (∃ j : Nat, L[j]? = some true ∧ L'[j]? = some false) → truB L' < truB L
  | [], [], _, _, ⟨j, h, _⟩ => by simp at h
  | [], _ :: _, h, _, _ => by simp at h
  | _ :: _, [], h, _, _ => by simp at h
  | b :: L, c :: L', hl, hs, ⟨j, h1, h2⟩ => by
    have hs' : ∀ j : Nat, L'[j]? = some true → L[j]? = some true := fun j h => by simpa using hs (j + 1) (by simpa using h)
    have hle : truB L' ≤ truB L := by
      clear h1 h2 hs
      have hl : L'.length = L.length := by simpa using hl
      induction L generalizing L' with
      | nil => cases L' with
        | nil => exact Nat.le_refl _
        | cons _ _ => simp at hl
      | cons b L ih => cases L' with
        | nil => simp at hl
        | cons c L' =>
          have := ih (L' := L') (by simp; simpa using hl) (fun j h => by simpa using hs' (j + 1) (by simpa using h)) (by simpa using hl)
          have h0 := hs' 0
          simp only [List.getElem?_cons_zero, Option.some.injEq] at h0
          simp only [truB, List.filter_cons, id] at this ⊢
          cases c with
          | true => rw [h0 rfl]; simpa using this
          | false => cases b <;> simp <;> omega
    have h0 := hs 0
    simp only [List.getElem?_cons_zero, Option.some.injEq] at h0
    cases j with
    | zero =>
      simp at h1 h2; subst h1; subst h2
      simp only [truB, List.filter_cons, id] at hle ⊢
      simp; omega
    | succ j =>
      have := truB_lt (L := L) (L' := L') (by simpa using hl) hs' ⟨j, by simpa using h1, by simpa using h2⟩
      simp only [truB, List.filter_cons, id] at this ⊢
      cases c with
      | true => rw [h0 rfl]; simpa using this
      | false => cases b <;> simp <;> omega
theorem rm_less {n : Nat} {S E : List Bool} (hl : S.length = n) (h : rmC S E n = true) : truB (rmL n S E n) < truB S := by
  simp only [rmC, List.any_eq_true, List.mem_range, Bool.and_eq_true, Bool.not_eq_true'] at h
  obtain ⟨j, hj, h1, h2⟩ := h
  refine truB_lt (by rw [rmL_length, hl]) (fun k hk => ?_) ⟨j, bAt_iff.1 h1, ?_⟩
  · have hkn := (List.getElem?_eq_some_iff.1 hk).1
    rw [rmL_length] at hkn
    rw [rmL_get hkn, if_pos hkn] at hk
    simp only [Option.some.injEq, Bool.and_eq_true] at hk
    exact bAt_iff.1 hk.1
  · rw [rmL_get hj, if_pos hj, h2]; simp
theorem RmI.next (hg : g.Ok) {S E : List Bool} (hi : RmI g S) (he : EnOk g S E) : RmI g (rmL g.n S E g.n) := by
  obtain ⟨f, hf⟩ := hi.rk
  have hget : ∀ q, q < g.n → (rmL g.n S E g.n)[q]? = some (bAt S q && bAt E q) := fun q hq => by rw [rmL_get hq, if_pos hq]
  refine ⟨rmL_length _ _ _ _, fun q h => ?_, fun z => if S[z]? = some false then f z + 1 else 0, fun y hy hfy x hx hxy => ?_⟩
  · have hq := (List.getElem?_eq_some_iff.1 h).1
    rw [rmL_length] at hq
    rw [hget q hq] at h
    simp only [Option.some.injEq, Bool.and_eq_true] at h
    exact hi.sub q (bAt_iff.1 h.1)
  · have hyn := (List.getElem?_eq_some_iff.1 hfy).1
    rw [rmL_length] at hyn
    have hrm : ∀ z, z < g.n → S[z]? = some false → (rmL g.n S E g.n)[z]? = some false := fun z hz h => by
      rw [hget z hz, bAt, h]; rfl
    by_cases hSy : S[y]? = some true
    · rw [hget y hyn, bAt_iff.2 hSy, Bool.true_and] at hfy
      have hE : ¬ E[y]? = some true := fun h => by rw [bAt_iff.2 h] at hfy; simp at hfy
      have hSx : S[x]? ≠ some true := fun h => hE ((he.2 y hyn).2 ⟨x, h, hxy⟩)
      obtain ⟨a, ha, e⟩ := hxy
      have hxn : x < g.n := hx.1.lt hg
      have hSxf := bool_not hi.len hxn hSx
      refine ⟨hrm x hxn hSxf, ?_⟩
      show (if S[y]? = some false then f y + 1 else 0) < (if S[x]? = some false then f x + 1 else 0)
      rw [if_neg (by rw [hSy]; simp), if_pos hSxf]; omega
    · have hSyf := bool_not hi.len hyn hSy
      obtain ⟨h1, h2⟩ := hf y hy hSyf x hx hxy
      have hxn := (List.getElem?_eq_some_iff.1 h1).1
      rw [hi.len] at hxn
      refine ⟨hrm x hxn h1, ?_⟩
      show (if S[y]? = some false then f y + 1 else 0) < (if S[x]? = some false then f x + 1 else 0)
      rw [if_pos hSyf, if_pos h1]; omega
/-- What is left tells whether there are finitely many. -/
theorem RmI.fin (hg : g.Ok) {S E : List Bool} (hi : RmI g S) (he : EnOk g S E) (hs : ∀ q : Nat, S[q]? = some true → E[q]? = some true) : finT g = !(S.any id) := by
  cases hb : S.any id with
  | true =>
    have hb : ∃ q : Nat, S[q]? = some true := by
      obtain ⟨x, hx, hxt⟩ := List.any_eq_true.1 hb
      have hxt : x = true := hxt
      subst hxt
      obtain ⟨i, hi, e⟩ := List.getElem_of_mem hx
      exact ⟨i, by rw [List.getElem?_eq_getElem hi, e]⟩
    obtain ⟨q, hq⟩ := hb
    have : ¬ FinP g := fun ⟨r, hr⟩ => by
      have key : ∀ (k q : Nat), S[q]? = some true → sumTo r g.n - r q ≤ k → False := by
        intro k
        induction k with
        | zero =>
          intro q hq hk
          have hqn := (List.getElem?_eq_some_iff.1 hq).1
          rw [hi.len] at hqn
          obtain ⟨p, hp, a, ha, e⟩ := (he.2 q hqn).1 (hs q hq)
          have hpn := (List.getElem?_eq_some_iff.1 hp).1
          rw [hi.len] at hpn
          have h1 := hr p (hi.sub p hp).1 q ⟨(hi.sub p hp).2, a, ha, e⟩ (hi.sub q hq).2
          have h2 := sumTo_le (f := r) hpn
          have h3 := sumTo_le (f := r) hqn
          omega
        | succ k ih =>
          intro q hq hk
          have hqn := (List.getElem?_eq_some_iff.1 hq).1
          rw [hi.len] at hqn
          obtain ⟨p, hp, a, ha, e⟩ := (he.2 q hqn).1 (hs q hq)
          have hpn := (List.getElem?_eq_some_iff.1 hp).1
          rw [hi.len] at hpn
          have h1 := hr p (hi.sub p hp).1 q ⟨(hi.sub p hp).2, a, ha, e⟩ (hi.sub q hq).2
          have h2 := sumTo_le (f := r) hpn
          exact ih p hp (by omega)
      exact key _ q hq (Nat.le_refl _)
    cases hf : finT g with
    | false => rfl
    | true => exact absurd ((finT_iff g).1 hf) this
  | false =>
    refine (finT_iff g).2 ?_
    obtain ⟨f, hf⟩ := hi.rk
    refine ⟨f, fun x hx y hy hl => ?_⟩
    have hyr := hx.snoc hy
    have hSy : S[y]? = some false := bool_not hi.len (hyr.lt hg) fun h => by
      have := List.any_eq_false.1 hb true (List.mem_of_getElem? h)
      simp at this
    obtain ⟨h1, a, ha, e⟩ := hy
    exact (hf y ⟨hyr, hl⟩ hSy x ⟨hx, h1⟩ ⟨a, ha, e⟩).2
end

end Tab

/- canon.classes, canon.Classes. -/
namespace Tab
open Go Go.Proofs
set_option maxRecDepth 10000
set_option linter.unusedVariables false
set_option linter.unusedSimpArgs false
set_option linter.unusedSectionVars false

def initF (acc : List Bool) (j : Nat) : Int := if accN acc j then 1 else 0
theorem init_cls0 (acc : List Bool) : (List.range acc.length).map (initF acc) = cls0 acc := by
  refine List.ext_getElem (by simp [cls0]) fun i h1 h2 => ?_
  have hi : i < acc.length := by simpa using h1
  simp [initF, cls0, accN, List.getD_eq_getElem?_getD, hi]
theorem partL_skip {f : Nat → Int} {n a : Nat} (h : f a = 0) : partL f n (a + 1) = partL f n a := by
  rw [partL, partL]
  refine List.map_congr_left fun j _ => ?_
  by_cases e : j = a
  · subst e; simp [h]
  · by_cases h1 : j < a
    · rw [if_pos h1, if_pos (by omega)]
    · rw [if_neg h1, if_neg (by omega)]

theorem canon_classes (d : Den) (hd : DenOk d) (hr : rightS d = true) : Pure Try.prog 113 [aDen d] (aIs .any (clsD d)) := by
  have h2 := hd.accept
  have h256 := (tracksS_parts (rightS_parts hr).1).2.2.2
  refine Pure.of_sw 38 Try.func113 rfl Try.ntmps113 (by kernel_rfl) (Nat.le_of_ble_eq_true (by kernel_rfl)) (by simp [closeds, AV.closed, aSs_closed, aIs_closed, aBs_closed, aRs_closed, aDen_closed]) (by simp [AV.closed, closeds, aSs_closed, aIs_closed, aBs_closed, aRs_closed, aDen_closed]) ?_; refine SW.of_vc ?_
  repeat first | refine opsStep ?_ | refine codeStep ?_ | refine drawStep ?_
  refine guardE_of ⟨by omega, by omega, by show (8 : Int) * (d.accept.length : Int) ≤ 281474976710656; omega, by omega⟩ ?_
  repeat first | refine opsStep ?_ | refine codeStep ?_ | refine drawStep ?_
  refine loopE_of (ι := {q : Nat // q ≤ d.accept.length})
    (fun q => (fr [(1, .ref 0 0 0), (3, .hs 1 0 0 d.accept.length 1), (14, aBs d.ak d.accept), (15, .int .i64 d.accept.length), (16, .int .i64 q.1)], [Blk.cells 0 d.cells, Blk.cells 0 ((partL (initF d.accept) d.accept.length (q.1)).map (.int .i64))]))
    (fun q => d.accept.length - q.1) ⟨0, by omega⟩ (Ent.fr' ⟨(by kernel_rfl), (by kernel_rfl), (by kernel_rfl), (by kernel_rfl), (by kernel_rfl), trivial⟩ ?_) ?_
  · refine Eq.trans (b := [Blk.cells 0 d.cells, Blk.cells 0 (reps [.int .i64 0] d.accept.length)]) (by kernel_rfl) ?_
    rw [reps_one, partL_zero]; simp
  rintro ⟨q, hq⟩
  have hpl := partL_length (initF d.accept) d.accept.length q
  repeat first | refine opsStep ?_ | refine codeStep ?_ | refine drawStep ?_
  refine decB_dec (fun h => ?_) (fun h => ?_)
  · have hqn : q < d.accept.length := by have := h; simp at this; omega
    have ha : accN d.accept q = d.accept[q] := by simp [accN, List.getD_eq_getElem?_getD, hqn]
    repeat first | refine opsStep ?_ | refine codeStep ?_ | refine drawStep ?_
    refine guardE_of (by simp; omega) ?_
    repeat first | refine opsStep ?_ | refine codeStep ?_ | refine drawStep ?_
    refine optE_of (c := .bool d.accept[q]) (by simp [Value.cells, hqn]) ?_
    repeat first | refine opsStep ?_ | refine codeStep ?_ | refine drawStep ?_
    refine decB_split (fun h => ?_) (fun h => ?_)
    · repeat first | refine opsStep ?_ | refine codeStep ?_ | refine drawStep ?_
      refine guardE_of (by simp; omega) ?_
      repeat first | refine opsStep ?_ | refine codeStep ?_ | refine drawStep ?_
      refine guardE_of ⟨rfl, by decide, by show 0 + q * 1 + 1 ≤ ((partL (initF d.accept) d.accept.length q).map (AV.int .i64)).length; rw [List.length_map, hpl]; omega⟩ ?_
      repeat first | refine opsStep ?_ | refine codeStep ?_ | refine drawStep ?_
      refine ⟨⟨q + 1, by omega⟩, (by show d.accept.length - (q + 1) < d.accept.length - q; omega), Ent.fr' ⟨(by kernel_rfl), (by kernel_rfl), (by kernel_rfl), (by kernel_rfl), inc_slot (i := q) (by omega), trivial⟩ ?_⟩
      refine Eq.trans (b := [Blk.cells 0 d.cells, Blk.cells 0 (over ((partL (initF d.accept) d.accept.length q).map (AV.int .i64)) (0 + q * 1) [.int .i64 1])]) (by kernel_rfl) ?_
      rw [Nat.zero_add, Nat.mul_one, over_one (by rw [List.length_map, hpl]; omega)]
      show _ = [Blk.cells 0 d.cells, Blk.cells 0 ((partL (initF d.accept) d.accept.length (q + 1)).map (.int .i64))]
      rw [← partL_step, List.map_set, show initF d.accept q = 1 by rw [initF, ha, h]; rfl]
    · repeat first | refine opsStep ?_ | refine codeStep ?_ | refine drawStep ?_
      refine ⟨⟨q + 1, by omega⟩, (by show d.accept.length - (q + 1) < d.accept.length - q; omega), Ent.fr' ⟨(by kernel_rfl), (by kernel_rfl), (by kernel_rfl), (by kernel_rfl), inc_slot (i := q) (by omega), trivial⟩ ?_⟩
      refine Eq.trans (b := [Blk.cells 0 d.cells, Blk.cells 0 ((partL (initF d.accept) d.accept.length (q)).map (.int .i64))]) (by kernel_rfl) ?_
      show _ = [Blk.cells 0 d.cells, Blk.cells 0 ((partL (initF d.accept) d.accept.length (q + 1)).map (.int .i64))]
      rw [partL_skip (by rw [initF, ha, h]; rfl)]
  · have hqn : q = d.accept.length := by have := h; simp at this; omega
    subst hqn
    refine VCode.ent (Ent.freezeLast (l := [(1, .ref 0 0 0), (3, .hs 1 0 0 d.accept.length 1)]) (l' := [(1, .ref 0 0 0), (3, .sl .any d.accept.length ((partL (initF d.accept) d.accept.length d.accept.length).map (.int .i64)))])
      (cs := (partL (initF d.accept) d.accept.length d.accept.length).map (.int .i64)) (g := 0) (n := d.accept.length) (es := 1) [.cells 0 d.cells] 3 ⟨(by kernel_rfl), (by kernel_rfl), trivial⟩ (by kernel_rfl) (by kernel_rfl) (by kernel_rfl) (by rw [List.length_map, hpl, Nat.mul_one]) (Nat.zero_le _) ⟨(by kernel_rfl), (by kernel_rfl), trivial⟩ (by first | (simp [frBel, blksBel, Blk.bel, AV.bel, bels, bels_append, bels_map, aSs_bel, aIs_bel, aBs_bel, aRs_bel, aDen_bel, cells_bel]; done) | (simp only [List.drop_zero, ← List.map_take, ← List.map_drop, List.map_map, frBel, blksBel, Blk.bel, AV.bel, bels, bels_append, bels_map, aSs_bel, aIs_bel, aBs_bel, aRs_bel, aDen_bel, cells_bel]; simp [AV.bel, aSs_bel, aIs_bel, aBs_bel, aRs_bel, aDen_bel, cells_bel])) (by first | (simp [frBel, blksBel, Blk.bel, AV.bel, bels, bels_append, bels_map, aSs_bel, aIs_bel, aBs_bel, aRs_bel, aDen_bel, cells_bel]; done) | (simp only [List.drop_zero, ← List.map_take, ← List.map_drop, List.map_map, frBel, blksBel, Blk.bel, AV.bel, bels, bels_append, bels_map, aSs_bel, aIs_bel, aBs_bel, aRs_bel, aDen_bel, cells_bel]; simp [AV.bel, aSs_bel, aIs_bel, aBs_bel, aRs_bel, aDen_bel, cells_bel]))) ?_
    have e0 : AV.sl .any d.accept.length ((partL (initF d.accept) d.accept.length d.accept.length).map (.int .i64)) = aIs .any (cls0 d.accept) := by
      rw [partL_full, init_cls0, aIs]; simp [cls0]
    rw [e0]
    repeat first | refine opsStep ?_ | refine codeStep ?_ | refine drawStep ?_
    refine loopE_of (ι := {x : Nat × List Int × Nat // ClsInv d x.2.1 ∧ (x.2.2 = 0 ∨ x.2.2 = disN x.2.1) ∧ d.accept.length + 1 ≤ x.1 + x.2.2 ∧ clsL d.rows x.1 x.2.1 x.2.2 = clsD d})
      (fun x => (fr [(1, .ref 0 0 0), (3, aIs .any x.1.2.1), (6, .int .i64 (x.1.2.2 : Nat))], [.cells 0 d.cells])) (fun x => x.1.1)
      ⟨(d.accept.length + 1, cls0 d.accept, 0), cls0_inv d, .inl rfl, Nat.le_refl _, rfl⟩ (Ent.fr' ⟨(by kernel_rfl), (by kernel_rfl), (by kernel_rfl), trivial⟩ (by kernel_rfl)) ?_
    rintro ⟨⟨f, cls, c⟩, hi, hc, hf, he⟩
    simp only at hi hc hf he
    have hsplit := canon_split .any d hd hr cls hi.len hi.rng
    have hmore := sp_more hr hi
    have hlen := hi.len
    have hdl := dis_le cls
    have hni := sp_inv hr hi
    obtain ⟨f, rfl⟩ : ∃ g, f = g + 1 := ⟨f - 1, by omega⟩
    rw [clsL] at he
    have hdd := (dis_den (spN cls d.rows)).symm
    have hdl2 := dis_le (spN cls d.rows)
    rw [show (metL [] (spN cls d.rows)).length = disN (spN cls d.rows) from rfl] at hsplit
    generalize denL (spN cls d.rows) = nx at *
    generalize disN (spN cls d.rows) = nc at *
    repeat first | refine opsStep ?_ | refine codeStep ?_ | refine drawStep ?_
    refine callP hsplit ?_
    repeat first | refine opsStep ?_ | refine codeStep ?_ | refine drawStep ?_
    refine decB_dec (fun h => ?_) (fun h => ?_)
    · have hcc : nc = c := by have := h; simp at this; omega
      rw [if_pos hcc] at he
      repeat first | refine opsStep ?_ | refine codeStep ?_ | refine drawStep ?_
      exact finV (v' := aIs .any nx) (by kernel_rfl) (by rw [he])
    · have hcc : ¬ nc = c := by have := h; simp at this; omega
      rw [if_neg hcc] at he
      repeat first | refine opsStep ?_ | refine codeStep ?_ | refine drawStep ?_
      exact ⟨⟨(f, nx, nc), hni, .inr hdd, by simp only []; omega, he⟩, Nat.lt_succ_self f, Ent.fr' ⟨(by kernel_rfl), (by kernel_rfl), (by kernel_rfl), trivial⟩ (by kernel_rfl)⟩

/-- Of each state the least one alike. -/
def lstD (d : Den) : List Int := (clsD d).map fun c => ((clsD d).idxOf c : Int)
theorem lstD_length {d : Den} (hr : rightS d = true) : (lstD d).length = d.accept.length := by rw [lstD, List.length_map]; exact (clsD_ner hr).len

theorem canon_Classes (d : Den) (hd : DenOk d) (hr : rightS d = true) : Pure Try.prog 78 [aDen d] (.tup [aIs .any (lstD d), .int .i64 0]) := by
  have hR := table_Right d hd
  rw [rightE_ok hr] at hR
  have hC := canon_classes d hd hr
  have hl := (clsD_ner hr).len
  have h256 := (tracksS_parts (rightS_parts hr).1).2.2.2
  have hix := fun (q : Nat) (hq : q < (clsD d).length) => show (lstD d).getD q 0 = idxI (clsD d) (clsD d)[q] by
    rw [idxI, if_pos (List.idxOf_lt_length_of_mem (List.getElem_mem hq))]
    simp [lstD, List.getD_eq_getElem?_getD, hq]
  have hfull : (List.range (clsD d).length).map (fun j => (lstD d).getD j 0) = lstD d := by
    refine List.ext_getElem (by simp [lstD]) fun i h1 h2 => ?_
    simp [List.getD_eq_getElem?_getD, h2]
  have hidx := fun x => slices_Index_I .any (clsD d) x (by omega)
  generalize clsD d = cls at *
  refine Pure.of_sw 34 Try.func78 rfl Try.ntmps78 (by kernel_rfl) (Nat.le_of_ble_eq_true (by kernel_rfl)) (by simp [closeds, AV.closed, aSs_closed, aIs_closed, aBs_closed, aRs_closed, aDen_closed]) (by simp [AV.closed, closeds, aSs_closed, aIs_closed, aBs_closed, aRs_closed, aDen_closed]) ?_; refine SW.of_vc ?_
  repeat first | refine opsStep ?_ | refine codeStep ?_ | refine drawStep ?_
  refine callP hR ?_
  repeat first | refine opsStep ?_ | refine codeStep ?_ | refine drawStep ?_
  refine callP hC ?_
  repeat first | refine opsStep ?_ | refine codeStep ?_ | refine drawStep ?_
  refine guardE_of ⟨by omega, by omega, by show (8 : Int) * (cls.length : Int) ≤ 281474976710656; omega, by omega⟩ ?_
  repeat first | refine opsStep ?_ | refine codeStep ?_ | refine drawStep ?_
  refine loopE_of (ι := {q : Nat // q ≤ cls.length})
    (fun q => (fr [(5, aIs .any cls), (6, .hs 1 0 0 cls.length 1), (19, aIs .any cls), (20, .int .i64 cls.length), (21, .int .i64 q.1)], [Blk.cells 0 d.cells, Blk.cells 0 ((partL (fun j => (lstD d).getD j 0) cls.length q.1).map (.int .i64))]))
    (fun q => cls.length - q.1) ⟨0, by omega⟩ (Ent.fr' ⟨(by kernel_rfl), (by kernel_rfl), (by kernel_rfl), (by kernel_rfl), (by kernel_rfl), trivial⟩ ?_) ?_
  · refine Eq.trans (b := [Blk.cells 0 d.cells, Blk.cells 0 (reps [.int .i64 0] cls.length)]) (by kernel_rfl) ?_
    rw [reps_one, partL_zero]; simp
  rintro ⟨q, hq⟩
  have hpl := partL_length (fun j => (lstD d).getD j 0) cls.length q
  repeat first | refine opsStep ?_ | refine codeStep ?_ | refine drawStep ?_
  refine decB_dec (fun h => ?_) (fun h => ?_)
  · have hqn : q < cls.length := by have := h; simp at this; omega
    repeat first | refine opsStep ?_ | refine codeStep ?_ | refine drawStep ?_
    refine guardE_of (by simp; omega) ?_
    repeat first | refine opsStep ?_ | refine codeStep ?_ | refine drawStep ?_
    refine optE_of (c := .int .i64 cls[q]) (by simp [Value.cells, hqn]) ?_
    repeat first | refine opsStep ?_ | refine codeStep ?_ | refine drawStep ?_
    refine callP (hidx cls[q]) ?_
    repeat first | refine opsStep ?_ | refine codeStep ?_ | refine drawStep ?_
    refine guardE_of (by simp; omega) ?_
    repeat first | refine opsStep ?_ | refine codeStep ?_ | refine drawStep ?_
    refine guardE_of ⟨rfl, by decide, by show 0 + q * 1 + 1 ≤ ((partL (fun j => (lstD d).getD j 0) cls.length q).map (AV.int .i64)).length; rw [List.length_map, hpl]; omega⟩ ?_
    repeat first | refine opsStep ?_ | refine codeStep ?_ | refine drawStep ?_
    refine ⟨⟨q + 1, by omega⟩, (by show cls.length - (q + 1) < cls.length - q; omega), Ent.fr' ⟨(by kernel_rfl), (by kernel_rfl), (by kernel_rfl), (by kernel_rfl), inc_slot (i := q) (by omega), trivial⟩ ?_⟩
    refine Eq.trans (b := [Blk.cells 0 d.cells, Blk.cells 0 (over ((partL (fun j => (lstD d).getD j 0) cls.length q).map (AV.int .i64)) (0 + q * 1) [.int .i64 (idxI cls cls[q])])]) (by kernel_rfl) ?_
    rw [Nat.zero_add, Nat.mul_one, over_one (by rw [List.length_map, hpl]; omega), ← hix q hqn]
    show _ = [Blk.cells 0 d.cells, Blk.cells 0 ((partL (fun j => (lstD d).getD j 0) cls.length (q + 1)).map (.int .i64))]
    rw [← partL_step, List.map_set]
  · have hqn : q = cls.length := by have := h; simp at this; omega
    subst hqn
    rw [partL_full, hfull] at hpl
    rw [partL_full, hfull]
    repeat first | refine opsStep ?_ | refine codeStep ?_ | refine drawStep ?_
    refine finH (l := [(2, .hs 1 0 0 cls.length 1), (3, .int .i64 0)]) (H₁ := [Blk.cells 0 d.cells, Blk.cells 0 ((lstD d).map (.int .i64))]) ⟨(by kernel_rfl), (by kernel_rfl), trivial⟩ (by kernel_rfl) (Ent.freeze (b := 1) (g := 0) (n := cls.length) (es := 1) (cs := (lstD d).map (.int .i64)) 2 (by kernel_rfl) (by kernel_rfl) (by rw [List.length_map, hpl, Nat.mul_one])) ?_
    refine Eq.trans (b := some (.tup [.sl .any cls.length ((lstD d).map (.int .i64)), .int .i64 0])) (by kernel_rfl) ?_
    rw [aIs, hpl]

theorem canon_Classes_bad (d : Den) (hd : DenOk d) (hr : rightS d = false) : Pure Try.prog 78 [aDen d] (.tup [.sl .nil 0 [], .int .i64 3]) := by
  have hR := table_Right d hd
  rw [rightE_bad hr] at hR
  refine Pure.of_sw 34 Try.func78 rfl Try.ntmps78 (by kernel_rfl) (Nat.le_of_ble_eq_true (by kernel_rfl)) (by simp [closeds, AV.closed, aSs_closed, aIs_closed, aBs_closed, aRs_closed, aDen_closed]) (by simp [AV.closed, closeds, aSs_closed, aIs_closed, aBs_closed, aRs_closed, aDen_closed]) ?_; refine SW.of_vc ?_
  repeat first | refine opsStep ?_ | refine codeStep ?_ | refine drawStep ?_
  refine callP hR ?_
  repeat first | refine opsStep ?_ | refine codeStep ?_ | refine drawStep ?_
  exact finV (v' := .tup [.sl .nil 0 [], .int .i64 3]) (by kernel_rfl) rfl

end Tab
