/- Lemmas for this claim: part 12. No condition. -/
import Derived.Test.YtgadapklmphliaaZ9
import Derived.Test.YtgadapklmphliaaZ10
import Derived.Test.YtgadapklmphliaaZ11
import Derived.DeepKeys4
/- Pairs of numbers as keys. -/
namespace Tab
open Go Go.Proofs
set_option maxRecDepth 10000
set_option linter.unusedVariables false
set_option linter.unusedSimpArgs false
set_option linter.unusedSectionVars false

def pv2 (p : Int × Int) : Value := .agg #[.int .i64 p.1, .int .i64 p.2]
theorem pv2_inj {p q : Int × Int} (h : pv2 p = pv2 q) : p = q := by
  obtain ⟨a, b⟩ := p
  obtain ⟨c, d⟩ := q
  simp only [pv2, Value.agg.injEq, Array.mk.injEq, List.cons.injEq, Value.int.injEq, true_and, and_true] at h
  simp [h.1, h.2]
def ok2 (p : Int × Int) : Prop := (-(2^63) ≤ p.1 ∧ p.1 < 2^63) ∧ (-(2^63) ≤ p.2 ∧ p.2 < 2^63)
theorem lits2 {t : TypeId} (hu : Try.prog.underlying t = some (.array 2 3)) (hc : Try.prog.cellsOf t = 2) {a b : Int} (h : ok2 (a, b)) (n : Nat) : Try.prog.keyLits (n + 2) t [.int .i64 a, .int .i64 b] = some [.int .i64 a, .int .i64 b] := by
  have hi : Try.prog.underlying 3 = some (.int .i64) := (by kernel_rfl)
  have hc1 : Try.prog.cellsOf 3 = 1 := (by kernel_rfl)
  have hw : ∀ x : Int, (-(2^63) ≤ x ∧ x < 2^63) → (Lit.int .i64 x).wf = true := fun x h => by
    simp only [Lit.wf, Bool.and_eq_true, decide_eq_true_eq, show IntKind.i64.min = -9223372036854775808 from rfl, show IntKind.i64.max = 9223372036854775807 from rfl]
    omega
  have e1 : ∀ (n : Nat) (x : Int), (-(2^63) ≤ x ∧ x < 2^63) → Try.prog.keyLits (n + 1) 3 [.int .i64 x] = some [.int .i64 x] := fun n x h => by
    unfold Program.keyLits
    rw [hi]
    exact if_pos ⟨rfl, hw x h⟩
  unfold Program.keyLits
  rw [hu]
  simp only
  rw [if_pos (by rw [hc]; rfl), hc1]
  simp [List.range_succ, e1 n a h.1, e1 n b h.2]
theorem key2 {t : TypeId} (hu : Try.prog.underlying t = some (.array 2 3)) (hc : Try.prog.cellsOf t = 2) (hk : Try.prog.keyType t = true) {p : Int × Int} (h : ok2 p) : ∃ l, keyOf Try.prog t (pv2 p) = some l := by
  obtain ⟨a, b⟩ := p
  unfold keyOf
  rw [hu]
  obtain ⟨n, hn⟩ : ∃ n, Try.prog.types.size = n + 1 := ⟨Try.prog.types.size - 1, by have : 0 < Try.prog.types.size := (Nat.le_of_ble_eq_true (by kernel_rfl)); omega⟩
  refine ⟨.string (keyBytes [.int .i64 a, .int .i64 b]), ?_⟩
  have hf : Value.formed Try.prog t (pv2 (a, b)) = true := by simp only [Value.formed, pv2, hu, hc]; rfl
  show (if (Try.prog.keyType t && Value.formed Try.prog t (pv2 (a, b))) = true then Option.map (fun ls => Lit.string (keyBytes ls)) (Try.prog.keyLits (Try.prog.types.size + 1) t (pv2 (a, b)).cells.toList) else none) = _
  rw [hk, hf]
  rw [if_pos (show (true && true) = true from rfl), hn, show (pv2 (a, b)).cells.toList = [.int .i64 a, .int .i64 b] from rfl, lits2 hu hc h n]
  rfl
theorem eql2 {t : TypeId} (hu : Try.prog.underlying t = some (.array 2 3)) (hc : Try.prog.cellsOf t = 2) (hk : Try.prog.keyTypeAt 2 t = true) (hg : Try.prog.eqGuardType Try.prog.depth t = false) {a b c d : Int} (h1 : ok2 (a, b)) (h2 : ok2 (c, d)) :
    EqlE Try.prog t [.int .i64 a, .int .i64 b] [.int .i64 c, .int .i64 d] (decide ((a, b) = (c, d))) := by
  have hf : ∀ x y : Int, Value.formed Try.prog t (.agg #[.int .i64 x, .int .i64 y]) = true := fun x y => by simp only [Value.formed, hu, hc]; rfl
  refine .mk (xs := [.int .i64 a, .int .i64 b]) (ys := [.int .i64 c, .int .i64 d]) (la := [.int .i64 a, .int .i64 b]) (lb := [.int .i64 c, .int .i64 d]) (D := 0 + 2) (D' := 0 + 2) (m := 2) ?_ rfl rfl (lits2 hu hc h1 0) (lits2 hu hc h2 0) hk (by decide) (hf a b) (hf c d) hg
  rw [decide_eq_true_eq]
  simp

theorem keyed2 : Maps.Keyed Try.prog 151 := Maps.Keyed.of_law (deep_law_laid ((by kernel_rfl) : laidOutB Try.prog = true) (m := 2) (by decide) (of_decide_eq_true (by kernel_rfl)) (by kernel_rfl) (by kernel_rfl))

end Tab

/- Pairs of numbers, numbered as they are met. -/
namespace Tab
open Go Go.Proofs
set_option maxRecDepth 10000
set_option linter.unusedVariables false
set_option linter.unusedSimpArgs false
set_option linter.unusedSectionVars false

theorem mapPI : NumMap Try.prog 211 151 3 where
  map := (by kernel_rfl)
  law := Maps.Keyed.of_law (deep_law_laid ((by kernel_rfl) : laidOutB Try.prog = true) (m := 2) (by decide) (of_decide_eq_true (by kernel_rfl)) (by kernel_rfl) (by kernel_rfl))
  zero := mapII.zero
theorem keyP {p : Int × Int} (h : ok2 p) : ∃ l, keyOf Try.prog 151 (pv2 p) = some l := by
  have hu : Try.prog.underlying 151 = some (.array 2 3) := (by kernel_rfl)
  obtain ⟨a, b⟩ := p
  unfold keyOf
  rw [hu]
  have hi : Try.prog.underlying 3 = some (.int .i64) := (by kernel_rfl)
  have hc : Try.prog.cellsOf 151 = 2 := (by kernel_rfl)
  have hc1 : Try.prog.cellsOf 3 = 1 := (by kernel_rfl)
  have hw : ∀ x : Int, (-(2^63) ≤ x ∧ x < 2^63) → (Lit.int .i64 x).wf = true := fun x h => by
    simp only [Lit.wf, Bool.and_eq_true, decide_eq_true_eq, show IntKind.i64.min = -9223372036854775808 from rfl, show IntKind.i64.max = 9223372036854775807 from rfl]
    omega
  have e1 : ∀ (n : Nat) (x : Int), (-(2^63) ≤ x ∧ x < 2^63) → Try.prog.keyLits (n + 1) 3 [.int .i64 x] = some [.int .i64 x] := fun n x h => by
    unfold Program.keyLits
    rw [hi]
    exact if_pos ⟨rfl, hw x h⟩
  have e2 : ∀ n : Nat, Try.prog.keyLits (n + 2) 151 [.int .i64 a, .int .i64 b] = some [.int .i64 a, .int .i64 b] := fun n => by
    unfold Program.keyLits
    rw [hu]
    simp only
    rw [if_pos (by rw [hc]; rfl), hc1]
    simp [List.range_succ, e1 n a h.1, e1 n b h.2]
  obtain ⟨n, hn⟩ : ∃ n, Try.prog.types.size = n + 1 := ⟨Try.prog.types.size - 1, by have : 0 < Try.prog.types.size := (Nat.le_of_ble_eq_true (by kernel_rfl)); omega⟩
  refine ⟨.string (keyBytes [.int .i64 a, .int .i64 b]), ?_⟩
  show (if (Try.prog.keyType 151 && Value.formed Try.prog 151 (pv2 (a, b))) = true then Option.map (fun ls => Lit.string (keyBytes ls)) (Try.prog.keyLits (Try.prog.types.size + 1) 151 (pv2 (a, b)).cells.toList) else none) = _
  rw [if_pos (by kernel_rfl), hn]
  rw [show (pv2 (a, b)).cells.toList = [.int .i64 a, .int .i64 b] from rfl, e2 n]
  rfl

/-- What the closure answers: the number of a pair; and the pairs that are met then. -/
def met2 (L : List (Int × Int)) (p : Int × Int) : List (Int × Int) := if p ∈ L then L else L ++ [p]
theorem canon_split1 (a b : Int) (L : List (Int × Int)) (d : Den) (x3 : List Int) (hL : L.Nodup) (hl : L.length < 2^40) (hok : ∀ p ∈ L, ok2 p) (hp : ok2 (a, b)) :
    ACall Try.prog 168 [.int .i64 a, .int .i64 b, .ref 2 0 0] [.cells 0 d.cells, .dict (dI (L.map pv2)), .cells 0 [.mp 1], .cells 0 (x3.map (.int .i64))]
      fun o H' => o = .ret (.int .i64 ((met2 L (a, b)).idxOf (a, b) : Nat)) ∧ H' = [.cells 0 d.cells, .dict (dI ((met2 L (a, b)).map pv2)), .cells 0 [.mp 1], .cells 0 (x3.map (.int .i64))] := by
  have hn2 : (L.map pv2).Nodup := List.Pairwise.map _ (fun p q h e => h (pv2_inj e)) hL
  have hks : ∀ x ∈ L.map pv2, ∃ q, keyOf Try.prog 151 x = some q := fun x hx => by
    obtain ⟨y, hy, rfl⟩ := List.mem_map.1 hx
    exact keyP (hok y hy)
  obtain ⟨lx, hlx⟩ := keyP hp
  refine ACall.of_sw 26 Try.func168 rfl Try.ntmps168 (by kernel_rfl) (Nat.le_of_ble_eq_true (by kernel_rfl)) ?_; refine SW.of_vc ?_
  repeat first | refine opsStep ?_ | refine codeStep ?_ | refine drawStep ?_
  refine look_num mapPI (kv := pv2 (a, b)) (by kernel_rfl) hlx hn2 hks (fun p hp => ?_) (fun hp => ?_)
  · obtain ⟨q, hq, hqe⟩ : ∃ q, L[p]? = some q ∧ pv2 q = pv2 (a, b) := by
      rw [List.getElem?_map, Option.map_eq_some_iff] at hp; exact hp
    have hqe := pv2_inj hqe
    subst hqe
    have hm := List.mem_of_getElem? hq
    have hix : L.idxOf (a, b) = p := by
      obtain ⟨k1, e1⟩ := List.getElem?_eq_some_iff.1 hq
      have hlt := List.idxOf_lt_length_of_mem hm
      have e2 := List.getElem_idxOf hlt
      rcases Nat.lt_trichotomy (L.idxOf (a, b)) p with k | k | k
      · exact absurd (e2.trans e1.symm) (List.pairwise_iff_getElem.1 hL _ _ hlt k1 k)
      · exact k
      · exact absurd (e1.trans e2.symm) (List.pairwise_iff_getElem.1 hL _ _ k1 hlt k)
    repeat first | refine opsStep ?_ | refine codeStep ?_ | refine drawStep ?_
    refine finR (l := [(5, .int .i64 (p : Nat))]) (v := .int .i64 (p : Nat)) (H₁ := [.cells 0 d.cells, .dict (dI (L.map pv2)), .cells 0 [.mp 1], .cells 0 (x3.map (.int .i64))] ++ [.cells 0 [.int .i64 a, .int .i64 b]]) ⟨(by kernel_rfl), trivial⟩ (by kernel_rfl) (Ent.drop (Nat.le_of_ble_eq_true (by kernel_rfl)) (by first | (simp [frBel, blksBel, Blk.bel, AV.bel, bels, bels_append, bels_map, aSs_bel, aIs_bel, aBs_bel, aRs_bel, aDen_bel, cells_bel]; done) | (simp only [List.drop_zero, ← List.map_take, ← List.map_drop, List.map_map, frBel, blksBel, Blk.bel, AV.bel, bels, bels_append, bels_map, aSs_bel, aIs_bel, aBs_bel, aRs_bel, aDen_bel, cells_bel]; simp [AV.bel, aSs_bel, aIs_bel, aBs_bel, aRs_bel, aDen_bel, cells_bel])) (by first | (simp [frBel, blksBel, Blk.bel, AV.bel, bels, bels_append, bels_map, aSs_bel, aIs_bel, aBs_bel, aRs_bel, aDen_bel, cells_bel]; done) | (simp only [List.drop_zero, ← List.map_take, ← List.map_drop, List.map_map, frBel, blksBel, Blk.bel, AV.bel, bels, bels_append, bels_map, aSs_bel, aIs_bel, aBs_bel, aRs_bel, aDen_bel, cells_bel]; simp [AV.bel, aSs_bel, aIs_bel, aBs_bel, aRs_bel, aDen_bel, cells_bel]))) (by kernel_rfl) ?_
    rw [met2, if_pos hm, hix]
    exact ⟨rfl, rfl⟩
  · have hm : (a, b) ∉ L := fun h => hp (List.mem_map.2 ⟨_, h, rfl⟩)
    repeat first | refine opsStep ?_ | refine codeStep ?_ | refine drawStep ?_
    refine put_num mapPI (kv := pv2 (a, b)) (n := (dI (L.map pv2)).length) (by kernel_rfl) hlx hks hp (dI_length _) ?_
    repeat first | refine opsStep ?_ | refine codeStep ?_ | refine drawStep ?_
    refine finR (l := [(5, .int .i64 ((dI (L.map pv2)).length : Nat))]) (v := .int .i64 ((dI (L.map pv2)).length : Nat)) (H₁ := [.cells 0 d.cells, .dict (dI (L.map pv2 ++ [pv2 (a, b)])), .cells 0 [.mp 1], .cells 0 (x3.map (.int .i64))] ++ [.cells 0 [.int .i64 a, .int .i64 b]]) ⟨(by kernel_rfl), trivial⟩ (by kernel_rfl) (Ent.drop (Nat.le_of_ble_eq_true (by kernel_rfl)) (by first | (simp [frBel, blksBel, Blk.bel, AV.bel, bels, bels_append, bels_map, aSs_bel, aIs_bel, aBs_bel, aRs_bel, aDen_bel, cells_bel]; done) | (simp only [List.drop_zero, ← List.map_take, ← List.map_drop, List.map_map, frBel, blksBel, Blk.bel, AV.bel, bels, bels_append, bels_map, aSs_bel, aIs_bel, aBs_bel, aRs_bel, aDen_bel, cells_bel]; simp [AV.bel, aSs_bel, aIs_bel, aBs_bel, aRs_bel, aDen_bel, cells_bel])) (by first | (simp [frBel, blksBel, Blk.bel, AV.bel, bels, bels_append, bels_map, aSs_bel, aIs_bel, aBs_bel, aRs_bel, aDen_bel, cells_bel]; done) | (simp only [List.drop_zero, ← List.map_take, ← List.map_drop, List.map_map, frBel, blksBel, Blk.bel, AV.bel, bels, bels_append, bels_map, aSs_bel, aIs_bel, aBs_bel, aRs_bel, aDen_bel, cells_bel]; simp [AV.bel, aSs_bel, aIs_bel, aBs_bel, aRs_bel, aDen_bel, cells_bel]))) (by kernel_rfl) ?_
    rw [met2, if_neg hm, dI_length, List.length_map, List.idxOf_append, if_neg hm, List.map_append]
    exact ⟨by simp, rfl⟩

end Tab

/- The states told apart once more. -/
namespace Tab
open Go Go.Proofs
set_option maxRecDepth 10000
set_option linter.unusedVariables false
set_option linter.unusedSimpArgs false
set_option linter.unusedSectionVars false

/-- A row: the pairs met and the number, ahead of the letter a. -/
def rowN (cls : List Int) (r : List Int) (L : List (Int × Int)) (n : Nat) : Nat → List (Int × Int) × Nat
  | 0 => (L, n)
  | a + 1 =>
    let x := rowN cls r L n a
    let p : Int × Int := ((x.2 : Int) * (r.length + 1) + a, cls.getD (r.getD a 0).toNat 0)
    (met2 x.1 p, (met2 x.1 p).idxOf p)
theorem met2_length (L p) : (met2 L p).length ≤ L.length + 1 := by rw [met2]; split <;> simp
theorem met2_mem (L p) : p ∈ met2 L p := by rw [met2]; split <;> simp_all
theorem met2_idx (L p) : (met2 L p).idxOf p ≤ L.length := by
  have := List.idxOf_lt_length_of_mem (met2_mem L p)
  have := met2_length L p
  omega
theorem rowN_bound (cls r L) (n : Nat) : ∀ a, (rowN cls r L n a).1.length ≤ L.length + a ∧ (rowN cls r L n a).2 ≤ max n (L.length + a)
  | 0 => ⟨Nat.le_refl _, Nat.le_max_left _ _⟩
  | a + 1 => by
    obtain ⟨h1, h2⟩ := rowN_bound cls r L n a
    simp only [rowN]
    have := met2_length (rowN cls r L n a).1 (((rowN cls r L n a).2 : Int) * (r.length + 1) + a, cls.getD (r.getD a 0).toNat 0)
    have := met2_idx (rowN cls r L n a).1 (((rowN cls r L n a).2 : Int) * (r.length + 1) + a, cls.getD (r.getD a 0).toNat 0)
    constructor <;> omega
theorem met2_nodup {L p} (h : List.Nodup L) : (met2 L p).Nodup := by
  rw [met2]
  split
  · exact h
  · rename_i hx
    exact List.nodup_append.2 ⟨h, by simp, by intro a ha b hb e; simp only [List.mem_singleton] at hb; subst hb; subst e; exact hx ha⟩
theorem rowN_nodup (cls r L) (n : Nat) (h : List.Nodup L) : ∀ a, (rowN cls r L n a).1.Nodup
  | 0 => h
  | a + 1 => by simp only [rowN]; exact met2_nodup (rowN_nodup cls r L n h a)

theorem ok2_mk {a b : Int} (h1 : -(2^63) ≤ a) (h2 : a < 2^63) (h3 : -(2^63) ≤ b) (h4 : b < 2^63) : ok2 (a, b) := ⟨⟨h1, h2⟩, ⟨h3, h4⟩⟩
theorem rowN_ok {cls r : List Int} (hc : ∀ v ∈ cls, 0 ≤ v ∧ v ≤ 300) (hr : r.length ≤ 64) {L : List (Int × Int)} {n : Nat} (hL : ∀ p ∈ L, ok2 p) (hl : L.length ≤ 2^30) (hn : n ≤ 2^30) : ∀ a, a ≤ r.length → ∀ p ∈ (rowN cls r L n a).1, ok2 p
  | 0, _ => hL
  | a + 1, ha => by
    have ih := rowN_ok hc hr hL hl hn a (by omega)
    have hb := (rowN_bound cls r L n a).2
    simp only [rowN]
    intro p hp
    rw [met2] at hp
    have : p ∈ (rowN cls r L n a).1 ∨ p = (((rowN cls r L n a).2 : Int) * (r.length + 1) + a, cls.getD (r.getD a 0).toNat 0) := by
      split at hp
      · exact .inl hp
      · simpa using hp
    rcases this with h | h
    · exact ih p h
    · subst h
      have h2 : ((rowN cls r L n a).2 : Int) * (r.length + 1) ≤ 2^31 * 65 := Int.mul_le_mul (by omega) (by omega) (by omega) (by omega)
      have h3 : 0 ≤ ((rowN cls r L n a).2 : Int) * (r.length + 1) := Int.mul_nonneg (by omega) (by omega)
      refine ok2_mk (by omega) (by omega) ?_ ?_
      all_goals
       simp only [List.getD_eq_getElem?_getD]
       cases e : cls[(r[a]?.getD 0).toNat]? with
       | none => simp
       | some v => have := hc v (List.mem_of_getElem? e); simp only [Option.getD_some]; omega

/-- The pairs met ahead of the row q, and the row's number. -/
def spL (cls : List Int) (rows : List (List Int)) : Nat → List (Int × Int)
  | 0 => []
  | q + 1 => (rowN cls (rows.getD q []) (spL cls rows q) (cls.getD q 0).toNat (rows.getD q []).length).1
def spV (cls : List Int) (rows : List (List Int)) (q : Nat) : Nat := (rowN cls (rows.getD q []) (spL cls rows q) (cls.getD q 0).toNat (rows.getD q []).length).2
def spN (cls : List Int) (rows : List (List Int)) : List Int := (List.range rows.length).map fun q => (spV cls rows q : Int)

theorem cls_le {cls : List Int} (hc : ∀ v ∈ cls, 0 ≤ v ∧ v ≤ 300) (q : Nat) : (cls.getD q 0).toNat ≤ 300 ∧ 0 ≤ cls.getD q 0 := by
  simp only [List.getD_eq_getElem?_getD]
  cases e : cls[q]? with
  | none => simp
  | some v => have := hc v (List.mem_of_getElem? e); simp only [Option.getD_some]; omega
theorem spL_ok {cls : List Int} {rows : List (List Int)} (hc : ∀ v ∈ cls, 0 ≤ v ∧ v ≤ 300) (hr : ∀ r ∈ rows, r.length ≤ 64) : ∀ q, q ≤ rows.length → rows.length ≤ 256 → (spL cls rows q).length ≤ q * 64 ∧ (spL cls rows q).Nodup ∧ ∀ p ∈ spL cls rows q, ok2 p
  | 0, _, _ => ⟨Nat.zero_le _, List.nodup_nil, by simp [spL]⟩
  | q + 1, hq, h256 => by
    obtain ⟨h1, h2, h3⟩ := spL_ok hc hr q (by omega) h256
    have hg : rows.getD q [] ∈ rows := by simp [List.getD_eq_getElem?_getD, show q < rows.length by omega]
    have hrl := hr _ hg
    have hcl := (cls_le hc q).1
    have hb := (rowN_bound cls (rows.getD q []) (spL cls rows q) (cls.getD q 0).toNat (rows.getD q []).length).1
    refine ⟨by rw [spL]; omega, rowN_nodup _ _ _ _ h2 _, ?_⟩
    rw [spL]
    exact rowN_ok hc hrl h3 (by omega) (by omega) _ (Nat.le_refl _)

theorem canon_split (k : SK) (d : Den) (hd : DenOk d) (hr : rightS d = true) (cls : List Int) (hl : cls.length = d.accept.length) (hc : ∀ v ∈ cls, 0 ≤ v ∧ v ≤ 300) :
    Pure Try.prog 146 [aDen d, aIs k cls] (.tup [aIs .any (denL (spN cls d.rows)), .int .i64 ((metL [] (spN cls d.rows)).length : Nat)]) := by
  obtain ⟨g1, g2, g3⟩ := rightS_parts hr
  obtain ⟨j1, j2, j3, j4⟩ := tracksS_parts g1
  have hrl : d.rows.length = cls.length := by simp [Den.rows]; omega
  have hn := hd.next
  have hrow : ∀ r ∈ d.rows, r.length ≤ 64 := fun r h => by rw [rows_len hr r h]; exact by have : 2 ^ d.tracks.length ≤ 2 ^ 6 := Nat.pow_le_pow_right (by omega) j1; omega
  have hsp := fun q (h : q ≤ d.rows.length) => spL_ok hc hrow q h (by omega)
  refine Pure.of_sw 61 Try.func146 rfl Try.ntmps146 (by kernel_rfl) (Nat.le_of_ble_eq_true (by kernel_rfl)) (by simp [closeds, AV.closed, aSs_closed, aIs_closed, aBs_closed, aRs_closed, aDen_closed]) (by simp [AV.closed, closeds, aSs_closed, aIs_closed, aBs_closed, aRs_closed, aDen_closed]) ?_; refine SW.of_vc ?_
  repeat first | refine opsStep ?_ | refine codeStep ?_ | refine drawStep ?_
  refine guardE_of ⟨by omega, by omega, by show (8 : Int) * (cls.length : Int) ≤ 281474976710656; omega, by omega⟩ ?_
  repeat first | refine opsStep ?_ | refine codeStep ?_ | refine drawStep ?_
  refine loopE_of (ι := {q : Nat // q ≤ cls.length})
    (fun q => (fr [(1, aIs k cls), (2, .ref 0 0 0), (7, .fn (.func 168) [] [.ref 2 0 0]), (8, .hs 3 0 0 cls.length 1), (20, aRs d.nk d.next), (21, .int .i64 d.next.length), (22, .int .i64 q.1)], [Blk.cells 0 d.cells, .dict (dI ((spL cls d.rows q.1).map pv2)), .cells 0 [.mp 1], .cells 0 ((partL (fun j => (spV cls d.rows j : Int)) cls.length (q.1)).map (.int .i64))]))
    (fun q => cls.length - q.1) ⟨0, by omega⟩ (Ent.fr' ⟨(by kernel_rfl), (by kernel_rfl), (by kernel_rfl), (by kernel_rfl), (by kernel_rfl), (by kernel_rfl), (by kernel_rfl), trivial⟩ ?_) ?_
  · refine Eq.trans (b := [.cells 0 d.cells, .dict [], .cells 0 [.mp 1], Blk.cells 0 (reps [.int .i64 0] cls.length)]) (by kernel_rfl) ?_
    rw [reps_one, partL_zero]; simp [spL, dI_nil]
  rintro ⟨q, hq⟩
  obtain ⟨m1, m2, m3⟩ := hsp q (by omega)
  have hpl := partL_length (fun j => (spV cls d.rows j : Int)) cls.length q
  repeat first | refine opsStep ?_ | refine codeStep ?_ | refine drawStep ?_
  refine decB_dec (fun h => ?_) (fun h => ?_)
  · have hqn : q < d.next.length := by have := h; simp at this; omega
    have hrw : d.rows.getD q [] = (d.next[q]).2 := by simp [Den.rows, List.getD_eq_getElem?_getD, hqn]
    have hlen := (rowOk_parts (g3 _ (List.getElem_mem hqn))).1
    have hval := (rowOk_parts (g3 _ (List.getElem_mem hqn))).2
    have h64 : (d.next[q]).2.length ≤ 64 := by rw [← hrw]; exact hrow _ (by rw [hrw]; exact List.mem_map.2 ⟨_, List.getElem_mem hqn, rfl⟩)
    have hcq := cls_le hc q
    have e1 : spL cls d.rows (q + 1) = (rowN cls (d.next[q]).2 (spL cls d.rows q) (cls.getD q 0).toNat (d.next[q]).2.length).1 := by rw [spL, hrw]
    have e2 : spV cls d.rows q = (rowN cls (d.next[q]).2 (spL cls d.rows q) (cls.getD q 0).toNat (d.next[q]).2.length).2 := by rw [spV, hrw]
    generalize hLe : spL cls d.rows q = L at *
    repeat first | refine opsStep ?_ | refine codeStep ?_ | refine drawStep ?_
    refine guardE_of (by simp; omega) ?_
    repeat first | refine opsStep ?_ | refine codeStep ?_ | refine drawStep ?_
    refine optE_of (c := aIs (d.next[q]).1 (d.next[q]).2) (by simp [Value.cells, hqn]) ?_
    repeat first | refine opsStep ?_ | refine codeStep ?_ | refine drawStep ?_
    refine guardE_of (by simp; omega) ?_
    repeat first | refine opsStep ?_ | refine codeStep ?_ | refine drawStep ?_
    refine optE_of (c := .int .i64 ((cls.getD q 0).toNat : Nat)) ?_ ?_
    · simp [Value.cells, List.getD_eq_getElem?_getD, show q < cls.length by omega]
      have := hcq.2
      simp [List.getD_eq_getElem?_getD, show q < cls.length by omega] at this
      omega
    repeat first | refine opsStep ?_ | refine codeStep ?_ | refine drawStep ?_
    generalize hre : d.next[q] = r at *
    refine loopE_of (ι := {a : Nat // a ≤ r.2.length})
      (fun a => (fr [(1, aIs k cls), (2, .ref 0 0 0), (7, .fn (.func 168) [] [.ref 2 0 0]), (8, .hs 3 0 0 cls.length 1), (9, .int .i64 q), (10, aIs r.1 r.2), (11, .int .i64 ((rowN cls r.2 L (cls.getD q 0).toNat a.1).2 : Nat)), (20, aRs d.nk d.next), (21, .int .i64 d.next.length), (22, .int .i64 q), (31, aIs r.1 r.2), (32, .int .i64 r.2.length), (33, .int .i64 a.1)], [Blk.cells 0 d.cells, .dict (dI (((rowN cls r.2 L (cls.getD q 0).toNat a.1).1).map pv2)), .cells 0 [.mp 1], .cells 0 ((partL (fun j => (spV cls d.rows j : Int)) cls.length (q)).map (.int .i64))]))
      (fun a => r.2.length - a.1) ⟨0, by omega⟩ (Ent.fr' ⟨(by kernel_rfl), (by kernel_rfl), (by kernel_rfl), (by kernel_rfl), (by kernel_rfl), (by kernel_rfl), (by kernel_rfl), (by kernel_rfl), (by kernel_rfl), (by kernel_rfl), (by kernel_rfl), (by kernel_rfl), (by kernel_rfl), trivial⟩ (by kernel_rfl)) ?_
    rintro ⟨a, ha⟩
    have hb := rowN_bound cls r.2 L (cls.getD q 0).toNat a
    have hnd := rowN_nodup cls r.2 L (cls.getD q 0).toNat m2 a
    have hok := rowN_ok hc h64 m3 (by omega) (by omega) (n := (cls.getD q 0).toNat) a ha
    repeat first | refine opsStep ?_ | refine codeStep ?_ | refine drawStep ?_
    refine decB_dec (fun h => ?_) (fun h => ?_)
    · have hal : a < r.2.length := by have := h; simp at this; omega
      have hv := hval _ (List.getElem_mem hal)
      have e3 : rowN cls r.2 L (cls.getD q 0).toNat (a + 1) = (met2 (rowN cls r.2 L (cls.getD q 0).toNat a).1 (((rowN cls r.2 L (cls.getD q 0).toNat a).2 : Int) * (r.2.length + 1) + a, cls.getD (r.2.getD a 0).toNat 0), (met2 (rowN cls r.2 L (cls.getD q 0).toNat a).1 (((rowN cls r.2 L (cls.getD q 0).toNat a).2 : Int) * (r.2.length + 1) + a, cls.getD (r.2.getD a 0).toNat 0)).idxOf (((rowN cls r.2 L (cls.getD q 0).toNat a).2 : Int) * (r.2.length + 1) + a, cls.getD (r.2.getD a 0).toNat 0)) := rfl
      generalize rowN cls r.2 L (cls.getD q 0).toNat a = x at *
      obtain ⟨xl, xn⟩ := x
      simp only at hb hnd hok e3
      have ga : r.2.getD a 0 = r.2[a] := by simp [List.getD_eq_getElem?_getD, hal]
      rw [ga] at e3
      have hct := cls_le hc (r.2[a]).toNat
      have w1 : IntKind.wrap .i64 ((r.2.length : Int) + 1) = r.2.length + 1 := IntWalk.i64_in _ (by omega)
      have u1 : (xn : Int) * ((r.2.length : Int) + 1) ≤ 2^31 * 65 := Int.mul_le_mul (by omega) (by omega) (by omega) (by omega)
      have u2 : 0 ≤ (xn : Int) * ((r.2.length : Int) + 1) := Int.mul_nonneg (by omega) (by omega)
      have w2 : IntKind.wrap .i64 ((xn : Int) * ((r.2.length : Int) + 1)) = (xn : Int) * (r.2.length + 1) := IntWalk.i64_in _ (by omega)
      have w3 : IntKind.wrap .i64 ((xn : Int) * ((r.2.length : Int) + 1) + (a : Int)) = (xn : Int) * (r.2.length + 1) + a := IntWalk.i64_in _ (by omega)
      have hcall := canon_split1 ((xn : Int) * (r.2.length + 1) + a) (cls.getD (r.2[a]).toNat 0) xl d (partL (fun j => (spV cls d.rows j : Int)) cls.length q) hnd (by omega) hok (ok2_mk (by omega) (by omega) (by omega) (by omega))
      repeat first | refine opsStep ?_ | refine codeStep ?_ | refine drawStep ?_
      refine guardE_of (by simp; omega) ?_
      repeat first | refine opsStep ?_ | refine codeStep ?_ | refine drawStep ?_
      refine optE_of (c := .int .i64 r.2[a]) (by simp [Value.cells, hal]) ?_
      repeat first | refine opsStep ?_ | refine codeStep ?_ | refine drawStep ?_
      refine guardE_of (by omega) ?_
      repeat first | refine opsStep ?_ | refine codeStep ?_ | refine drawStep ?_
      refine optE_of (c := .int .i64 (cls.getD (r.2[a]).toNat 0)) (by simp [Value.cells, List.getD_eq_getElem?_getD, show (r.2[a]).toNat < cls.length by omega]) ?_
      rw [w1, w2, w3]
      repeat first | refine opsStep ?_ | refine codeStep ?_ | refine drawStep ?_
      refine callH hcall ?_
      repeat first | refine opsStep ?_ | refine codeStep ?_ | refine drawStep ?_
      refine ⟨⟨a + 1, by omega⟩, (by show r.2.length - (a + 1) < r.2.length - a; omega), Ent.fr' ⟨(by kernel_rfl), (by kernel_rfl), (by kernel_rfl), (by kernel_rfl), (by kernel_rfl), (by kernel_rfl), ?_, (by kernel_rfl), (by kernel_rfl), (by kernel_rfl), (by kernel_rfl), (by kernel_rfl), inc_slot (i := a) (by omega), trivial⟩ ?_⟩
      · show AV.int .i64 _ = AV.int .i64 ((rowN cls r.2 L (cls.getD q 0).toNat (a + 1)).2 : Nat)
        rw [e3]
      · refine Eq.trans (b := [Blk.cells 0 d.cells, .dict (dI ((met2 xl ((xn : Int) * (r.2.length + 1) + a, cls.getD (r.2[a]).toNat 0)).map pv2)), .cells 0 [.mp 1], .cells 0 ((partL (fun j => (spV cls d.rows j : Int)) cls.length (q)).map (.int .i64))]) (by kernel_rfl) ?_
        show _ = [Blk.cells 0 d.cells, .dict (dI (((rowN cls r.2 L (cls.getD q 0).toNat (a + 1)).1).map pv2)), .cells 0 [.mp 1], .cells 0 ((partL (fun j => (spV cls d.rows j : Int)) cls.length (q)).map (.int .i64))]
        rw [e3]
    · have hal : a = r.2.length := by have := h; simp at this; omega
      subst hal
      rw [← e1, ← e2]
      repeat first | refine opsStep ?_ | refine codeStep ?_ | refine drawStep ?_
      refine guardE_of (by simp; omega) ?_
      repeat first | refine opsStep ?_ | refine codeStep ?_ | refine drawStep ?_
      refine guardE_of ⟨rfl, by decide, by show 0 + q * 1 + 1 ≤ ((partL (fun j => (spV cls d.rows j : Int)) cls.length q).map (AV.int .i64)).length; rw [List.length_map, hpl]; omega⟩ ?_
      repeat first | refine opsStep ?_ | refine codeStep ?_ | refine drawStep ?_
      refine ⟨⟨q + 1, by omega⟩, (by show cls.length - (q + 1) < cls.length - q; omega), Ent.fr' ⟨(by kernel_rfl), (by kernel_rfl), (by kernel_rfl), (by kernel_rfl), (by kernel_rfl), (by kernel_rfl), inc_slot (i := q) (by omega), trivial⟩ ?_⟩
      refine Eq.trans (b := [.cells 0 d.cells, .dict (dI ((spL cls d.rows (q + 1)).map pv2)), .cells 0 [.mp 1], .cells 0 (over ((partL (fun j => (spV cls d.rows j : Int)) cls.length q).map (AV.int .i64)) (0 + q * 1) [.int .i64 (spV cls d.rows q : Nat)])]) (by kernel_rfl) ?_
      rw [Nat.zero_add, Nat.mul_one, over_one (by rw [List.length_map, hpl]; omega)]
      show _ = [Blk.cells 0 d.cells, .dict (dI ((spL cls d.rows (q + 1)).map pv2)), .cells 0 [.mp 1], .cells 0 ((partL (fun j => (spV cls d.rows j : Int)) cls.length (q + 1)).map (.int .i64))]
      rw [← partL_step, List.map_set]
  · have hqn : q = cls.length := by have := h; simp at this; omega
    subst hqn
    have hdn := canon_dense .any (spN cls d.rows) (by simp [spN]; omega) (fun v hv => ?_)
    rotate_left
    · obtain ⟨i, hi, rfl⟩ := List.mem_map.1 hv
      have hi := List.mem_range.1 hi
      have hb := (rowN_bound cls (d.rows.getD i []) (spL cls d.rows i) (cls.getD i 0).toNat (d.rows.getD i []).length).2
      have h64 := hrow _ (show d.rows.getD i [] ∈ d.rows by simp [List.getD_eq_getElem?_getD, hi])
      have := (hsp i (by omega)).1
      have := (cls_le hc i).1
      simp only [spV]
      omega
    have hsl : aIs .any (spN cls d.rows) = .sl .any cls.length ((partL (fun j => (spV cls d.rows j : Int)) cls.length cls.length).map (.int .i64)) := by
      rw [aIs, partL_full, spN, hrl]; simp
    rw [hsl] at hdn
    have hfit : cls.length * 1 = ((partL (fun j => (spV cls d.rows j : Int)) cls.length cls.length).map (AV.int .i64)).length := by rw [List.length_map, partL_length]; omega
    generalize (partL (fun j => (spV cls d.rows j : Int)) cls.length cls.length).map (AV.int .i64) = cs at *
    repeat first | refine opsStep ?_ | refine codeStep ?_ | refine drawStep ?_
    refine callZ 3 (g := 0) (cs := cs) (by kernel_rfl) hdn (.hs (b := 3) (g := 0) (by kernel_rfl) hfit .nil) ?_
    repeat first | refine opsStep ?_ | refine codeStep ?_ | refine drawStep ?_
    exact finV (v' := .tup [aIs .any (denL (spN cls d.rows)), .int .i64 ((metL [] (spN cls d.rows)).length : Nat)]) (by kernel_rfl) rfl

end Tab

/- Which states are alike: the plain law of split and classes. -/
namespace Tab
open Go Go.Proofs
set_option maxRecDepth 10000
set_option linter.unusedVariables false
set_option linter.unusedSimpArgs false
set_option linter.unusedSectionVars false

/-! ### split tells apart -/

theorem met2_prefix (L : List (Int × Int)) (p) : ∃ r, met2 L p = L ++ r := by
  rw [met2]; split
  · exact ⟨[], by simp⟩
  · exact ⟨[p], rfl⟩
theorem rowN_prefix (cls r L) (n : Nat) : ∀ a, ∃ s, (rowN cls r L n a).1 = L ++ s
  | 0 => ⟨[], by simp [rowN]⟩
  | a + 1 => by
    obtain ⟨s, hs⟩ := rowN_prefix cls r L n a
    simp only [rowN]
    obtain ⟨t, ht⟩ := met2_prefix (rowN cls r L n a).1 (((rowN cls r L n a).2 : Int) * (r.length + 1) + a, cls.getD (r.getD a 0).toNat 0)
    exact ⟨s ++ t, by rw [ht, hs, List.append_assoc]⟩
theorem rowN_le (cls r L) (n : Nat) (a : Nat) : ∀ b, ∃ s, (rowN cls r L n (a + b)).1 = (rowN cls r L n a).1 ++ s
  | 0 => ⟨[], by simp⟩
  | b + 1 => by
    obtain ⟨s, hs⟩ := rowN_le cls r L n a b
    rw [← Nat.add_assoc]
    simp only [rowN]
    obtain ⟨t, ht⟩ := met2_prefix (rowN cls r L n (a + b)).1 (((rowN cls r L n (a + b)).2 : Int) * (r.length + 1) + (a + b : Nat), cls.getD (r.getD (a + b) 0).toNat 0)
    exact ⟨s ++ t, by rw [ht, hs, List.append_assoc]⟩
theorem spL_le (cls rows) (q : Nat) : ∀ b, ∃ s, spL cls rows (q + b) = spL cls rows q ++ s
  | 0 => ⟨[], by simp⟩
  | b + 1 => by
    obtain ⟨s, hs⟩ := spL_le cls rows q b
    rw [← Nat.add_assoc, spL]
    obtain ⟨t, ht⟩ := rowN_prefix cls (rows.getD (q + b) []) (spL cls rows (q + b)) (cls.getD (q + b) 0).toNat (rows.getD (q + b) []).length
    exact ⟨s ++ t, by rw [ht, hs, List.append_assoc]⟩

/-- The number of a row ahead of the letter a is the place of its pair among all pairs. -/
theorem rowN_at {cls r L} {n : Nat} {P : List (Int × Int)} {a : Nat} (h : ∃ s, P = (rowN cls r L n (a + 1)).1 ++ s) :
    (((rowN cls r L n a).2 : Int) * (r.length + 1) + a, cls.getD (r.getD a 0).toNat 0) ∈ P ∧ (rowN cls r L n (a + 1)).2 = P.idxOf (((rowN cls r L n a).2 : Int) * (r.length + 1) + a, cls.getD (r.getD a 0).toNat 0) := by
  obtain ⟨s, rfl⟩ := h
  simp only [rowN]
  have hm := met2_mem (rowN cls r L n a).1 (((rowN cls r L n a).2 : Int) * (r.length + 1) + a, cls.getD (r.getD a 0).toNat 0)
  exact ⟨List.mem_append.2 (.inl hm), by rw [List.idxOf_append, if_pos hm]⟩

theorem idx_inj' {α : Type} [BEq α] [LawfulBEq α] {l : List α} {a b : α} (ha : a ∈ l) (hb : b ∈ l) (h : l.idxOf a = l.idxOf b) : a = b := by
  have h1 := List.getElem_idxOf (List.idxOf_lt_length_of_mem ha)
  have h2 := List.getElem_idxOf (List.idxOf_lt_length_of_mem hb)
  rw [← h1, ← h2]
  simp only [h]

theorem rowN_inj {cls r r'} {L L' P : List (Int × Int)} {n n' : Nat} (hk : r.length = r'.length) : ∀ a, (∃ s, P = (rowN cls r L n a).1 ++ s) → (∃ s, P = (rowN cls r' L' n' a).1 ++ s) →
    ((rowN cls r L n a).2 = (rowN cls r' L' n' a).2 ↔ n = n' ∧ ∀ b, b < a → cls.getD (r.getD b 0).toNat 0 = cls.getD (r'.getD b 0).toNat 0)
  | 0, _, _ => by simp [rowN]
  | a + 1, h, h' => by
    obtain ⟨s, hs⟩ := h
    obtain ⟨s', hs'⟩ := h'
    obtain ⟨u, hu⟩ := rowN_le cls r L n a 1
    obtain ⟨u', hu'⟩ := rowN_le cls r' L' n' a 1
    have ih := rowN_inj (P := P) (L := L) (L' := L') (n := n) (n' := n') (cls := cls) hk a ⟨u ++ s, by rw [← List.append_assoc, ← hu]; exact hs⟩ ⟨u' ++ s', by rw [← List.append_assoc, ← hu']; exact hs'⟩
    obtain ⟨m1, e1⟩ := rowN_at (P := P) ⟨s, hs⟩
    obtain ⟨m2, e2⟩ := rowN_at (P := P) ⟨s', hs'⟩
    constructor
    · intro h
      rw [e1, e2] at h
      have he := idx_inj' m1 m2 h
      simp only [Prod.mk.injEq] at he
      rw [hk] at he
      have hx : ((rowN cls r L n a).2 : Int) * (r'.length + 1) = ((rowN cls r' L' n' a).2 : Int) * (r'.length + 1) := by omega
      have hx := Int.eq_of_mul_eq_mul_right (by omega) hx
      obtain ⟨k1, k2⟩ := ih.1 (by omega)
      refine ⟨k1, fun b hb => ?_⟩
      by_cases e : b = a
      · subst e; exact he.2
      · exact k2 b (by omega)
    · rintro ⟨h1, h2⟩
      rw [e1, e2, ih.2 ⟨h1, fun b hb => h2 b (by omega)⟩, h2 a (by omega), hk]

theorem spV_iff {cls : List Int} {rows : List (List Int)} {p q K : Nat} (hp : p < rows.length) (hq : q < rows.length) (hk : ∀ r ∈ rows, r.length = K) (h0 : 0 ≤ cls.getD p 0) (h1 : 0 ≤ cls.getD q 0) :
    spV cls rows p = spV cls rows q ↔ cls.getD p 0 = cls.getD q 0 ∧ ∀ a, a < K → cls.getD (stepN rows p a) 0 = cls.getD (stepN rows q a) 0 := by
  have gp : rows.getD p [] ∈ rows := by simp [List.getD_eq_getElem?_getD, hp]
  have gq : rows.getD q [] ∈ rows := by simp [List.getD_eq_getElem?_getD, hq]
  have kp := hk _ gp
  have kq := hk _ gq
  have pre : ∀ x, x < rows.length → ∃ s, spL cls rows rows.length = (rowN cls (rows.getD x []) (spL cls rows x) (cls.getD x 0).toNat (rows.getD x []).length).1 ++ s := fun x hx => by
    obtain ⟨s, hs⟩ := spL_le cls rows (x + 1) (rows.length - (x + 1))
    rw [show x + 1 + (rows.length - (x + 1)) = rows.length by omega] at hs
    exact ⟨s, by rw [hs, spL]⟩
  have a1 := pre p hp
  have a2 := pre q hq
  rw [kp] at a1
  rw [kq] at a2
  rw [spV, spV, kp, kq, rowN_inj (P := spL cls rows rows.length) (by rw [kp, kq]) K a1 a2]
  simp only [stepN]
  constructor
  · rintro ⟨h, k⟩; exact ⟨by omega, k⟩
  · rintro ⟨h, k⟩; exact ⟨by rw [h], k⟩

theorem denL_length (l) : (denL l).length = l.length := by simp [denL]
theorem denL_iff {l : List Int} {i j : Nat} (hi : i < l.length) (hj : j < l.length) : (denL l).getD i 0 = (denL l).getD j 0 ↔ l.getD i 0 = l.getD j 0 := by
  have hm : ∀ x, x < l.length → l.getD x 0 ∈ metL [] l := fun x hx => (metL_mem _ _ _).2 (.inr (by simp [List.getD_eq_getElem?_getD, hx]))
  have e : ∀ x, x < l.length → (denL l).getD x 0 = ((metL [] l).idxOf (l.getD x 0) : Int) := fun x hx => by
    rw [List.getD_eq_getElem?_getD, denL, List.getElem?_map, List.getElem?_range hx]; rfl
  rw [e i hi, e j hj]
  constructor
  · intro h
    exact idx_inj' (hm i hi) (hm j hj) (by omega)
  · intro h; rw [h]
theorem denL_range {l : List Int} {v : Int} (h : v ∈ denL l) : 0 ≤ v ∧ v < l.length := by
  obtain ⟨i, hi, rfl⟩ := List.mem_map.1 h
  have hi := List.mem_range.1 hi
  have hm : l.getD i 0 ∈ metL [] l := (metL_mem _ _ _).2 (.inr (by simp [List.getD_eq_getElem?_getD, hi]))
  have h1 := List.idxOf_lt_length_of_mem hm
  have h2 := metL_len l []
  simp only [List.length_nil] at h2
  omega

/-! ### How many there are -/

theorem nodup_sub {α : Type} [DecidableEq α] : ∀ {a b : List α}, a.Nodup → (∀ x ∈ a, x ∈ b) → a.length ≤ b.length
  | [], _, _, _ => Nat.zero_le _
  | x :: a, b, hn, h => by
    have hx := h x (by simp)
    obtain ⟨h1, h2⟩ := List.nodup_cons.1 hn
    have := nodup_sub (a := a) (b := b.erase x) h2 fun y hy => (List.mem_erase_of_ne (fun e : y = x => h1 (e ▸ hy))).2 (h y (by simp [hy]))
    rw [List.length_erase_of_mem hx] at this
    have : 0 < b.length := List.length_pos_of_mem hx
    simp only [List.length_cons]
    omega

abbrev disN (l : List Int) : Nat := (metL [] l).length
theorem dis_le (l : List Int) : disN l ≤ l.length := by have := metL_len l []; simpa using this
theorem dis_pos {l : List Int} (h : 0 < l.length) : 0 < disN l := by
  cases l with
  | nil => simp at h
  | cons x l => exact List.length_pos_of_mem ((metL_mem x (x :: l) []).2 (.inr (by simp)))

theorem dis_refine {l m : List Int} (hl : l.length = m.length) (h : ∀ i j, i < l.length → j < l.length → m.getD i 0 = m.getD j 0 → l.getD i 0 = l.getD j 0) :
    disN l ≤ disN m ∧ (disN l = disN m → ∀ i j, i < l.length → j < l.length → l.getD i 0 = l.getD j 0 → m.getD i 0 = m.getD j 0) := by
  let g : Int → Int := fun x => l.getD (m.idxOf x) 0
  have hg : ∀ i, i < l.length → g (m.getD i 0) = l.getD i 0 := fun i hi => by
    have hm : m.getD i 0 ∈ m := by simp [List.getD_eq_getElem?_getD, ← hl, hi]
    have h1 := List.idxOf_lt_length_of_mem hm
    refine h _ _ (by omega) hi ?_
    rw [List.getD_eq_getElem?_getD, List.getElem?_eq_getElem h1, List.getElem_idxOf]; rfl
  have mem : ∀ x, x ∈ metL [] l → ∃ i, i < l.length ∧ l.getD i 0 = x := fun x hx => by
    have := (metL_mem x l []).1 hx
    simp only [List.not_mem_nil, false_or] at this
    obtain ⟨i, hi, rfl⟩ := List.getElem_of_mem this
    exact ⟨i, hi, by simp [List.getD_eq_getElem?_getD, hi]⟩
  have memm : ∀ i, i < l.length → m.getD i 0 ∈ metL [] m := fun i hi => (metL_mem _ _ _).2 (.inr (by simp [List.getD_eq_getElem?_getD, ← hl, hi]))
  have hn := metL_nodup l [] List.nodup_nil
  have hnm := metL_nodup m [] List.nodup_nil
  refine ⟨?_, fun he i j hi hj hij => ?_⟩
  · have := nodup_sub (b := (metL [] m).map g) hn fun x hx => by
      obtain ⟨i, hi, rfl⟩ := mem x hx
      exact List.mem_map.2 ⟨m.getD i 0, memm i hi, hg i hi⟩
    simpa using this
  · refine Classical.byContradiction fun hne => ?_
    have := nodup_sub (b := ((metL [] m).erase (m.getD i 0)).map g) hn fun x hx => by
      obtain ⟨k, hk, rfl⟩ := mem x hx
      by_cases hki : m.getD k 0 = m.getD i 0
      · refine List.mem_map.2 ⟨m.getD j 0, (List.mem_erase_of_ne (fun e => hne e.symm)).2 (memm j hj), ?_⟩
        rw [hg j hj, ← hij, ← hg i hi, ← hki, hg k hk]
      · exact List.mem_map.2 ⟨m.getD k 0, (List.mem_erase_of_ne hki).2 (memm k hk), hg k hk⟩
    rw [List.length_map, List.length_erase_of_mem (memm i hi)] at this
    have hp : 0 < (metL [] m).length := List.length_pos_of_mem (memm i hi)
    simp only [disN] at he
    omega

/-! ### classes -/

/-- States told apart, again and again, until their number stays. -/
def clsL (rows : List (List Int)) : Nat → List Int → Nat → List Int
  | 0, cls, _ => cls
  | f + 1, cls, c => if disN (spN cls rows) = c then denL (spN cls rows) else clsL rows f (denL (spN cls rows)) (disN (spN cls rows))
def cls0 (acc : List Bool) : List Int := acc.map fun b => if b then 1 else 0
def clsD (d : Den) : List Int := clsL d.rows (d.accept.length + 1) (cls0 d.accept) 0

theorem dis_den (l : List Int) : disN (denL l) = disN l := by
  have h := fun i j (hi : i < l.length) (hj : j < l.length) => denL_iff (l := l) hi hj
  have h1 := (dis_refine (l := denL l) (m := l) (denL_length l) fun i j hi hj e => (h i j (by rwa [denL_length] at hi) (by rwa [denL_length] at hj)).2 e).1
  have h2 := (dis_refine (l := l) (m := denL l) (denL_length l).symm fun i j hi hj e => (h i j hi hj).1 e).1
  omega

/-- Letters of a word. -/
abbrev Lets (k : Nat) (w : List Nat) : Prop := ∀ a ∈ w, a < 2 ^ k
def accN (acc : List Bool) (q : Nat) : Bool := acc.getD q false
/-- Are two states alike? -/
def Alike (d : Den) (p q : Nat) : Prop := ∀ w, Lets d.tracks.length w → accN d.accept (runN d.rows p w) = accN d.accept (runN d.rows q w)

structure ClsInv (d : Den) (cls : List Int) : Prop where
  len : cls.length = d.accept.length
  rng : ∀ v ∈ cls, 0 ≤ v ∧ v ≤ 300
  acc : ∀ p q, p < d.accept.length → q < d.accept.length → cls.getD p 0 = cls.getD q 0 → accN d.accept p = accN d.accept q
  apart : ∀ p q, p < d.accept.length → q < d.accept.length → cls.getD p 0 ≠ cls.getD q 0 → ∃ w, Lets d.tracks.length w ∧ accN d.accept (runN d.rows p w) ≠ accN d.accept (runN d.rows q w)

theorem cls_nonneg {d : Den} {cls : List Int} (h : ClsInv d cls) (q : Nat) : 0 ≤ cls.getD q 0 := (cls_le h.rng q).2
theorem rows_length {d : Den} (hr : rightS d = true) : d.rows.length = d.accept.length := by
  obtain ⟨_, h2, _⟩ := rightS_parts hr
  simp [Den.rows, h2]
theorem sp_iff {d : Den} (hr : rightS d = true) {cls : List Int} (h : ClsInv d cls) {p q : Nat} (hp : p < d.accept.length) (hq : q < d.accept.length) :
    (denL (spN cls d.rows)).getD p 0 = (denL (spN cls d.rows)).getD q 0 ↔ cls.getD p 0 = cls.getD q 0 ∧ ∀ a, a < 2 ^ d.tracks.length → cls.getD (stepN d.rows p a) 0 = cls.getD (stepN d.rows q a) 0 := by
  have hl := rows_length hr
  rw [denL_iff (by simp [spN]; omega) (by simp [spN]; omega), ← spV_iff (by omega) (by omega) (rows_len hr) (cls_nonneg h p) (cls_nonneg h q)]
  have e : ∀ x, x < d.accept.length → (spN cls d.rows).getD x 0 = (spV cls d.rows x : Int) := fun x hx => by
    rw [List.getD_eq_getElem?_getD, spN, List.getElem?_map, List.getElem?_range (by omega)]; rfl
  rw [e p hp, e q hq]
  omega
theorem sp_inv {d : Den} (hr : rightS d = true) {cls : List Int} (h : ClsInv d cls) : ClsInv d (denL (spN cls d.rows)) := by
  have hl := rows_length hr
  have h256 := (tracksS_parts (rightS_parts hr).1).2.2.2
  have hsl : (spN cls d.rows).length = d.accept.length := by simp [spN, hl]
  refine ⟨by rw [denL_length, hsl], fun v hv => ?_, fun p q hp hq e => h.acc p q hp hq ((sp_iff hr h hp hq).1 e).1, fun p q hp hq e => ?_⟩
  · have := denL_range hv; omega
  · by_cases hc : cls.getD p 0 = cls.getD q 0
    · have : ¬ ∀ a, a < 2 ^ d.tracks.length → cls.getD (stepN d.rows p a) 0 = cls.getD (stepN d.rows q a) 0 := fun k => e ((sp_iff hr h hp hq).2 ⟨hc, k⟩)
      have : ∃ a, a < 2 ^ d.tracks.length ∧ cls.getD (stepN d.rows p a) 0 ≠ cls.getD (stepN d.rows q a) 0 :=
        Classical.byContradiction fun k => this fun a ha => Classical.byContradiction fun k' => k ⟨a, ha, k'⟩
      obtain ⟨a, ha, hne⟩ := this
      obtain ⟨_, _, _, p1⟩ := stepN_ok hr hp ha
      obtain ⟨_, _, _, q1⟩ := stepN_ok hr hq ha
      obtain ⟨w, hw, hd⟩ := h.apart _ _ p1 q1 hne
      exact ⟨a :: w, fun b hb => by
        rcases List.mem_cons.1 hb with rfl | hb
        · exact ha
        · exact hw b hb, hd⟩
    · exact h.apart p q hp hq hc
theorem sp_more {d : Den} (hr : rightS d = true) {cls : List Int} (h : ClsInv d cls) : disN cls ≤ disN (spN cls d.rows) := by
  have hl := rows_length hr
  have hlen := h.len
  rw [← dis_den (spN cls d.rows)]
  refine (dis_refine (by rw [denL_length]; simp [spN]; omega) fun i j hi hj e => ?_).1
  exact ((sp_iff hr h (by omega) (by omega)).1 e).1
/-- Where their number stays, alike ones share a class, and only they. -/
theorem sp_done {d : Den} (hr : rightS d = true) {cls : List Int} (h : ClsInv d cls) (he : disN (spN cls d.rows) = disN cls) {p q : Nat} (hp : p < d.accept.length) (hq : q < d.accept.length) :
    (denL (spN cls d.rows)).getD p 0 = (denL (spN cls d.rows)).getD q 0 ↔ Alike d p q := by
  have hl := rows_length hr
  have hlen := h.len
  have hb := (dis_refine (l := cls) (m := denL (spN cls d.rows)) (by rw [denL_length]; simp [spN]; omega) fun i j hi hj e => ((sp_iff hr h (by omega) (by omega)).1 e).1).2 (by rw [dis_den]; omega)
  constructor
  · intro e w
    induction w generalizing p q with
    | nil => exact fun _ => h.acc p q hp hq ((sp_iff hr h hp hq).1 e).1
    | cons a w ih =>
      intro hw
      have ha := hw a (by simp)
      obtain ⟨_, _, _, p1⟩ := stepN_ok hr hp ha
      obtain ⟨_, _, _, q1⟩ := stepN_ok hr hq ha
      exact ih p1 q1 (hb _ _ (by omega) (by omega) (((sp_iff hr h hp hq).1 e).2 a ha)) fun b hb => hw b (by simp [hb])
  · intro k
    refine Classical.byContradiction fun hne => ?_
    obtain ⟨w, hw, hd⟩ := (sp_inv hr h).apart p q hp hq hne
    exact hd (k w hw)

theorem cls0_inv (d : Den) : ClsInv d (cls0 d.accept) := by
  have e : ∀ p, p < d.accept.length → (cls0 d.accept).getD p 0 = if accN d.accept p = true then 1 else 0 := fun p hp => by
    simp [cls0, accN, List.getD_eq_getElem?_getD, hp]
  refine ⟨by simp [cls0], fun v hv => ?_, fun p q hp hq h => ?_, fun p q hp hq h => ⟨[], fun a ha => absurd ha (by simp), ?_⟩⟩
  · obtain ⟨b, _, rfl⟩ := List.mem_map.1 hv
    cases b <;> simp
  · rw [e p hp, e q hq] at h
    cases h1 : accN d.accept p <;> cases h2 : accN d.accept q <;> simp_all
  · rw [e p hp, e q hq] at h
    simp only [runN, List.foldl_nil]
    intro k
    rw [k] at h
    exact h rfl

/-- What the classes are: alike states share one, and only they. -/
structure Ner (d : Den) (cls : List Int) : Prop where
  len : cls.length = d.accept.length
  rng : ∀ v ∈ cls, 0 ≤ v ∧ v ≤ 300
  iff : ∀ p q, p < d.accept.length → q < d.accept.length → (cls.getD p 0 = cls.getD q 0 ↔ Alike d p q)

theorem clsL_ner {d : Den} (hr : rightS d = true) : ∀ (f : Nat) (cls : List Int) (c : Nat), ClsInv d cls → (c = 0 ∨ c = disN cls) → d.accept.length + 1 ≤ f + c → Ner d (clsL d.rows f cls c)
  | 0, cls, c, h, hc, hf => by
    have := dis_le cls
    have := h.len
    omega
  | f + 1, cls, c, h, hc, hf => by
    rw [clsL]
    have hl := rows_length hr
    have hpos := right_pos hr
    have hi := sp_inv hr h
    split
    · rename_i he
      have hp : 0 < disN (spN cls d.rows) := dis_pos (by rw [spN, List.length_map, List.length_range]; omega)
      have hc : c = disN cls := by omega
      exact ⟨hi.len, hi.rng, fun p q hp hq => sp_done hr h (by omega) hp hq⟩
    · have := sp_more hr h
      exact clsL_ner hr f _ _ hi (.inr (dis_den _).symm) (by omega)
theorem clsD_ner {d : Den} (hr : rightS d = true) : Ner d (clsD d) := clsL_ner hr _ _ _ (cls0_inv d) (.inl rfl) (Nat.le_refl _)

end Tab

/- Words of a machine counted: plain. -/
namespace Tab
open Go
set_option maxRecDepth 10000
set_option linter.unusedVariables false
set_option linter.unusedSimpArgs false
set_option linter.unusedSectionVars false

def sumTo (f : Nat → Nat) : Nat → Nat
  | 0 => 0
  | k + 1 => sumTo f k + f k
theorem sumTo_congr {f g : Nat → Nat} : ∀ {k}, (∀ a, a < k → f a = g a) → sumTo f k = sumTo g k
  | 0, _ => rfl
  | k + 1, h => by rw [sumTo, sumTo, sumTo_congr fun a ha => h a (by omega), h k (by omega)]
theorem sumTo_pos {f : Nat → Nat} : ∀ {k}, 0 < sumTo f k ↔ ∃ a, a < k ∧ 0 < f a
  | 0 => ⟨fun h => by simp [sumTo] at h, fun ⟨a, h, _⟩ => by omega⟩
  | k + 1 => by
    rw [sumTo]
    constructor
    · intro h
      by_cases h0 : 0 < f k
      · exact ⟨k, by omega, h0⟩
      · obtain ⟨a, h1, h2⟩ := (sumTo_pos (f := f) (k := k)).1 (by omega)
        exact ⟨a, by omega, h2⟩
    · rintro ⟨a, h1, h2⟩
      by_cases e : a = k
      · subst e; omega
      · have := (sumTo_pos (f := f) (k := k)).2 ⟨a, by omega, h2⟩; omega
theorem sumTo_le {f : Nat → Nat} : ∀ {k a}, a < k → f a ≤ sumTo f k
  | 0, a, h => by omega
  | k + 1, a, h => by
    rw [sumTo]
    by_cases e : a = k
    · subst e; omega
    · have := sumTo_le (f := f) (k := k) (a := a) (by omega); omega
theorem sumTo_mono {f : Nat → Nat} {j k : Nat} (h : j ≤ k) : sumTo f j ≤ sumTo f k := by
  induction k with
  | zero => have : j = 0 := by omega
            subst this; exact Nat.le_refl _
  | succ k ih =>
    by_cases e : j = k + 1
    · subst e; exact Nat.le_refl _
    · have := ih (by omega); rw [sumTo]; omega
theorem sumTo_add (f g : Nat → Nat) : ∀ k, sumTo (fun a => f a + g a) k = sumTo f k + sumTo g k
  | 0 => rfl
  | k + 1 => by rw [sumTo, sumTo, sumTo, sumTo_add f g k]; omega
theorem sumTo_zero {f : Nat → Nat} {k : Nat} (h : ∀ a, a < k → f a = 0) : sumTo f k = 0 := by
  rcases Nat.eq_zero_or_pos (sumTo f k) with e | e
  · exact e
  · obtain ⟨a, h1, h2⟩ := sumTo_pos.1 e
    have := h a h1; omega
theorem sumTo_swap (f : Nat → Nat → Nat) (k : Nat) : ∀ j, sumTo (fun a => sumTo (f a) k) j = sumTo (fun b => sumTo (fun a => f a b) j) k
  | 0 => by rw [sumTo, sumTo_zero]; intro a _; rfl
  | j + 1 => by
    rw [sumTo, sumTo_swap f k j, ← sumTo_add]
    exact sumTo_congr fun a _ => rfl
theorem sumTo_head (f : Nat → Nat) : ∀ k, sumTo f (k + 1) = f 0 + sumTo (fun a => f (a + 1)) k
  | 0 => by simp [sumTo]
  | k + 1 => by rw [sumTo, sumTo_head f k, sumTo]; omega
theorem sumTo_stop {f : Nat → Nat} {j k : Nat} (h : j ≤ k) (hz : ∀ a, j ≤ a → f a = 0) : sumTo f k = sumTo f j := by
  induction k with
  | zero => have : j = 0 := by omega
            subst this; rfl
  | succ k ih =>
    by_cases e : j = k + 1
    · subst e; rfl
    · rw [sumTo, ih (by omega), hz k (by omega)]; rfl

structure Gr where
  n : Nat
  K : Nat
  st : Nat → Nat → Nat
  ac : Nat → Bool
structure Gr.Ok (g : Gr) : Prop where
  pos : 0 < g.n
  big : g.n ≤ 256
  let' : g.K ≤ 64
  stay : ∀ q a, q < g.n → a < g.K → g.st q a < g.n

section
variable (g : Gr)
def yesTo (q k : Nat) : Nat := ((List.range k).filter fun a => g.ac (g.st q a)).length
def yesN (q : Nat) : Nat := yesTo g q g.K
theorem yesTo_succ (q k) : yesTo g q (k + 1) = yesTo g q k + (if g.ac (g.st q k) = true then 1 else 0) := by
  rw [yesTo, List.range_succ, List.filter_append, List.length_append]
  cases h : g.ac (g.st q k) with
  | true => simp [h, yesTo]
  | false => simp [h, yesTo]
theorem yesTo_le (q k) : yesTo g q k ≤ k := by
  rw [yesTo]
  exact Nat.le_trans (List.length_filter_le _ _) (by simp)
/-- How many letters, unlike the last one, end a word from here. -/
def endsN (q a : Nat) : Nat := if g.ac (g.st q a) = true then yesN g q - 1 else yesN g q
theorem endsN_le (q a) : endsN g q a ≤ yesN g q := by rw [endsN]; split <;> omega
theorem yes_pos {q a : Nat} (ha : a < g.K) (h : g.ac (g.st q a) = true) : 0 < yesN g q := by
  rw [yesN, yesTo, List.length_pos_iff_exists_mem]
  exact ⟨a, List.mem_filter.2 ⟨List.mem_range.2 ha, h⟩⟩
def wordsN : Nat → Nat → Nat
  | 0, q => sumTo (fun a => endsN g (g.st q a) a) g.K
  | k + 1, q => sumTo (fun a => wordsN k (g.st q a)) g.K
def liveP (q : Nat) : Prop := ∃ k, 0 < wordsN g k q
theorem live_iff (q) : liveP g q ↔ ∃ a, a < g.K ∧ (0 < endsN g (g.st q a) a ∨ liveP g (g.st q a)) := by
  constructor
  · rintro ⟨k, h⟩
    cases k with
    | zero =>
      obtain ⟨a, h1, h2⟩ := sumTo_pos.1 h
      exact ⟨a, h1, .inl h2⟩
    | succ k =>
      obtain ⟨a, h1, h2⟩ := sumTo_pos.1 h
      exact ⟨a, h1, .inr ⟨k, h2⟩⟩
  · rintro ⟨a, h1, h2 | ⟨k, h2⟩⟩
    · exact ⟨0, sumTo_pos.2 ⟨a, h1, h2⟩⟩
    · exact ⟨k + 1, sumTo_pos.2 ⟨a, h1, h2⟩⟩
open Classical in
@[irreducible] noncomputable def liveB (q : Nat) : Bool := decide (liveP g q)
open Classical in
theorem liveB_iff {q} : liveB g q = true ↔ liveP g q := by unfold liveB; exact decide_eq_true_iff
noncomputable def liveL : List Bool := (List.range g.n).map (liveB g)
theorem liveL_length : (liveL g).length = g.n := by simp [liveL]
theorem liveL_get {q} (h : q < g.n) : (liveL g)[q]? = some (liveB g q) := by simp [liveL, h]
def SpSound (L : List Bool) : Prop := L.length = g.n ∧ ∀ q, L[q]? = some true → liveP g q
def SpDone (L : List Bool) (q a : Nat) : Prop := (0 < endsN g (g.st q a) a ∨ L[g.st q a]? = some true) → L[q]? = some true
variable {g}
theorem live_final (hg : g.Ok) {L : List Bool} (h : SpSound g L) (hc : ∀ q a, q < g.n → a < g.K → SpDone g L q a) : L = liveL g := by
  obtain ⟨hl, hs⟩ := h
  have key : ∀ k q, q < g.n → 0 < wordsN g k q → L[q]? = some true := by
    intro k
    induction k with
    | zero =>
      intro q hq h
      obtain ⟨a, h1, h2⟩ := sumTo_pos.1 h
      exact hc q a hq h1 (.inl h2)
    | succ k ih =>
      intro q hq h
      obtain ⟨a, h1, h2⟩ := sumTo_pos.1 h
      exact hc q a hq h1 (.inr (ih _ (hg.stay q a hq h1) h2))
  refine List.ext_getElem? fun q => ?_
  by_cases hq : q < g.n
  · rw [liveL_get g hq]
    cases hb : liveB g q with
    | true =>
      obtain ⟨k, hk⟩ := (liveB_iff g).1 hb
      exact key k q hq hk
    | false =>
      rw [List.getElem?_eq_getElem (by omega)]
      cases hx : L[q]'(by omega) with
      | false => rfl
      | true =>
        have := (liveB_iff g).2 (hs q (by rw [List.getElem?_eq_getElem (by omega), hx]))
        rw [hb] at this; simp at this
  · rw [List.getElem?_eq_none (by omega), List.getElem?_eq_none (by rw [liveL_length]; omega)]
theorem SpSound.set {L : List Bool} (h : SpSound g L) {q a : Nat} (ha : a < g.K) (hx : 0 < endsN g (g.st q a) a ∨ L[g.st q a]? = some true) : SpSound g (L.set q true) := by
  obtain ⟨hl, hs⟩ := h
  refine ⟨by simpa using hl, fun x hx' => ?_⟩
  rw [List.getElem?_set] at hx'
  split at hx'
  · rename_i e
    subst e
    exact (live_iff g q).2 ⟨a, ha, hx.imp id (hs _)⟩
  · exact hs x hx'
def trues (L : List Bool) : Nat := (L.filter id).length
theorem trues_set : ∀ {L : List Bool} {q : Nat}, L[q]? = some false → trues (L.set q true) = trues L + 1
  | [], q, h => by simp at h
  | b :: L, 0, h => by simp at h; subst h; simp [trues]
  | b :: L, q + 1, h => by
    have ih := trues_set (L := L) (q := q) (by simpa using h)
    simp only [trues, List.set_cons_succ] at ih ⊢
    cases b <;> simp [ih]
theorem trues_le (L : List Bool) : trues L ≤ L.length := List.length_filter_le _ _

/-! ### Rings -/
variable (g)
def Ed (x y : Nat) : Prop := liveP g x ∧ ∃ a, a < g.K ∧ y = g.st x a
inductive Pth : Nat → Nat → Prop
  | one {x y} : Ed g x y → Pth x y
  | snoc {x y z} : Pth x y → Ed g y z → Pth x z
def Rch (x : Nat) : Prop := x = 0 ∨ Pth g 0 x
def FinP : Prop := ∃ r : Nat → Nat, ∀ x, Rch g x → ∀ y, Ed g x y → liveP g y → r y < r x
open Classical in
@[irreducible] noncomputable def finT : Bool := decide (FinP g)
open Classical in
theorem finT_iff : finT g = true ↔ FinP g := by unfold finT; exact decide_eq_true_iff
variable {g}
theorem Pth.trans {x y z} (h : Pth g x y) (h' : Pth g y z) : Pth g x z := by
  induction h' with
  | one e => exact .snoc h e
  | snoc _ e ih => exact .snoc ih e
theorem Rch.snoc {x y} (h : Rch g x) (e : Ed g x y) : Rch g y := by
  rcases h with rfl | h
  · exact .inr (.one e)
  · exact .inr (.snoc h e)
theorem Rch.pth {x y} (h : Rch g x) (p : Pth g x y) : Rch g y := by
  rcases h with rfl | h
  · exact .inr p
  · exact .inr (h.trans p)
theorem Pth.live {x y} (h : Pth g x y) : liveP g x := by
  induction h with
  | one e => exact e.1
  | snoc _ _ ih => exact ih
theorem Pth.down {r : Nat → Nat} (hr : ∀ x, Rch g x → ∀ y, Ed g x y → liveP g y → r y < r x) {x y} (hx : Rch g x) (h : Pth g x y) : liveP g y → r y < r x := by
  induction h with
  | one e => exact hr _ hx _ e
  | snoc p e ih =>
    intro hl
    have h1 := ih e.1
    have h2 := hr _ (hx.pth p) _ e hl
    omega
theorem ring_not {x} (hx : Rch g x) (h : Pth g x x) : ¬ FinP g := fun ⟨r, hr⟩ => by
  have := h.down hr hx h.live
  omega
theorem Rch.lt (hg : g.Ok) {x} (h : Rch g x) : x < g.n := by
  rcases h with rfl | h
  · exact hg.pos
  · induction h with
    | one e => obtain ⟨_, a, ha, rfl⟩ := e; exact hg.stay _ _ hg.pos ha
    | snoc _ e ih => obtain ⟨_, a, ha, rfl⟩ := e; exact hg.stay _ _ ih ha

variable (g)
/-- What is done lies on no ring. -/
def DoneI (M : List Nat) : Prop := ∃ r : Nat → Nat, ∀ x : Nat, M[x]? = some 2 → liveP g x ∧ ∀ a, a < g.K → liveP g (g.st x a) → M[g.st x a]? = some 2 ∧ r (g.st x a) < r x
structure RgPre (M : List Nat) (q : Nat) : Prop where
  len : M.length = g.n
  two : ∀ x v : Nat, M[x]? = some v → v ≤ 2
  done : DoneI g M
  on : ∀ x : Nat, M[x]? = some 1 → Rch g x ∧ Pth g x q
  at' : Rch g q
structure RgSame (M M' : List Nat) : Prop where
  len : M'.length = g.n
  two : ∀ x v : Nat, M'[x]? = some v → v ≤ 2
  zero : ∀ x : Nat, M'[x]? = some 0 → M[x]? = some 0
  one : ∀ x : Nat, M'[x]? = some 1 ↔ M[x]? = some 1
  keep : ∀ x : Nat, M[x]? = some 2 → M'[x]? = some 2
  done : DoneI g M'
def RgPost (M : List Nat) (q : Nat) : Bool → List Nat → Prop
  | true, M' => M'.length = g.n ∧ ∃ x, Rch g x ∧ Pth g x x
  | false, M' => RgSame g M M' ∧ (liveP g q → M'[q]? = some 2)
variable {g}
def zeros : List Nat → Nat
  | [] => 0
  | x :: l => (if x = 0 then 1 else 0) + zeros l
theorem zeros_set : ∀ {M : List Nat} {q v : Nat}, M[q]? = some 0 → v ≠ 0 → zeros (M.set q v) + 1 = zeros M
  | [], q, v, h, _ => by simp at h
  | b :: M, 0, v, h, hv => by simp at h; subst h; simp [zeros, hv]; omega
  | b :: M, q + 1, v, h, hv => by
    have ih := zeros_set (M := M) (q := q) (v := v) (by simpa using h) hv
    rw [List.set_cons_succ, zeros, zeros]; omega
theorem zeros_le : ∀ {M M' : List Nat}, M'.length = M.length → (∀ x : Nat, M'[x]? = some 0 → M[x]? = some 0) → zeros M' ≤ zeros M
  | [], [], _, _ => Nat.le_refl _
  | [], _ :: _, h, _ => by simp at h
  | _ :: _, [], h, _ => by simp at h
  | a :: M, b :: M', h, hz => by
    have ih := zeros_le (M := M) (M' := M') (by simpa using h) fun x hx => by simpa using hz (x + 1) (by simpa using hx)
    have h0 := hz 0
    simp only [List.getElem?_cons_zero, Option.some.injEq] at h0
    rw [zeros, zeros]
    by_cases hb : b = 0
    · rw [if_pos hb, if_pos (h0 hb)]; omega
    · rw [if_neg hb]; omega
theorem RgPre.go {M : List Nat} {q a : Nat} (h : RgPre g M q) (hq : q < g.n) (hl : liveP g q) (h0 : M[q]? = some 0) (ha : a < g.K) {M' : List Nat} (hs : RgSame g (M.set q 1) M') : RgPre g M' (g.st q a) := by
  have he : Ed g q (g.st q a) := ⟨hl, a, ha, rfl⟩
  refine ⟨hs.len, hs.two, hs.done, fun x hx => ?_, h.at'.snoc he⟩
  have := (hs.one x).1 hx
  rw [List.getElem?_set] at this
  split at this
  · rename_i e
    subst e
    exact ⟨h.at', .one he⟩
  · obtain ⟨h1, h2⟩ := h.on x this
    exact ⟨h1, .snoc h2 he⟩
theorem RgSame.refl {M : List Nat} (hl : M.length = g.n) (h2 : ∀ x v : Nat, M[x]? = some v → v ≤ 2) (hd : DoneI g M) : RgSame g M M := ⟨hl, h2, fun _ h => h, fun _ => Iff.rfl, fun _ h => h, hd⟩
theorem RgSame.trans {M M' M'' : List Nat} (h : RgSame g M M') (h' : RgSame g M' M'') : RgSame g M M'' := ⟨h'.len, h'.two, fun x hx => h.zero x (h'.zero x hx), fun x => (h'.one x).trans (h.one x), fun x hx => h'.keep x (h.keep x hx), h'.done⟩
theorem RgPre.start {M : List Nat} {q : Nat} (h : RgPre g M q) (h0 : M[q]? = some 0) : RgSame g (M.set q 1) (M.set q 1) := by
  refine RgSame.refl (by simpa using h.len) (fun x v hx => ?_) ?_
  · rw [List.getElem?_set] at hx
    split at hx
    · split at hx
      · simp at hx; omega
      · simp at hx
    · exact h.two x v hx
  · obtain ⟨r, hr⟩ := h.done
    refine ⟨r, fun x hx => ?_⟩
    rw [List.getElem?_set] at hx
    split at hx
    · split at hx
      · simp at hx
      · simp at hx
    · obtain ⟨h1, h2⟩ := hr x hx
      refine ⟨h1, fun a ha hl => ?_⟩
      obtain ⟨h3, h4⟩ := h2 a ha hl
      refine ⟨?_, h4⟩
      rw [List.getElem?_set]
      split
      · rename_i e
        rw [← e, h0] at h3; simp at h3
      · exact h3
theorem RgPre.stop {M : List Nat} {q : Nat} (hg : g.Ok) (h : RgPre g M q) (hq : q < g.n) (hl : liveP g q) (h0 : M[q]? = some 0) {M' : List Nat} (hs : RgSame g (M.set q 1) M') (hd : ∀ a, a < g.K → liveP g (g.st q a) → M'[g.st q a]? = some 2) :
    RgPost g M q false (M'.set q 2) := by
  have hq1 : M'[q]? = some 1 := (hs.one q).2 (by rw [List.getElem?_set, if_pos rfl, if_pos (by rw [h.len]; exact hq)])
  have hql : q < M'.length := by rw [hs.len]; exact hq
  have hne : ∀ x : Nat, M'[x]? = some 2 → q ≠ x := fun x hx e => by rw [← e, hq1] at hx; simp at hx
  refine ⟨⟨by simpa using hs.len, fun x v hx => ?_, fun x hx => ?_, fun x => ?_, fun x hx => ?_, ?_⟩, fun _ => by rw [List.getElem?_set, if_pos rfl, if_pos hql]⟩
  · rw [List.getElem?_set] at hx
    split at hx
    · simp at hx; omega
    · exact hs.two x v hx
  · rw [List.getElem?_set] at hx
    split at hx
    · simp at hx
    · have := hs.zero x hx
      rw [List.getElem?_set] at this
      split at this
      · split at this <;> simp at this
      · exact this
  · rw [List.getElem?_set]
    split
    · rename_i e
      subst e
      rw [h0]; simp
    · rename_i e
      rw [hs.one x, List.getElem?_set, if_neg e]
  · rw [List.getElem?_set]
    split
    · rfl
    · rename_i e
      exact hs.keep x (by rw [List.getElem?_set, if_neg e]; exact hx)
  · obtain ⟨r, hr⟩ := hs.done
    refine ⟨fun x => if x = q then 1 + sumTo r g.n else r x, fun x hx => ?_⟩
    have h2 : ∀ y, M'[y]? = some 2 → (M'.set q 2)[y]? = some 2 := fun y hy => by rw [List.getElem?_set, if_neg (hne y hy)]; exact hy
    by_cases e : q = x
    · subst e
      refine ⟨hl, fun a ha hla => ?_⟩
      have h3 := hd a ha hla
      refine ⟨h2 _ h3, ?_⟩
      have h4 := hne _ h3
      simp only [if_pos, if_neg (Ne.symm h4)]
      have := sumTo_le (f := r) (hg.stay q a hq ha)
      omega
    · rw [List.getElem?_set, if_neg e] at hx
      obtain ⟨k1, k2⟩ := hr x hx
      refine ⟨k1, fun a ha hla => ?_⟩
      obtain ⟨k3, k4⟩ := k2 a ha hla
      refine ⟨h2 _ k3, ?_⟩
      simp only [if_neg (Ne.symm (hne _ k3)), if_neg (Ne.symm e)]
      exact k4
theorem RgPre.ring {M : List Nat} {q : Nat} (h : RgPre g M q) (h1 : M[q]? = some 1) : RgPost g M q true M := ⟨h.len, q, h.on q h1⟩
theorem RgPre.none {M : List Nat} {q : Nat} (h : RgPre g M q) (h1 : liveB g q = false ∨ M[q]? = some 2) : RgPost g M q false M :=
  ⟨.refl h.len h.two h.done, fun hl => by
    rcases h1 with h1 | h1
    · have := (liveB_iff g).2 hl; rw [h1] at this; simp at this
    · exact h1⟩
theorem RgPre.zero (hg : g.Ok) : RgPre g (List.replicate g.n 0) 0 := by
  have hx : ∀ x v : Nat, (List.replicate g.n 0)[x]? = some v → v = 0 := fun x v h => by
    rw [List.getElem?_replicate] at h
    split at h
    · simpa using h.symm
    · simp at h
  refine ⟨by simp, fun x v h => by rw [hx x v h]; omega, ⟨fun _ => 0, fun x h => by have := hx x _ h; omega⟩, fun x h => by have := hx x _ h; omega, .inl rfl⟩
/-- What the walk from the start tells. -/
theorem ring_fin (hg : g.Ok) {b : Bool} {M : List Nat} (h : RgPost g (List.replicate g.n 0) 0 b M) : finT g = !b := by
  cases b with
  | true =>
    obtain ⟨_, x, h1, h2⟩ := h
    have := ring_not h1 h2
    cases hf : finT g with
    | false => rfl
    | true => exact absurd ((finT_iff g).1 hf) this
  | false =>
    obtain ⟨hs, h0⟩ := h
    refine (finT_iff g).2 ?_
    obtain ⟨r, hr⟩ := hs.done
    refine ⟨r, fun x hx y hy hl => ?_⟩
    have key : ∀ x, Rch g x → liveP g x → M[x]? = some 2 := by
      intro x hx
      rcases hx with rfl | hx
      · exact h0
      · induction hx with
        | one e =>
          obtain ⟨e1, a, ha, rfl⟩ := e
          exact fun hl => ((hr _ (h0 e1)).2 a ha hl).1
        | snoc _ e ih =>
          obtain ⟨e1, a, ha, rfl⟩ := e
          exact fun hl => ((hr _ (ih e1)).2 a ha hl).1
    obtain ⟨e1, a, ha, rfl⟩ := hy
    exact ((hr x (key x hx e1)).2 a ha hl).2

/-! ### Sums -/
variable (g)
def beyN (q : Nat) : Nat := sumTo (fun k => wordsN g k q) g.n
def totN : Nat := yesN g 0 + beyN g 0
def uptoN (n : Nat) : Nat := yesN g 0 + sumTo (fun k => wordsN g k 0) (n - 1)
variable {g}
theorem words_zero {q k} (h : ¬ liveP g q) : wordsN g k q = 0 := by
  rcases Nat.eq_zero_or_pos (wordsN g k q) with e | e
  · exact e
  · exact absurd ⟨k, e⟩ h
theorem bey_dead {q} (h : ¬ liveP g q) : beyN g q = 0 := sumTo_zero fun _ _ => words_zero h
def lowC (n : Nat) (r : Nat → Nat) (q : Nat) : Nat := ((List.range n).filter fun x => decide (r x < r q)).length
theorem filter_len_le {l : List Nat} {p q : Nat → Bool} (h : ∀ x, p x = true → q x = true) : (l.filter p).length ≤ (l.filter q).length := by
  induction l with
  | nil => exact Nat.le_refl _
  | cons a l ih =>
    simp only [List.filter_cons]
    cases hp : p a with
    | true => rw [h a hp]; simpa using ih
    | false => cases q a <;> simp <;> omega
theorem filter_len_lt {l : List Nat} {p q : Nat → Bool} (h : ∀ x, p x = true → q x = true) {y : Nat} (hy : y ∈ l) (h1 : p y = false) (h2 : q y = true) : (l.filter p).length < (l.filter q).length := by
  induction l with
  | nil => simp at hy
  | cons a l ih =>
    have hle := filter_len_le (l := l) h
    simp only [List.filter_cons]
    rcases List.mem_cons.1 hy with rfl | hy
    · rw [h1, h2]; simp; omega
    · have := ih hy
      cases hp : p a with
      | true => rw [h a hp]; simpa using this
      | false => cases q a <;> simp <;> omega
theorem words_stop (hg : g.Ok) (hf : FinP g) {q k} (hq : Rch g q) (hk : g.n ≤ k) : wordsN g k q = 0 := by
  obtain ⟨r, hr⟩ := hf
  have key : ∀ k q, Rch g q → 0 < wordsN g k q → k ≤ lowC g.n r q := by
    intro k
    induction k with
    | zero => intro q _ _; omega
    | succ k ih =>
      intro q hq h
      have hl : liveP g q := ⟨_, h⟩
      obtain ⟨a, h1, h2⟩ := sumTo_pos.1 h
      have he : Ed g q (g.st q a) := ⟨hl, a, h1, rfl⟩
      have h3 := ih _ (hq.snoc he) h2
      have h4 := hr q hq _ he ⟨k, h2⟩
      have : lowC g.n r (g.st q a) < lowC g.n r q := filter_len_lt (fun x hx => by simp at hx ⊢; omega) (List.mem_range.2 ((hq.snoc he).lt hg)) (by simp) (by simpa using h4)
      omega
  rcases Nat.eq_zero_or_pos (wordsN g k q) with e | e
  · exact e
  · have h1 := key k q hq e
    have h2 : lowC g.n r q < g.n := by
      have h3 := filter_len_lt (l := List.range g.n) (p := fun x => decide (r x < r q)) (q := fun _ => true) (fun _ _ => rfl) (List.mem_range.2 (hq.lt hg)) (by simp) rfl
      have h4 := List.length_filter_le (fun _ => true) (List.range g.n)
      rw [List.length_range] at h4
      exact Nat.lt_of_lt_of_le h3 h4
    omega
theorem bey_rec (hg : g.Ok) (hf : FinP g) {q} (hq : Rch g q) : beyN g q = sumTo (fun a => endsN g (g.st q a) a + beyN g (g.st q a)) g.K := by
  have h1 : beyN g q = sumTo (fun k => wordsN g k q) (g.n + 1) := by
    rw [beyN, sumTo, words_stop hg hf hq (Nat.le_refl _)]; omega
  rw [h1, sumTo_head, sumTo_add]
  show sumTo _ _ + _ = _
  congr 1
  have := sumTo_swap (fun k a => wordsN g k (g.st q a)) g.K g.n
  exact this
theorem tot_upto (hg : g.Ok) (hf : FinP g) (n : Nat) : uptoN g n ≤ totN g := by
  have : sumTo (fun k => wordsN g k 0) (n - 1) ≤ beyN g 0 := by
    rw [beyN]
    by_cases h : n - 1 ≤ g.n
    · exact sumTo_mono h
    · rw [sumTo_stop (j := g.n) (k := n - 1) (by omega) fun a ha => words_stop hg hf (.inl rfl) ha]
      exact Nat.le_refl _
  rw [uptoN, totN]; omega
theorem tot_eq (hg : g.Ok) (hf : FinP g) {n : Nat} (h : g.n ≤ n - 1) : uptoN g n = totN g := by
  rw [uptoN, totN, beyN, sumTo_stop h fun a ha => words_stop hg hf (.inl rfl) ha]
theorem upto_mono {m n : Nat} (h : m ≤ n) : uptoN g m ≤ uptoN g n := by
  have := sumTo_mono (f := fun k => wordsN g k 0) (show m - 1 ≤ n - 1 by omega)
  rw [uptoN, uptoN]; omega
end

/-- The machine of a table. -/
def grD (d : Den) : Gr := ⟨d.accept.length, 2 ^ d.tracks.length, stepN d.rows, accN d.accept⟩
theorem grD_ok {d : Den} (hd : rightS d = true) : (grD d).Ok := by
  obtain ⟨k6, _, _, d256⟩ := tracksS_parts (rightS_parts hd).1
  have hK : 2 ^ d.tracks.length ≤ 2 ^ 6 := Nat.pow_le_pow_right (by omega) k6
  exact ⟨right_pos hd, by show d.accept.length ≤ 256; omega, by show 2 ^ d.tracks.length ≤ 64; omega, fun q a hq ha => (stepN_ok hd hq ha).2.2.2⟩

end Tab

/- chk.Add, count.sum, count.capped. -/
namespace Tab
open Go Go.Proofs
set_option maxRecDepth 10000
set_option linter.unusedVariables false
set_option linter.unusedSimpArgs false
set_option linter.unusedSectionVars false

def addE (a b : Int) : Int := if -9223372036854775808 ≤ a + b ∧ a + b < 9223372036854775808 then 0 else 10
def addV (a b : Int) : Int := if -9223372036854775808 ≤ a + b ∧ a + b < 9223372036854775808 then a + b else 0
abbrev in63 (a : Int) : Prop := -9223372036854775808 ≤ a ∧ a < 9223372036854775808
theorem add_fit {a b : Int} (h : in63 (a + b)) : addV a b = IntKind.wrap .i64 (a + b) ∧ addE a b = 0 := by
  rw [addV, addE, if_pos h, if_pos h, IntWalk.i64_in _ (by omega)]; exact ⟨rfl, rfl⟩
theorem add_bad {a b : Int} (h : ¬ in63 (a + b)) : addV a b = 0 ∧ addE a b = 10 := by
  rw [addV, addE, if_neg h, if_neg h]; exact ⟨rfl, rfl⟩
theorem add_out {a b : Int} (ha : in63 a) (hb : in63 b) (h : ¬ in63 (a + b)) : ((0 ≤ a) ↔ (0 ≤ b)) ∧ (0 ≤ IntKind.wrap .i64 (a + b) ↔ ¬ 0 ≤ a) := by
  rw [IntKind.wrap_i64]; omega
theorem add_in {a b : Int} (ha : in63 a) (hb : in63 b) (h1 : (0 ≤ a) ↔ (0 ≤ b)) (h : in63 (a + b)) : (0 ≤ IntKind.wrap .i64 (a + b) ↔ 0 ≤ a) := by
  rw [IntWalk.i64_in _ (by omega)]; omega
theorem chk_Add (a b : Int) (ha : in63 a) (hb : in63 b) :
    Pure Try.prog 95 [.int .i64 a, .int .i64 b] (.tup [.int .i64 (addV a b), .int .i64 (addE a b)]) := by
  have hin := add_in ha hb
  have hout := add_out ha hb
  have hfit := add_fit (a := a) (b := b)
  have hbad := add_bad (a := a) (b := b)
  generalize addV a b = v at *
  generalize addE a b = e at *
  refine Pure.of_sw 23 Try.func95 rfl Try.ntmps95 (by kernel_rfl) (Nat.le_of_ble_eq_true (by kernel_rfl)) (by simp [closeds, AV.closed, aSs_closed, aIs_closed, aBs_closed, aRs_closed, aDen_closed]) (by simp [AV.closed, closeds, aSs_closed, aIs_closed, aBs_closed, aRs_closed, aDen_closed]) ?_; refine SW.of_vc ?_
  by_cases h1 : (0 ≤ a) ↔ (0 ≤ b)
  · repeat first | refine opsStep ?_ | refine codeStep ?_ | refine drawStep ?_
    refine decB_true (b := (decide (a ≥ 0) == decide (b ≥ 0))) (by rw [beq_iff_eq]; exact decide_eq_decide.2 h1) ?_
    by_cases h2 : in63 (a + b)
    · have h3 := hin h1 h2
      obtain ⟨rfl, rfl⟩ := hfit h2
      repeat first | refine opsStep ?_ | refine codeStep ?_ | refine drawStep ?_
      refine decB_false (b := !(decide (IntKind.wrap .i64 (a + b) ≥ 0) == decide (a ≥ 0))) (by by_cases h4 : 0 ≤ a <;> simp [h3, h4]) ?_
      repeat first | refine opsStep ?_ | refine codeStep ?_ | refine drawStep ?_
      exact finV (v' := .tup [.int .i64 (IntKind.wrap .i64 (a + b)), .int .i64 0]) (by kernel_rfl) rfl
    · have h3 := (hout h2).2
      obtain ⟨rfl, rfl⟩ := hbad h2
      repeat first | refine opsStep ?_ | refine codeStep ?_ | refine drawStep ?_
      refine decB_true (b := !(decide (IntKind.wrap .i64 (a + b) ≥ 0) == decide (a ≥ 0))) (by by_cases h4 : 0 ≤ a <;> simp [h3, h4]) ?_
      repeat first | refine opsStep ?_ | refine codeStep ?_ | refine drawStep ?_
      exact finV (v' := .tup [.int .i64 0, .int .i64 10]) (by kernel_rfl) rfl
  · have h2 : in63 (a + b) := by
      refine Decidable.byContradiction fun h => h1 (hout h).1
    obtain ⟨rfl, rfl⟩ := hfit h2
    repeat first | refine opsStep ?_ | refine codeStep ?_ | refine drawStep ?_
    refine decB_false (b := (decide (a ≥ 0) == decide (b ≥ 0))) (by rw [beq_eq_false_iff_ne]; exact fun h => h1 (decide_eq_decide.1 h)) ?_
    repeat first | refine opsStep ?_ | refine codeStep ?_ | refine drawStep ?_
    exact finV (v' := .tup [.int .i64 (IntKind.wrap .i64 (a + b)), .int .i64 0]) (by kernel_rfl) rfl

/-- A number of 63 bits, or -1 where it is wider. -/
def capV (n : Nat) : Int := if n < 9223372036854775808 then n else -1
theorem capV_in (n) : in63 (capV n) := by rw [capV]; split <;> omega
theorem capV_fit {n : Nat} (h : n < 9223372036854775808) : capV n = n := if_pos h
theorem capV_wide {n : Nat} (h : ¬ n < 9223372036854775808) : capV n = -1 := if_neg h
theorem count_capped (m n : Nat) : Pure Try.prog 54 [.int .i64 (capV m), .int .i64 (capV n)] (.int .i64 (capV (m + n))) := by
  have had := chk_Add (capV m) (capV n) (capV_in m) (capV_in n)
  by_cases h1 : m < 9223372036854775808
  · by_cases h2 : n < 9223372036854775808
    · rw [capV_fit h1, capV_fit h2] at had
      rw [capV_fit h1, capV_fit h2]
      by_cases h3 : m + n < 9223372036854775808
      · rw [(add_fit (show in63 ((m : Int) + n) by omega)).1, (add_fit (show in63 ((m : Int) + n) by omega)).2, IntWalk.i64_in _ (by omega)] at had
        rw [capV_fit h3]
        refine Pure.of_sw 24 Try.func54 rfl Try.ntmps54 (by kernel_rfl) (Nat.le_of_ble_eq_true (by kernel_rfl)) (by simp [closeds, AV.closed, aSs_closed, aIs_closed, aBs_closed, aRs_closed, aDen_closed]) (by simp [AV.closed, closeds, aSs_closed, aIs_closed, aBs_closed, aRs_closed, aDen_closed]) ?_; refine SW.of_vc ?_
        repeat first | refine opsStep ?_ | refine codeStep ?_ | refine drawStep ?_
        refine callP had ?_
        repeat first | refine opsStep ?_ | refine codeStep ?_ | refine drawStep ?_
        exact finV (v' := .int .i64 ((m : Int) + n)) (by kernel_rfl) (by rw [Int.natCast_add])
      · rw [(add_bad (show ¬ in63 ((m : Int) + n) by omega)).1, (add_bad (show ¬ in63 ((m : Int) + n) by omega)).2] at had
        rw [capV_wide h3]
        refine Pure.of_sw 24 Try.func54 rfl Try.ntmps54 (by kernel_rfl) (Nat.le_of_ble_eq_true (by kernel_rfl)) (by simp [closeds, AV.closed, aSs_closed, aIs_closed, aBs_closed, aRs_closed, aDen_closed]) (by simp [AV.closed, closeds, aSs_closed, aIs_closed, aBs_closed, aRs_closed, aDen_closed]) ?_; refine SW.of_vc ?_
        repeat first | refine opsStep ?_ | refine codeStep ?_ | refine drawStep ?_
        refine callP had ?_
        repeat first | refine opsStep ?_ | refine codeStep ?_ | refine drawStep ?_
        exact finV (v' := .int .i64 (-1)) (by kernel_rfl) rfl
    · rw [capV_fit h1, capV_wide h2] at had
      rw [capV_fit h1, capV_wide h2, capV_wide (n := m + n) (by omega)]
      generalize addV m (-1) = v at *
      generalize addE m (-1) = e at *
      refine Pure.of_sw 24 Try.func54 rfl Try.ntmps54 (by kernel_rfl) (Nat.le_of_ble_eq_true (by kernel_rfl)) (by simp [closeds, AV.closed, aSs_closed, aIs_closed, aBs_closed, aRs_closed, aDen_closed]) (by simp [AV.closed, closeds, aSs_closed, aIs_closed, aBs_closed, aRs_closed, aDen_closed]) ?_; refine SW.of_vc ?_
      repeat first | refine opsStep ?_ | refine codeStep ?_ | refine drawStep ?_
      refine callP had ?_
      repeat first | refine opsStep ?_ | refine codeStep ?_ | refine drawStep ?_
      exact finV (v' := .int .i64 (-1)) (by kernel_rfl) rfl
  · rw [capV_wide h1] at had
    rw [capV_wide h1, capV_wide (n := m + n) (by omega)]
    generalize addV (-1) (capV n) = v at *
    generalize addE (-1) (capV n) = e at *
    generalize capV n = c at *
    refine Pure.of_sw 24 Try.func54 rfl Try.ntmps54 (by kernel_rfl) (Nat.le_of_ble_eq_true (by kernel_rfl)) (by simp [closeds, AV.closed, aSs_closed, aIs_closed, aBs_closed, aRs_closed, aDen_closed]) (by simp [AV.closed, closeds, aSs_closed, aIs_closed, aBs_closed, aRs_closed, aDen_closed]) ?_; refine SW.of_vc ?_
    repeat first | refine opsStep ?_ | refine codeStep ?_ | refine drawStep ?_
    refine callP had ?_
    repeat first | refine opsStep ?_ | refine codeStep ?_ | refine drawStep ?_
    exact finV (v' := .int .i64 (-1)) (by kernel_rfl) rfl

theorem count_sum (m n : Nat) (h : m + n < 9223372036854775808) : Pure Try.prog 84 [.int .i64 (m : Nat), .int .i64 (n : Nat)] (.int .i64 (m + n : Nat)) := by
  have had := chk_Add (m : Nat) (n : Nat) ⟨by omega, by omega⟩ ⟨by omega, by omega⟩
  rw [(add_fit (show in63 ((m : Int) + n) by omega)).1, (add_fit (show in63 ((m : Int) + n) by omega)).2, IntWalk.i64_in _ (by omega), ← Int.natCast_add] at had
  generalize m + n = s at *
  refine Pure.of_sw 18 Try.func84 rfl Try.ntmps84 (by kernel_rfl) (Nat.le_of_ble_eq_true (by kernel_rfl)) (by simp [closeds, AV.closed, aSs_closed, aIs_closed, aBs_closed, aRs_closed, aDen_closed]) (by simp [AV.closed, closeds, aSs_closed, aIs_closed, aBs_closed, aRs_closed, aDen_closed]) ?_; refine SW.of_vc ?_
  repeat first | refine opsStep ?_ | refine codeStep ?_ | refine drawStep ?_
  refine callP had ?_
  repeat first | refine opsStep ?_ | refine codeStep ?_ | refine drawStep ?_
  exact finV (v' := .int .i64 (s : Nat)) (by kernel_rfl) rfl
theorem count_sumPan (m n : Nat) (hm : m < 9223372036854775808) (hn : n < 9223372036854775808) (h : ¬ m + n < 9223372036854775808) (H : List Blk) :
    ACall Try.prog 84 [.int .i64 (m : Nat), .int .i64 (n : Nat)] H (fun o H' => o = .pan ∧ H' = H) := by
  have had := chk_Add (m : Nat) (n : Nat) ⟨by omega, by omega⟩ ⟨by omega, by omega⟩
  rw [(add_bad (show ¬ in63 ((m : Int) + n) by omega)).1, (add_bad (show ¬ in63 ((m : Int) + n) by omega)).2] at had
  refine ACall.of_sw 18 Try.func84 rfl Try.ntmps84 (by kernel_rfl) (Nat.le_of_ble_eq_true (by kernel_rfl)) ?_; refine SW.of_vc ?_
  repeat first | refine opsStep ?_ | refine codeStep ?_ | refine drawStep ?_
  refine callP had ?_
  repeat first | refine opsStep ?_ | refine codeStep ?_ | refine drawStep ?_
  exact ⟨_, _, Ent.refl _ _ _, rfl, rfl⟩

end Tab

/- count: ends, made, spread. -/
namespace Tab
open Go Go.Proofs
set_option maxRecDepth 10000
set_option linter.unusedVariables false
set_option linter.unusedSimpArgs false
set_option linter.unusedSectionVars false

theorem gr_row {d : Den} (hd : rightS d = true) {q : Nat} (hq : q < (grD d).n) : ∃ r, d.next[q]? = some r ∧ q < d.next.length ∧ r.2.length = (grD d).K ∧ ∀ a, a < (grD d).K → r.2[a]? = some ((grD d).st q a : Int) ∧ (grD d).st q a < (grD d).n := by
  obtain ⟨s1, _⟩ := stepN_ok hd hq (show 0 < 2 ^ d.tracks.length from Nat.two_pow_pos _)
  refine ⟨_, List.getElem?_eq_getElem s1, s1, (rowOk_parts ((rightS_parts hd).2.2 _ (List.getElem_mem s1))).1, fun a ha => ?_⟩
  obtain ⟨_, a1, a2, a3⟩ := stepN_ok hd hq ha
  exact ⟨by rw [List.getElem?_eq_getElem a1, a2]; rfl, a3⟩
theorem gr_acc {d : Den} {c : Nat} (h : c < (grD d).n) : d.accept[c]? = some ((grD d).ac c) := by
  show _ = some (accN d.accept c)
  rw [accN, List.getD_eq_getElem?_getD, List.getElem?_eq_getElem h]; rfl
def yL (g : Gr) (k : Nat) : List AV := (List.range k).map fun q => .int .i64 (yesN g q : Nat)
theorem yL_length (g k) : (yL g k).length = k := by simp [yL]
theorem yL_get {g : Gr} {k q : Nat} (h : q < k) : (yL g k)[q]? = some (.int .i64 (yesN g q : Nat)) := by simp [yL, h]
theorem yL_snoc (g k) : yL g (k + 1) = yL g k ++ [.int .i64 (yesN g k : Nat)] := by simp [yL, List.range_succ]
theorem yL_bel (m g k) : bels m (yL g k) := by rw [yL, bels_map]; intro x _; trivial
theorem yL_closed (g k) : closeds (yL g k) := by
  rw [closeds_iff]; intro a ha; obtain ⟨r, _, rfl⟩ := List.mem_map.1 ha; trivial
/-- The counter's cells. -/
def cnC (d : Den) (lv kn : AV) : Blk := .cells 0 (d.cells ++ [.sl .any (grD d).n (yL (grD d) (grD d).n), lv, kn])

theorem count_ends (d : Den) (hd : rightS d = true) (q a : Nat) (hq : q < (grD d).n) (ha : a < (grD d).K) (lv kn : AV) (X : List Blk) :
    ACall Try.prog 53 [.ref 0 0 0, .int .i64 (q : Nat), .int .i64 (a : Nat)] (cnC d lv kn :: X) (fun o H' => o = .ret (.int .i64 (endsN (grD d) q a : Nat)) ∧ H' = cnC d lv kn :: X) := by
  obtain ⟨r, g1, g2, g3, g4⟩ := gr_row hd hq
  obtain ⟨h1, h2⟩ := g4 a ha
  have h3 := gr_acc h2
  have h4 := (List.getElem?_eq_some_iff.1 h3).1
  have hy := yL_get (g := grD d) hq
  have hyl := yL_length (grD d) (grD d).n
  have hyk : yesN (grD d) q ≤ 64 := Nat.le_trans (yesTo_le _ _ _) (grD_ok hd).let'
  have hyp := yes_pos (grD d) (q := q) ha
  rw [endsN, cnC]
  generalize yesN (grD d) q = y at *
  generalize yL (grD d) (grD d).n = Y at *
  generalize hs : (grD d).st q a = c at *
  have hal : a < r.2.length := by omega
  refine ACall.of_sw 40 Try.func53 rfl Try.ntmps53 (by kernel_rfl) (Nat.le_of_ble_eq_true (by kernel_rfl)) ?_; refine SW.of_vc ?_
  repeat first | refine opsStep ?_ | refine codeStep ?_ | refine drawStep ?_
  refine SW.drawn rfl (by kernel_rfl) ?_
  repeat first | refine opsStep ?_ | refine codeStep ?_ | refine drawStep ?_
  refine guardE_of (by simp; omega) ?_
  repeat first | refine opsStep ?_ | refine codeStep ?_ | refine drawStep ?_
  refine optE_of (c := aIs r.1 r.2) (by simp [Value.cells, g1]) ?_
  repeat first | refine opsStep ?_ | refine codeStep ?_ | refine drawStep ?_
  refine guardE_of (by simp; omega) ?_
  repeat first | refine opsStep ?_ | refine codeStep ?_ | refine drawStep ?_
  refine optE_of (c := .int .i64 (c : Nat)) (by simp [Value.cells, h1]) ?_
  repeat first | refine opsStep ?_ | refine codeStep ?_ | refine drawStep ?_
  refine guardE_of (by simp; omega) ?_
  repeat first | refine opsStep ?_ | refine codeStep ?_ | refine drawStep ?_
  refine optE_of (c := .bool ((grD d).ac c)) (by simp [Value.cells, h3]) ?_
  repeat first | refine opsStep ?_ | refine codeStep ?_ | refine drawStep ?_
  refine ⟨by kernel_rfl, ?_⟩
  cases hc : (grD d).ac c with
  | true =>
    have hyp := hyp hc
    repeat first | refine opsStep ?_ | refine codeStep ?_ | refine drawStep ?_
    refine guardE_of (by simp; omega) ?_
    repeat first | refine opsStep ?_ | refine codeStep ?_ | refine drawStep ?_
    refine optE_of (c := .int .i64 (y : Nat)) (by simpa [Value.cells] using hy) ?_
    repeat first | refine opsStep ?_ | refine codeStep ?_ | refine drawStep ?_
    exact finR (l := [(6, .int .i64 (IntKind.wrap .i64 ((y : Int) - 1)))]) (v := .int .i64 (y - 1 : Nat)) ⟨(by kernel_rfl), trivial⟩ (by kernel_rfl) (Ent.refl _ _ _) (Eq.trans (b := some (.int .i64 (IntKind.wrap .i64 ((y : Int) - 1)))) (by kernel_rfl) (by rw [dec_slot (i := y) hyp (by omega)])) ⟨by rw [if_pos rfl], rfl⟩
  | false =>
    repeat first | refine opsStep ?_ | refine codeStep ?_ | refine drawStep ?_
    refine guardE_of (by simp; omega) ?_
    repeat first | refine opsStep ?_ | refine codeStep ?_ | refine drawStep ?_
    refine optE_of (c := .int .i64 (y : Nat)) (by simpa [Value.cells] using hy) ?_
    repeat first | refine opsStep ?_ | refine codeStep ?_ | refine drawStep ?_
    exact finR (l := [(6, .int .i64 (y : Nat))]) (v := .int .i64 (y : Nat)) ⟨(by kernel_rfl), trivial⟩ (by kernel_rfl) (Ent.refl _ _ _) (by kernel_rfl) ⟨by rw [if_neg (by simp)], rfl⟩

end Tab

/- Trimmed words of a machine in order: plain. -/
namespace Tab
open Go
set_option maxRecDepth 10000
set_option linter.unusedVariables false
set_option linter.unusedSimpArgs false
set_option linter.unusedSectionVars false

def eT (g : Gr) (q : Nat) (last : Int) (k : Nat) : List Nat := (List.range k).filter fun a => decide ((a : Int) ≠ last) && g.ac (g.st q a)
def eL (g : Gr) (q : Nat) (last : Int) : List Int := (eT g q last g.K).map fun a : Nat => (a : Int)
theorem eT_succ (g q last k) : eT g q last (k + 1) = eT g q last k ++ (if (decide ((k : Int) ≠ last) && g.ac (g.st q k)) = true then [k] else []) := by
  rw [eT, List.range_succ, List.filter_append, eT]
  congr 1
  cases h : (decide ((k : Int) ≠ last) && g.ac (g.st q k)) with
  | true => simp only [List.filter, h]; rfl
  | false => simp only [List.filter, h]; rfl
theorem eT_len (g : Gr) (q a : Nat) : ∀ k, (eT g q (a : Int) k).length + (if a < k ∧ g.ac (g.st q a) = true then 1 else 0) = yesTo g q k
  | 0 => rfl
  | k + 1 => by
    have h := eT_len g q a k
    rw [eT_succ, yesTo_succ, ← h, List.length_append]
    by_cases e : k = a
    · subst e
      rw [if_neg (show ¬ (k < k ∧ _) from fun h => by omega)]
      have e1 : (decide ((k : Int) ≠ (k : Int)) && g.ac (g.st q k)) = false := by simp
      rw [e1]
      cases g.ac (g.st q k) <;> simp
    · have e1 : decide ((k : Int) ≠ (a : Int)) = true := decide_eq_true (by omega)
      rw [e1, Bool.true_and]
      have e2 : (a < k + 1 ∧ g.ac (g.st q a) = true) ↔ (a < k ∧ g.ac (g.st q a) = true) := ⟨fun h => ⟨by omega, h.2⟩, fun h => ⟨by omega, h.2⟩⟩
      simp only [e2]
      cases g.ac (g.st q k)
      · simp
      · simp; omega
theorem eT_all (g : Gr) (q : Nat) {last : Int} (hl : last < 0) : ∀ k, (eT g q last k).length = yesTo g q k
  | 0 => rfl
  | k + 1 => by
    have h := eT_all g q hl k
    rw [eT_succ, yesTo_succ, ← h, List.length_append]
    have e1 : decide ((k : Int) ≠ last) = true := decide_eq_true (by omega)
    rw [e1, Bool.true_and]
    cases g.ac (g.st q k) <;> simp
theorem eL_len (g : Gr) {q a : Nat} (ha : a < g.K) : (eL g q (a : Int)).length = endsN g q a := by
  have h := eT_len g q a g.K
  rw [eL, List.length_map, endsN, yesN, ← h]
  cases hc : g.ac (g.st q a) with
  | true => simp [ha]
  | false => simp
theorem eL_all (g : Gr) (q : Nat) {last : Int} (hl : last < 0) : (eL g q last).length = yesN g q := by rw [eL, List.length_map, eT_all g q hl, yesN]
theorem eT_le (g q last) : ∀ k, (eT g q last k).length ≤ k
  | 0 => Nat.le_refl _
  | k + 1 => by
    have := eT_le g q last k
    rw [eT_succ, List.length_append]
    split <;> simp <;> omega

def lastI (h : List Int) : Int := h.getLastD (-1)
theorem lastI_snoc (h : List Int) (a : Int) : lastI (h ++ [a]) = a := by simp [lastI]
/-- The words with k + 1 letters more. -/
def wfL (g : Gr) : Nat → Nat → List Int → List (List Int)
  | 0, q, h => (eL g q (lastI h)).map fun a => h ++ [a]
  | k + 1, q, h => (List.range g.K).flatMap fun a : Nat => wfL g k (g.st q a) (h ++ [(a : Int)])
def wfT (g : Gr) (k q : Nat) (h : List Int) (j : Nat) : List (List Int) := (List.range j).flatMap fun a : Nat => wfL g k (g.st q a) (h ++ [(a : Int)])
theorem wfT_succ (g k q h j) : wfT g k q h (j + 1) = wfT g k q h j ++ wfL g k (g.st q j) (h ++ [(j : Int)]) := by
  rw [wfT, List.range_succ, List.flatMap_append, wfT]; simp
theorem wfL_fT (g k q h) : wfL g (k + 1) q h = wfT g k q h g.K := rfl
theorem wfT_len (g : Gr) (k q : Nat) (h : List Int) (f : Nat → Nat) : ∀ j, (∀ a, a < j → (wfL g k (g.st q a) (h ++ [(a : Int)])).length = f a) → (wfT g k q h j).length = sumTo f j
  | 0, _ => rfl
  | j + 1, hf => by rw [wfT_succ, List.length_append, wfT_len g k q h f j (fun a ha => hf a (by omega)), hf j (by omega)]; rfl
theorem wfL_one (g : Gr) {q a : Nat} (ha : a < g.K) (h : List Int) : (wfL g 0 q (h ++ [(a : Int)])).length = endsN g q a := by
  rw [wfL, List.length_map, lastI_snoc, eL_len g ha]
theorem wfL_len (g : Gr) : ∀ (k q : Nat) (h : List Int), (wfL g (k + 1) q h).length = wordsN g k q
  | 0, q, h => by
    rw [wfL_fT, wfT_len g 0 q h (fun a => endsN g (g.st q a) a) g.K fun a ha => wfL_one g ha h]; rfl
  | k + 1, q, h => by
    rw [wfL_fT, wfT_len g (k + 1) q h (fun a => wordsN g k (g.st q a)) g.K fun a _ => wfL_len g k _ _]; rfl
theorem wfL_first (g : Gr) (q : Nat) : (wfL g 0 q []).length = yesN g q := by
  rw [wfL, List.length_map]; exact eL_all g q (by decide)
theorem wfL_word (g : Gr) : ∀ (k q : Nat) (h : List Int), ∀ w ∈ wfL g k q h, w.length = h.length + k + 1
  | 0, q, h, w, hw => by
    rw [wfL, List.mem_map] at hw
    obtain ⟨a, _, rfl⟩ := hw
    simp
  | k + 1, q, h, w, hw => by
    rw [wfL, List.mem_flatMap] at hw
    obtain ⟨a, _, hw⟩ := hw
    have := wfL_word g k _ _ w hw
    rw [List.length_append] at this
    simp at this; omega
/-- May k + 1 letters more, behind the last one, end a word from here? -/
def moB (g : Gr) : Nat → Nat → Int → Bool
  | 0, q, last => decide (0 < (eL g q last).length)
  | k + 1, q, _ => decide (0 < wordsN g k q)
theorem wfL_no (g : Gr) {k q : Nat} {h : List Int} (hm : moB g k q (lastI h) = false) : wfL g k q h = [] := by
  cases k with
  | zero =>
    have hm : ¬ 0 < (eL g q (lastI h)).length := of_decide_eq_false hm
    rw [wfL, show eL g q (lastI h) = [] from List.length_eq_zero_iff.1 (by omega)]; rfl
  | succ k =>
    have hm : ¬ 0 < wordsN g k q := of_decide_eq_false hm
    exact List.length_eq_zero_iff.1 (by rw [wfL_len]; omega)
theorem words_iff (g : Gr) (k q : Nat) : 0 < wordsN g k q ↔ ∃ a, a < g.K ∧ moB g k (g.st q a) (a : Int) = true := by
  cases k with
  | zero =>
    rw [wordsN, sumTo_pos]
    constructor
    · rintro ⟨a, h1, h2⟩; exact ⟨a, h1, decide_eq_true (by rw [eL_len g h1]; exact h2)⟩
    · rintro ⟨a, h1, h2⟩; have h2 := of_decide_eq_true h2; rw [eL_len g h1] at h2; exact ⟨a, h1, h2⟩
  | succ k =>
    rw [wordsN, sumTo_pos]
    constructor
    · rintro ⟨a, h1, h2⟩; exact ⟨a, h1, decide_eq_true h2⟩
    · rintro ⟨a, h1, h2⟩; exact ⟨a, h1, of_decide_eq_true h2⟩

/-- All words of at most n letters, in order. -/
def wfW (g : Gr) (n : Nat) : List (List Int) := (List.range n).flatMap fun k => wfL g k 0 []
theorem wfW_succ (g n) : wfW g (n + 1) = wfW g n ++ wfL g n 0 [] := by rw [wfW, List.range_succ, List.flatMap_append, wfW]; simp
theorem wfW_len (g : Gr) : ∀ n, (wfW g (n + 1)).length = uptoN g (n + 1)
  | 0 => by rw [wfW_succ, List.length_append, wfL_first]; simp [wfW, uptoN, sumTo]
  | n + 1 => by
    rw [wfW_succ, List.length_append, wfW_len g n, wfL_len]
    simp only [uptoN, Nat.add_sub_cancel, sumTo]
    omega
theorem wfW_pre (g : Gr) {m n : Nat} (h : m ≤ n) : ∃ t, wfW g n = wfW g m ++ t ∧ ∀ w ∈ t, m < w.length := by
  induction n with
  | zero => have : m = 0 := by omega
            subst this; exact ⟨[], by simp, by simp⟩
  | succ n ih =>
    by_cases e : m = n + 1
    · subst e; exact ⟨[], by simp, by simp⟩
    · obtain ⟨t, h1, h2⟩ := ih (by omega)
      refine ⟨t ++ wfL g n 0 [], by rw [wfW_succ, h1, List.append_assoc], fun w hw => ?_⟩
      rcases List.mem_append.1 hw with hw | hw
      · exact h2 w hw
      · have := wfL_word g n 0 [] w hw
        simp at this; omega
theorem wfW_word (g : Gr) {n : Nat} : ∀ w ∈ wfW g n, w.length ≤ n := by
  intro w hw
  rw [wfW, List.mem_flatMap] at hw
  obtain ⟨k, hk, hw⟩ := hw
  have := wfL_word g k 0 [] w hw
  have := List.mem_range.1 hk
  simp at *; omega

theorem take_more {α : Type} (A B : List α) (m : Nat) : (A.take m ++ B).take m = (A ++ B).take m := by
  rw [List.take_append, List.take_append, List.take_take, Nat.min_self, List.length_take]
  congr 2
  omega
theorem take_full {α : Type} {A : List α} (B : List α) {m : Nat} (h : ¬ A.length < m) : (A ++ B).take m = A.take m := by
  rw [List.take_append_of_le_length (by omega)]

end Tab

/- Contracts over the first blocks of a heap. -/
namespace Tab
open Go Go.Proofs
set_option maxRecDepth 10000
set_option linter.unusedVariables false
set_option linter.unusedSimpArgs false
set_option linter.unusedSectionVars false

theorem place_range (f : Nat → Nat) (n : Nat) (hf : ∀ b, b < n → f b = b) : ∀ (H₁ X : List Blk) (k : Nat) (pre : List Blk) (Y : List Blk), pre.length = k → Y.length = H₁.length → (∀ x ∈ H₁, x.bel n) →
    place f ((List.range H₁.length).map (k + ·)) (pre ++ Y ++ X) H₁ = pre ++ H₁ ++ X
  | [], X, k, pre, Y, _, hY, _ => by
    have : Y = [] := List.length_eq_zero_iff.1 (by simpa using hY)
    subst this
    simp [place]
  | x :: H₁, X, k, pre, Y, hk, hY, hb => by
    cases Y with
    | nil => simp at hY
    | cons y Y =>
      have e : (List.range (x :: H₁).length).map (k + ·) = k :: (List.range H₁.length).map ((k + 1) + ·) := by
        rw [List.length_cons, List.range_succ_eq_map, List.map_cons, List.map_map, Nat.add_zero]
        congr 1
        refine List.map_congr_left fun j _ => ?_
        simp only [Function.comp]; omega
      rw [e, place, Blk.rn_id hf x (hb x (by simp))]
      have e2 : (pre ++ y :: Y ++ X).set k x = (pre ++ [x]) ++ Y ++ X := by
        subst hk; simp
      rw [e2, place_range f n hf H₁ X (k + 1) (pre ++ [x]) Y (by simp [hk]) (by simpa using hY) fun z hz => hb z (by simp [hz])]
      simp
theorem blksBel_mem {n : Nat} {H : List Blk} (h : blksBel n H) : ∀ x ∈ H, x.bel n := fun x hx => by
  obtain ⟨i, hi, rfl⟩ := List.getElem_of_mem hx
  exact blksBel_get h (List.getElem?_eq_getElem hi)
/-- A contract that answers one thing and changes these blocks, used where more blocks lie behind. -/
theorem ACall.tail {P : Program} {f : FuncId} {args : List AV} {H₀ H₁ : List Blk} {v : AV} (h : ACall P f args H₀ fun o H' => o = .ret v ∧ H' = H₁) (X : List Blk) (hl : H₁.length = H₀.length) (ba : bels H₀.length args) (bh : blksBel H₀.length H₀) (bh' : blksBel H₀.length H₁) (hv : v.bel H₀.length) :
    ACall P f args (H₀ ++ X) fun o H' => o = .ret v ∧ H' = H₁ ++ X := by
  have hF : ∀ b, b < H₀.length → rnB (List.range H₀.length) (H₀ ++ X).length b = b := fun b hb => rnB_lt (by rw [List.getElem?_range hb])
  have k := ACall.frame h (H := H₀ ++ X) (List.range H₀.length) List.nodup_range (fun b hb => by have := List.mem_range.1 hb; rw [List.length_append]; omega) (by simp)
    (fun i x b hx hb => by
      have hi := (List.getElem?_eq_some_iff.1 hx).1
      rw [List.getElem?_range hi] at hb
      cases hb
      rw [List.getElem?_append_left hi, hx, Blk.rn_id hF x (blksBel_get bh hx)]) (by simpa using ba) (by simpa using bh)
  rw [rns_id hF args ba] at k
  refine ⟨k.1, fun m ro w cargs hi hx => (k.2 m ro w cargs hi hx).mono ?_⟩
  rintro e w' ⟨m', ro', out, H', ⟨o₀, H₂, ⟨rfl, rfl⟩, rfl, rfl⟩, k2⟩
  refine ⟨m', ro', _, _, ⟨?_, ?_⟩, k2⟩
  · rw [Out.rn, AV.rn_id hF v hv]
  · have e := place_range (rnB (List.range H₀.length) (H₀ ++ X).length) H₀.length hF H₂ X 0 [] H₀ rfl hl.symm (blksBel_mem bh')
    rw [hl] at e
    simpa using e
theorem callT {P : Program} {f : FuncId} {args : List AV} {H H₀ H₁ : List Blk} {v : AV} {Y : Out → List Blk → Prop} (h : ACall P f args H₀ fun o H' => o = .ret v ∧ H' = H₁) (X : List Blk) (hH : H = H₀ ++ X) (hl : H₁.length = H₀.length) (ba : bels H₀.length args) (bh : blksBel H₀.length H₀) (bh' : blksBel H₀.length H₁) (hv : v.bel H₀.length)
    (k : Y (.ret v) (H₁ ++ X)) : ∃ R : Out → List Blk → Prop, ACall P f args H R ∧ ∀ o H', R o H' → Y o H' := by
  subst hH
  exact ⟨_, h.tail X hl ba bh bh' hv, by rintro _ _ ⟨rfl, rfl⟩; exact k⟩
/-- The same with a slice of a block behind, that is given away. -/
theorem callTZ {P : Program} {f : FuncId} {args az : List AV} {H H₀ H₁ : List Blk} {v : AV} {g : Nat} {cs : List AV} {Y : Out → List Blk → Prop} (b : Nat) (hb : H[b]? = some (.cells g cs)) (h : ACall P f args H₀ fun o H' => o = .ret v ∧ H' = H₁) (X : List Blk) (hH : H.set b (.fro g cs) = H₀ ++ X) (hz : FzN (H₀ ++ X) az args)
    (hl : H₁.length = H₀.length) (ba : bels H₀.length args) (bh : blksBel H₀.length H₀) (bh' : blksBel H₀.length H₁) (hv : v.bel H₀.length) (k : Y (.ret v) (H₁ ++ X)) : ∃ R : Out → List Blk → Prop, ACall P f az H R ∧ ∀ o H', R o H' → Y o H' := by
  refine ⟨_, ACall.froz b hb (R := fun o H' => o = .ret v ∧ H' = H₁ ++ X) ?_, by rintro _ _ ⟨rfl, rfl⟩; exact k⟩
  rw [hH]
  exact ACall.fz hz (h.tail X hl ba bh bh' hv)
/-- A slice that may be nil is given as nil. -/
theorem ACall.ofNil {P : Program} {f : FuncId} {x y z : AV} {H : List Blk} {R : Out → List Blk → Prop} (h : ACall P f [x, y, z, .sl .any 0 []] H R) : ACall P f [x, y, z, .sl .nil 0 []] H R := by
  refine ⟨h.1, fun m ro w cargs hi hx => h.2 m ro w cargs hi ?_⟩
  simp only [VsRel] at hx ⊢
  obtain ⟨v1, _, e1, k1, v2, _, e2, k2, v3, _, e3, k3, v4, _, e4, k4, e5⟩ := hx
  exact ⟨v1, _, e1, k1, v2, _, e2, k2, v3, _, e3, k3, v4, _, e4, sl_any k4, e5⟩

theorem slices_Clone_I_new (k : SK) (l : List Int) (hl : l.length * 8 ≤ 140737488355328) : PureNew Try.prog 98 [aIs k l] l.length 1 (l.map (.int .i64)) := by
  refine ⟨by simp [closeds, aIs_closed], by simp only [closeds_iff, List.mem_map]; rintro _ ⟨_, _, rfl⟩; simp [AV.closed], ACall.anyK (fun h0 _ => ?_) (?_ : ACall Try.prog _ [aIs .nn l] _ _)⟩
  · have : l = [] := List.length_eq_zero_iff.1 (by simpa using h0)
    subst this
    refine ACall.of_sw 8 Try.func98 rfl Try.ntmps98 (by kernel_rfl) (Nat.le_of_ble_eq_true (by kernel_rfl)) ?_; refine SW.of_vc ?_
    repeat first | refine opsStep ?_ | refine codeStep ?_ | refine drawStep ?_
    refine finR (l := [(2, .sl .nil 0 [])]) (H₁ := []) (v := .hs 0 0 0 0 1) ⟨(by kernel_rfl), trivial⟩ (by kernel_rfl) (Ent.nil 2 1 rfl) (by kernel_rfl) ?_
    exact ⟨0, rfl, rfl⟩
  · refine ACall.of_sw 8 Try.func98 rfl Try.ntmps98 (by kernel_rfl) (Nat.le_of_ble_eq_true (by kernel_rfl)) ?_; refine SW.of_vc ?_
    repeat first | refine opsStep ?_ | refine codeStep ?_ | refine drawStep ?_
    refine guardE_of (by simp [Value.cells]) ?_
    refine guardE_of ⟨by omega, by show (0 + l.length) * 8 ≤ 140737488355328; omega⟩ ?_
    repeat first | refine opsStep ?_ | refine codeStep ?_ | refine drawStep ?_
    refine finR (l := [(2, .hs 0 1 0 (0 + l.length) 1)]) (H₁ := [.cells 1 (l.map (.int .i64))]) (v := .hs 0 1 0 (0 + l.length) 1) ⟨(by kernel_rfl), trivial⟩ (by kernel_rfl) (Ent.refl _ _ _) (by kernel_rfl) ?_
    exact ⟨1, by rw [Nat.zero_add], rfl⟩

end Tab

/- pick: ends, may. -/
namespace Tab
open Go Go.Proofs
set_option maxRecDepth 10000
set_option linter.unusedVariables false
set_option linter.unusedSimpArgs false
set_option linter.unusedSectionVars false

/-- The finder's cells. -/
def fC (d : Den) (lv wd : AV) : Blk := .cells 0 (d.cells ++ [lv, .int .i64 64, wd])
def eM (g : Gr) (q : Nat) (last : Int) (j : Nat) : List AV := (eT g q last j).map fun a : Nat => .int .i64 (a : Nat)
theorem eM_len (g q last j) : (eM g q last j).length = (eT g q last j).length := by simp [eM]
theorem eM_all (g q last) : aIs .any (eL g q last) = .sl .any (eT g q last g.K).length (eM g q last g.K) := by
  rw [aIs, eL, List.length_map, List.map_map]; rfl
theorem eM_yes {g : Gr} {q : Nat} {last : Int} {j : Nat} (h1 : (j : Int) ≠ last) (h2 : g.ac (g.st q j) = true) : eM g q last (j + 1) = eM g q last j ++ [.int .i64 (j : Nat)] ∧ (eT g q last (j + 1)).length = (eT g q last j).length + 1 := by
  rw [eM, eT_succ, decide_eq_true h1, h2]
  simp [eM]
theorem eM_no {g : Gr} {q : Nat} {last : Int} {j : Nat} (h : (j : Int) = last ∨ g.ac (g.st q j) = false) : eM g q last (j + 1) = eM g q last j ∧ (eT g q last (j + 1)).length = (eT g q last j).length := by
  have e : (decide ((j : Int) ≠ last) && g.ac (g.st q j)) = false := by
    rcases h with h | h
    · rw [decide_eq_false (by omega)]; rfl
    · rw [h]; simp
  rw [eM, eT_succ, e]
  simp [eM]
theorem pick_ends (d : Den) (hd : rightS d = true) (g : Gr) (hgr : grD d = g) (q : Nat) (hq : q < g.n) (last : Int) (lv wd : AV) (B0 B1 B2 B4 : Blk) (hb : blksBel 5 [B0, B1, B2, fC d lv wd, B4]) :
    ACall Try.prog 97 [.ref 3 0 0, .int .i64 (q : Nat), .int .i64 last] [B0, B1, B2, fC d lv wd, B4] (fun o H' => o = .ret (aIs .any (eL g q last)) ∧ H' = [B0, B1, B2, fC d lv wd, B4]) := by
  have hrow := fun q hq => gr_row hd (q := q) hq
  have hacc := fun c (h : c < (grD d).n) => gr_acc (d := d) h
  have hgo := grD_ok hd
  rw [hgr] at hrow hacc hgo
  have hlet := hgo.let'
  obtain ⟨r, g1, g2, g3, g4⟩ := hrow q hq
  have hle := fun j => eT_le g q last j
  have hbm : ∀ j, bels 6 (eM g q last j) := fun j => closeds_bel _ (closeds_iff.2 fun a ha => by obtain ⟨x, _, rfl⟩ := List.mem_map.1 ha; trivial)
  have hbm5 : bels 5 (eM g q last g.K) := closeds_bel _ (closeds_iff.2 fun a ha => by obtain ⟨x, _, rfl⟩ := List.mem_map.1 ha; trivial)
  rw [eM_all]
  refine ACall.of_sw 43 Try.func97 rfl Try.ntmps97 (by kernel_rfl) (Nat.le_of_ble_eq_true (by kernel_rfl)) ?_; refine SW.of_vc ?_
  repeat first | refine opsStep ?_ | refine codeStep ?_ | refine drawStep ?_
  refine guardE_of (by simp; omega) ?_
  repeat first | refine opsStep ?_ | refine codeStep ?_ | refine drawStep ?_
  refine optE_of (c := aIs r.1 r.2) (by simp [Value.cells, g1]) ?_
  repeat first | refine opsStep ?_ | refine codeStep ?_ | refine drawStep ?_
  refine loopE_of (ι := {j : Nat // j ≤ g.K}) (fun j => (fr [(0, .ref 3 0 0), (2, .int .i64 last), (7, .hs 5 (eT g q last (j.1)).length 0 (eT g q last (j.1)).length 1), (17, aIs r.1 r.2), (18, .int .i64 (r.2.length : Nat)), (19, .int .i64 ((j.1) : Nat))], [B0, B1, B2, fC d lv wd, B4, .cells (eT g q last (j.1)).length (eM g q last (j.1))])) (fun j => g.K - j.1) ⟨0, Nat.zero_le _⟩ ?_ ?_
  · exact ((Ent.fr' (l := [(0, .ref 3 0 0), (2, .int .i64 last), (7, .sl .nil 0 []), (17, aIs r.1 r.2), (18, .int .i64 (r.2.length : Nat)), (19, .int .i64 (0 : Nat))]) (H' := [B0, B1, B2, fC d lv wd, B4]) ⟨(by kernel_rfl), (by kernel_rfl), (by kernel_rfl), (by kernel_rfl), (by kernel_rfl), (by kernel_rfl), trivial⟩ (by kernel_rfl)).trans (Ent.nil 7 1 rfl)).trans (Ent.fr' ⟨(by kernel_rfl), (by kernel_rfl), (by kernel_rfl), (by kernel_rfl), (by kernel_rfl), (by kernel_rfl), trivial⟩ (by kernel_rfl))
  rintro ⟨j, hj⟩
  repeat first | refine opsStep ?_ | refine codeStep ?_ | refine drawStep ?_
  refine decB_dec (fun hjc => ?_) (fun hjc => ?_)
  · have hjl : j < g.K := by have := hjc; simp at this; omega
    obtain ⟨g5, g6⟩ := g4 j hjl
    have hjr : j < r.2.length := by omega
    have hac := hacc _ g6
    have hal := (List.getElem?_eq_some_iff.1 hac).1
    have hyes := eM_yes (g := g) (q := q) (last := last) (j := j)
    have hno := eM_no (g := g) (q := q) (last := last) (j := j)
    have hlej := hle j
    have hlen := eM_len g q last j
    generalize g.st q j = to at *
    by_cases hne : (j : Int) = last
    · have hno := hno (.inl hne)
      repeat first | refine opsStep ?_ | refine codeStep ?_ | refine drawStep ?_
      refine guardE_of (by simp; omega) ?_
      repeat first | refine opsStep ?_ | refine codeStep ?_ | refine drawStep ?_
      refine optE_of (c := .int .i64 (to : Nat)) (by simp [Value.cells, g5]) ?_
      repeat first | refine opsStep ?_ | refine codeStep ?_ | refine drawStep ?_
      refine decB_false (b := decide ((j : Int) ≠ last)) (decide_eq_false (by omega)) ?_
      repeat first | refine opsStep ?_ | refine codeStep ?_ | refine drawStep ?_
      refine ⟨⟨j + 1, hjl⟩, (by show g.K - (j + 1) < g.K - j; omega), Ent.fr' ⟨(by kernel_rfl), (by kernel_rfl), Eq.trans (b := .hs 5 (eT g q last j).length 0 (eT g q last j).length 1) (by kernel_rfl) (by rw [hno.2]), (by kernel_rfl), (by kernel_rfl), inc_slot (i := j) (by omega), trivial⟩ (Eq.trans (b := [B0, B1, B2, fC d lv wd, B4, .cells (eT g q last (j)).length (eM g q last (j))]) (by kernel_rfl) (by show [B0, B1, B2, fC d lv wd, B4, .cells (eT g q last (j)).length (eM g q last (j))] = [B0, B1, B2, fC d lv wd, B4, .cells (eT g q last (j + 1)).length (eM g q last (j + 1))]; rw [hno.1, hno.2]))⟩
    · cases hb2 : g.ac to with
      | false =>
        have hno := hno (.inr hb2)
        rw [hb2] at hac
        repeat first | refine opsStep ?_ | refine codeStep ?_ | refine drawStep ?_
        refine guardE_of (by simp; omega) ?_
        repeat first | refine opsStep ?_ | refine codeStep ?_ | refine drawStep ?_
        refine optE_of (c := .int .i64 (to : Nat)) (by simp [Value.cells, g5]) ?_
        repeat first | refine opsStep ?_ | refine codeStep ?_ | refine drawStep ?_
        refine decB_true (b := decide ((j : Int) ≠ last)) (decide_eq_true (by omega)) ?_
        repeat first | refine opsStep ?_ | refine codeStep ?_ | refine drawStep ?_
        refine guardE_of (by simp; omega) ?_
        repeat first | refine opsStep ?_ | refine codeStep ?_ | refine drawStep ?_
        refine optE_of (c := .bool false) (by simp [Value.cells, hac]) ?_
        repeat first | refine opsStep ?_ | refine codeStep ?_ | refine drawStep ?_
        refine ⟨⟨j + 1, hjl⟩, (by show g.K - (j + 1) < g.K - j; omega), Ent.fr' ⟨(by kernel_rfl), (by kernel_rfl), Eq.trans (b := .hs 5 (eT g q last j).length 0 (eT g q last j).length 1) (by kernel_rfl) (by rw [hno.2]), (by kernel_rfl), (by kernel_rfl), inc_slot (i := j) (by omega), trivial⟩ (Eq.trans (b := [B0, B1, B2, fC d lv wd, B4, .cells (eT g q last (j)).length (eM g q last (j))]) (by kernel_rfl) (by show [B0, B1, B2, fC d lv wd, B4, .cells (eT g q last (j)).length (eM g q last (j))] = [B0, B1, B2, fC d lv wd, B4, .cells (eT g q last (j + 1)).length (eM g q last (j + 1))]; rw [hno.1, hno.2]))⟩
      | true =>
        have hyes := hyes (by omega) hb2
        rw [hb2] at hac
        repeat first | refine opsStep ?_ | refine codeStep ?_ | refine drawStep ?_
        refine guardE_of (by simp; omega) ?_
        repeat first | refine opsStep ?_ | refine codeStep ?_ | refine drawStep ?_
        refine optE_of (c := .int .i64 (to : Nat)) (by simp [Value.cells, g5]) ?_
        repeat first | refine opsStep ?_ | refine codeStep ?_ | refine drawStep ?_
        refine decB_true (b := decide ((j : Int) ≠ last)) (decide_eq_true (by omega)) ?_
        repeat first | refine opsStep ?_ | refine codeStep ?_ | refine drawStep ?_
        refine guardE_of (by simp; omega) ?_
        repeat first | refine opsStep ?_ | refine codeStep ?_ | refine drawStep ?_
        refine optE_of (c := .bool true) (by simp [Value.cells, hac]) ?_
        repeat first | refine opsStep ?_ | refine codeStep ?_ | refine drawStep ?_
        refine guardE_of ⟨rfl, by show 0 + (eT g q last j).length * 1 ≤ (eM g q last j).length; omega⟩ ?_
        repeat first | refine opsStep ?_ | refine codeStep ?_ | refine drawStep ?_
        refine guardE_of rfl ?_
        repeat first | refine opsStep ?_ | refine codeStep ?_ | refine drawStep ?_
        refine guardE_of ⟨by show (eT g q last j).length + 1 ≤ 9223372036854775807; omega, by show ((eT g q last j).length + 1) * 8 ≤ 140737488355328; omega⟩ ?_
        repeat first | refine opsStep ?_ | refine codeStep ?_ | refine drawStep ?_
        refine ⟨⟨j + 1, hjl⟩, (by show g.K - (j + 1) < g.K - j; omega), Ent.frD (X := [.cells 0 [.int .i64 (j : Nat)]]) ⟨(by kernel_rfl), (by kernel_rfl), Eq.trans (b := .hs 5 ((eT g q last j).length + 1) 0 ((eT g q last j).length + 1) 1) (by kernel_rfl) (by rw [hyes.2]), (by kernel_rfl), (by kernel_rfl), inc_slot (i := j) (by omega), trivial⟩ ?_ (Nat.le_of_ble_eq_true (by kernel_rfl)) (by first | (simp [frBel, blksBel, Blk.bel, AV.bel, bels, bels_append, bels_map, aSs_bel, aIs_bel, aBs_bel, aRs_bel, aDen_bel, cells_bel]; done) | (simp only [List.drop_zero, ← List.map_take, ← List.map_drop, List.map_map, frBel, blksBel, Blk.bel, AV.bel, bels, bels_append, bels_map, aSs_bel, aIs_bel, aBs_bel, aRs_bel, aDen_bel, cells_bel]; simp [AV.bel, aSs_bel, aIs_bel, aBs_bel, aRs_bel, aDen_bel, cells_bel])) ?_⟩
        · refine Eq.trans (b := [B0, B1, B2, fC d lv wd, B4, .cells ((eT g q last j).length + 1) (((eM g q last j).drop 0).take ((eT g q last j).length * 1) ++ [.int .i64 (j : Nat)]), .cells 0 [.int .i64 (j : Nat)]]) (by kernel_rfl) ?_
          show _ = [B0, B1, B2, fC d lv wd, B4, .cells (eT g q last (j + 1)).length (eM g q last (j + 1))] ++ [.cells 0 [.int .i64 (j : Nat)]]
          rw [hyes.1, hyes.2, List.drop_zero, List.take_of_length_le (by omega)]
          rfl
        · show blksBel 6 ([B0, B1, B2, fC d lv wd, B4] ++ [.cells (eT g q last (j + 1)).length (eM g q last (j + 1))])
          exact blksBel_append.2 ⟨blksBel_le (n := 5) (by decide) _ hb, hbm (j + 1), trivial⟩
  · have hje : j = g.K := by have := hjc; simp at this; omega
    subst hje
    repeat first | refine opsStep ?_ | refine codeStep ?_ | refine drawStep ?_
    refine finR (l := [(6, .hs 5 (eT g q last g.K).length 0 (eT g q last g.K).length 1)]) (v := .sl .any (eT g q last g.K).length (eM g q last g.K)) (H₁ := [B0, B1, B2, fC d lv wd, B4, .cells (eT g q last (g.K)).length (eM g q last (g.K))]) ⟨(by kernel_rfl), trivial⟩ (by kernel_rfl) (Ent.freezeLast (l := [(6, .hs 5 (eT g q last g.K).length 0 (eT g q last g.K).length 1)]) (l' := [(6, .sl .any (eT g q last g.K).length (eM g q last g.K))]) (g := (eT g q last g.K).length) (n := (eT g q last g.K).length) (es := 1) (cs := eM g q last g.K) [B0, B1, B2, fC d lv wd, B4] 6 ⟨(by kernel_rfl), trivial⟩ rfl rfl rfl (by rw [eM_len]; omega) (Nat.le_of_ble_eq_true (by kernel_rfl)) ⟨(by kernel_rfl), trivial⟩ ⟨hbm5, trivial⟩ hb) (by kernel_rfl) ⟨rfl, rfl⟩

def lvR (g : Gr) (k : Nat) : List Bool := (List.range g.n).map fun q => decide (0 < wordsN g k q)
def lvM (g : Gr) (m : Nat) : List AV := .sl .nil 0 [] :: .sl .nil 0 [] :: (List.range m).map fun k => aBs .any (lvR g k)
theorem lvR_len (g k) : (lvR g k).length = g.n := by simp [lvR]
theorem lvR_get {g : Gr} {k q : Nat} (h : q < g.n) : (lvR g k)[q]? = some (decide (0 < wordsN g k q)) := by simp [lvR, h]
theorem lvM_len (g m) : (lvM g m).length = m + 2 := by simp [lvM]
theorem lvM_get {g : Gr} {m k : Nat} (h : k < m) : (lvM g m)[k + 2]? = some (aBs .any (lvR g k)) := by simp [lvM, h]
theorem lvM_succ (g m) : lvM g (m + 1) = lvM g m ++ [aBs .any (lvR g m)] := by rw [lvM, List.range_succ, List.map_append]; rfl
theorem lvM_closed (g m) : closeds (lvM g m) := by
  refine ⟨trivial, trivial, ?_⟩
  rw [closeds_iff]
  intro a ha
  obtain ⟨k, _, rfl⟩ := List.mem_map.1 ha
  exact aBs_closed _ _
theorem pick_may (d : Den) (hd : rightS d = true) (g : Gr) (hgr : grD d = g) (k n q m : Nat) (hn : n = k + 1) (hk : k ≤ m) (hm : m ≤ 64) (hq : q < g.n) (last : Int) (wd : AV) (B0 B1 B4 : Blk) (hb : blksBel 5 [B0, B1, .cells (m) (lvM g (m)), fC d (.hs 2 (m) 0 ((m) + 2) 1) wd, B4]) :
    ACall Try.prog 96 [.ref 3 0 0, .int .i64 (n : Nat), .int .i64 (q : Nat), .int .i64 last] [B0, B1, .cells (m) (lvM g (m)), fC d (.hs 2 (m) 0 ((m) + 2) 1) wd, B4] (fun o H' => o = .ret (.bool (moB g k q last)) ∧ H' = [B0, B1, .cells (m) (lvM g (m)), fC d (.hs 2 (m) 0 ((m) + 2) 1) wd, B4]) := by
  cases k with
  | zero =>
    have he := pick_ends d hd g hgr q hq last (.hs 2 m 0 (m + 2) 1) wd B0 B1 (.cells m (lvM g m)) B4 hb
    subst hn
    have hlen : decide (((eL g q last).length : Int) > 0) = moB g 0 q last := by
      rw [moB]; exact decide_eq_decide.2 ⟨fun h => by omega, fun h => by omega⟩
    generalize eL g q last = L at *
    refine ACall.of_sw 27 Try.func96 rfl Try.ntmps96 (by kernel_rfl) (Nat.le_of_ble_eq_true (by kernel_rfl)) ?_; refine SW.of_vc ?_
    repeat first | refine opsStep ?_ | refine codeStep ?_ | refine drawStep ?_
    refine callH he ?_
    repeat first | refine opsStep ?_ | refine codeStep ?_ | refine drawStep ?_
    exact finR (l := [(8, .bool (moB g 0 q last))]) (v := .bool (moB g 0 q last)) ⟨Eq.trans (b := .bool (decide ((L.length : Int) > 0))) (by kernel_rfl) (by rw [hlen]), trivial⟩ (by kernel_rfl) (Ent.refl _ _ _) (by kernel_rfl) ⟨rfl, rfl⟩
  | succ k =>
    have h1 := lvM_get (g := g) (m := m) (k := k) (by omega)
    have h2 := lvR_get (g := g) (k := k) hq
    have h3 := lvM_len g m
    have h4 := lvR_len g k
    have hmo : moB g (k + 1) q last = decide (0 < wordsN g k q) := rfl
    rw [← hmo] at h2
    generalize moB g (k + 1) q last = R at *
    generalize lvR g k = L at *
    have hn' : n = k + 2 := by omega
    rw [← hn'] at h1
    generalize lvM g m = M at *
    refine ACall.of_sw 27 Try.func96 rfl Try.ntmps96 (by kernel_rfl) (Nat.le_of_ble_eq_true (by kernel_rfl)) ?_; refine SW.of_vc ?_
    repeat first | refine opsStep ?_ | refine codeStep ?_ | refine drawStep ?_
    refine decB_false (b := decide ((n : Int) = 1)) (decide_eq_false (by omega)) ?_
    repeat first | refine opsStep ?_ | refine codeStep ?_ | refine drawStep ?_
    refine guardE_of (by simp; omega) ?_
    repeat first | refine opsStep ?_ | refine codeStep ?_ | refine drawStep ?_
    refine guardE_of rfl ?_
    refine optE_of rfl ?_
    refine optE_of (c := aBs .any L) (by show M[0 + n * 1]? = _; simpa using h1) ?_
    repeat first | refine opsStep ?_ | refine codeStep ?_ | refine drawStep ?_
    refine guardE_of (by simp; omega) ?_
    repeat first | refine opsStep ?_ | refine codeStep ?_ | refine drawStep ?_
    refine optE_of (c := .bool R) (by simp [Value.cells, h2]) ?_
    repeat first | refine opsStep ?_ | refine codeStep ?_ | refine drawStep ?_
    exact finR (l := [(8, .bool R)]) (v := .bool R) ⟨(by kernel_rfl), trivial⟩ (by kernel_rfl) (Ent.refl _ _ _) (by kernel_rfl) ⟨rfl, rfl⟩

end Tab

/- pick: grow. -/
namespace Tab
open Go Go.Proofs
set_option maxRecDepth 10000
set_option linter.unusedVariables false
set_option linter.unusedSimpArgs false
set_option linter.unusedSectionVars false

def orTo (h : Nat → Bool) : Nat → Bool
  | 0 => false
  | k + 1 => orTo h k || h k
theorem orTo_iff {h : Nat → Bool} : ∀ {k}, orTo h k = true ↔ ∃ a, a < k ∧ h a = true
  | 0 => ⟨fun h => by simp [orTo] at h, fun ⟨a, h, _⟩ => by omega⟩
  | k + 1 => by
    rw [orTo, Bool.or_eq_true, orTo_iff (k := k)]
    constructor
    · rintro (⟨a, h1, h2⟩ | h1)
      · exact ⟨a, by omega, h2⟩
      · exact ⟨k, by omega, h1⟩
    · rintro ⟨a, h1, h2⟩
      by_cases e : a = k
      · subst e; exact .inr h2
      · exact .inl ⟨a, by omega, h2⟩
theorem or_words (g : Gr) (m q : Nat) : orTo (fun a => moB g m (g.st q a) (a : Int)) g.K = decide (0 < wordsN g m q) := by
  rw [Bool.eq_iff_iff, decide_eq_true_iff, orTo_iff, words_iff]
/-- A list of bools that is being filled. -/
def rwF (n : Nat) (f : Nat → Bool) (q : Nat) (b : Bool) : List AV := (List.range n).map fun j => .bool (if j < q then f j else if j = q then b else false)
theorem rwF_length (n f q b) : (rwF n f q b).length = n := by simp [rwF]
theorem rwF_get {n f q b} (h : q < n) : (rwF n f q b)[q]? = some (.bool b) := by simp [rwF, h]
theorem rwF_set (n f q b b') : (rwF n f q b).set q (.bool b') = rwF n f q b' := by
  refine List.ext_getElem (by simp [rwF]) fun j h1 h2 => ?_
  simp only [rwF, List.getElem_set, List.getElem_map, List.getElem_range]
  by_cases e : q = j
  · subst e; simp
  · rw [if_neg e]
    by_cases h : j < q
    · rw [if_pos h, if_pos h]
    · rw [if_neg h, if_neg h, if_neg (fun h => e h.symm), if_neg (fun h => e h.symm)]
theorem rwF_next (n f q) : rwF n f q (f q) = rwF n f (q + 1) false := by
  refine List.ext_getElem (by simp [rwF]) fun j h1 h2 => ?_
  simp only [rwF, List.getElem_map, List.getElem_range]
  by_cases h : j < q
  · rw [if_pos h, if_pos (by omega)]
  · rw [if_neg h]
    by_cases e : j = q
    · subst e; rw [if_pos rfl, if_pos (by omega)]
    · rw [if_neg e, if_neg (by omega)]
      split <;> rfl
theorem rwF_zero (n f) : rwF n f 0 false = List.replicate n (.bool false) := by
  refine List.ext_getElem (by simp [rwF]) fun j h1 h2 => ?_
  simp [rwF]
theorem rwF_all (g : Gr) (m : Nat) : rwF g.n (fun q => decide (0 < wordsN g m q)) g.n false = (lvR g m).map .bool := by
  refine List.ext_getElem (by simp [rwF, lvR]) fun j h1 h2 => ?_
  have : j < g.n := by simpa [rwF] using h1
  simp [rwF, lvR, this]
theorem rwF_bel (k n f q b) : bels k (rwF n f q b) := closeds_bel _ (closeds_iff.2 fun a ha => by obtain ⟨x, _, rfl⟩ := List.mem_map.1 ha; trivial)

set_option maxHeartbeats 1000000 in
theorem pick_grow (d : Den) (hd : rightS d = true) (g : Gr) (hgr : grD d = g) (n m : Nat) (hn : n = m + 2) (hm : m ≤ 62) (wd : AV) (B0 B1 B4 : Blk) (hb : blksBel 5 [B0, B1, .cells (m) (lvM g (m)), fC d (.hs 2 (m) 0 ((m) + 2) 1) wd, B4]) (hb' : blksBel 5 [B0, B1, .cells ((m + 1)) (lvM g ((m + 1))), fC d (.hs 2 ((m + 1)) 0 (((m + 1)) + 2) 1) wd, B4]) :
    ACall Try.prog 55 [.ref 3 0 0, .int .i64 (n : Nat)] [B0, B1, .cells (m) (lvM g (m)), fC d (.hs 2 (m) 0 ((m) + 2) 1) wd, B4] (fun o H' => o = .ret (.tup []) ∧ H' = [B0, B1, .cells ((m + 1)) (lvM g ((m + 1))), fC d (.hs 2 ((m + 1)) 0 (((m + 1)) + 2) 1) wd, B4]) := by
  have hrow := fun q hq => gr_row hd (q := q) hq
  have hgo := grD_ok hd
  have hnl : d.next.length = (grD d).n := (rightS_parts hd).2.1
  have hal : d.accept.length = (grD d).n := rfl
  rw [hgr] at hrow hgo hnl hal
  have hlet := hgo.let'
  have hbig := hgo.big
  have hmay := fun q hq (last : Int) => pick_may d hd g hgr m (m + 1) q m rfl (Nat.le_refl _) (by omega) hq last wd B0 B1 B4 hb
  have hdec : ((m + 1 : Nat) : Int) = IntKind.wrap .i64 ((n : Int) - 1) := by rw [IntWalk.i64_in _ (by omega)]; omega
  rw [hdec] at hmay
  obtain ⟨f, hf⟩ : ∃ f, (fun q => decide (0 < wordsN g m q)) = f := ⟨_, rfl⟩
  have hall := rwF_all g m
  have hor := or_words g m
  have hfq : ∀ q, decide (0 < wordsN g m q) = f q := fun q => congrFun hf q
  simp only [hfq] at hor
  rw [hf] at hall
  have hls := lvM_succ g m
  have hll := lvM_len g m
  have hlr := lvR_len g m
  have hrl := fun q b => rwF_length g.n f q b
  have hrg := fun q b (h : q < g.n) => rwF_get (n := g.n) (f := f) (b := b) h
  have hrs := fun q b b' => rwF_set g.n f q b b'
  have hrb := fun q b => rwF_bel 6 g.n f q b
  refine ACall.of_sw 61 Try.func55 rfl Try.ntmps55 (by kernel_rfl) (Nat.le_of_ble_eq_true (by kernel_rfl)) ?_; refine SW.of_vc ?_
  repeat first | refine opsStep ?_ | refine codeStep ?_ | refine drawStep ?_
  refine guardE_of ⟨by omega, by omega, by show ((1 : Nat) : Int) * _ ≤ _; omega, by omega⟩ ?_
  repeat first | refine opsStep ?_ | refine codeStep ?_ | refine drawStep ?_
  refine loopE_of (ι := {q : Nat // q ≤ g.n}) (fun q => (fr [(0, .ref 3 0 0), (1, .int .i64 (n : Nat)), (4, .hs 5 0 0 g.n 1), (20, aRs d.nk d.next), (21, .int .i64 (g.n : Nat)), (22, .int .i64 ((q.1) : Nat))], [B0, B1, .cells m (lvM g m), fC d (.hs 2 m 0 (m + 2) 1) wd, B4, .cells 0 (rwF g.n f (q.1) (false))])) (fun q => g.n - q.1) ⟨0, Nat.zero_le _⟩ ?_ ?_
  · exact Ent.fr' ⟨(by kernel_rfl), (by kernel_rfl), Eq.trans (b := .hs 5 0 0 d.accept.length 1) (by kernel_rfl) (by rw [hal]), (by kernel_rfl), Eq.trans (b := .int .i64 (d.next.length : Nat)) (by kernel_rfl) (by rw [hnl]), (by kernel_rfl), trivial⟩ (Eq.trans (b := [B0, B1, .cells m (lvM g m), fC d (.hs 2 m 0 (m + 2) 1) wd, B4, .cells 0 (reps [.bool false] d.accept.length)]) (by kernel_rfl) (by show _ = [B0, B1, .cells m (lvM g m), fC d (.hs 2 m 0 (m + 2) 1) wd, B4, .cells 0 (rwF g.n f (0) (false))]; rw [rwF_zero, reps_one, hal]))
  rintro ⟨q, hq⟩
  repeat first | refine opsStep ?_ | refine codeStep ?_ | refine drawStep ?_
  refine decB_dec (fun hqc => ?_) (fun hqc => ?_)
  · have hql : q < g.n := by have := hqc; simp at this; omega
    obtain ⟨r, g1, g2, g3, g4⟩ := hrow q hql
    have hfi := hor q
    repeat first | refine opsStep ?_ | refine codeStep ?_ | refine drawStep ?_
    refine guardE_of (by simp; omega) ?_
    repeat first | refine opsStep ?_ | refine codeStep ?_ | refine drawStep ?_
    refine optE_of (c := aIs r.1 r.2) (by simp [Value.cells, g1]) ?_
    repeat first | refine opsStep ?_ | refine codeStep ?_ | refine drawStep ?_
    refine loopE_of (ι := {a : Nat // a ≤ g.K}) (fun a => (fr [(0, .ref 3 0 0), (1, .int .i64 (n : Nat)), (4, .hs 5 0 0 g.n 1), (5, .int .i64 (q : Nat)), (20, aRs d.nk d.next), (21, .int .i64 (g.n : Nat)), (22, .int .i64 (q : Nat)), (27, aIs r.1 r.2), (28, .int .i64 (r.2.length : Nat)), (29, .int .i64 ((a.1) : Nat))], [B0, B1, .cells m (lvM g m), fC d (.hs 2 m 0 (m + 2) 1) wd, B4, .cells 0 (rwF g.n f (q) ((orTo (fun a => moB g m (g.st q a) (a : Int)) a.1)))])) (fun a => g.K - a.1) ⟨0, Nat.zero_le _⟩ (Ent.fr' ⟨(by kernel_rfl), (by kernel_rfl), (by kernel_rfl), (by kernel_rfl), (by kernel_rfl), (by kernel_rfl), (by kernel_rfl), (by kernel_rfl), (by kernel_rfl), (by kernel_rfl), trivial⟩ (by kernel_rfl)) ?_
    rintro ⟨a, ha⟩
    repeat first | refine opsStep ?_ | refine codeStep ?_ | refine drawStep ?_
    refine decB_dec (fun hac => ?_) (fun hac => ?_)
    · have hal : a < g.K := by have := hac; simp at this; omega
      obtain ⟨g5, g6⟩ := g4 a hal
      have har : a < r.2.length := by omega
      have hmay := hmay (g.st q a) g6 (a : Int)
      have hsu : orTo (fun a => moB g m (g.st q a) (a : Int)) (a + 1) = (orTo (fun a => moB g m (g.st q a) (a : Int)) a || moB g m (g.st q a) (a : Int)) := rfl
      obtain ⟨b2, hb2e⟩ : ∃ b2, orTo (fun a => moB g m (g.st q a) (a : Int)) (a + 1) = b2 := ⟨_, rfl⟩
      rw [hb2e] at hsu
      generalize orTo (fun a => moB g m (g.st q a) (a : Int)) a = b1 at *
      generalize moB g m (g.st q a) (a : Int) = b3 at *
      generalize g.st q a = to at *
      have hl1 := hrl q b1
      have hba : bels 5 [.ref 3 0 0, .int .i64 (IntKind.wrap .i64 ((n : Int) - 1)), .int .i64 (to : Nat), .int .i64 (a : Nat)] := by simp [bels, AV.bel]
      have hg1 := hrg q b1 hql
      have hset := hrs q b1 b2
      cases b1 with
      | true =>
        repeat first | refine opsStep ?_ | refine codeStep ?_ | refine drawStep ?_
        refine guardE_of (by simp; omega) ?_
        repeat first | refine opsStep ?_ | refine codeStep ?_ | refine drawStep ?_
        refine optE_of (c := .int .i64 (to : Nat)) (by simp [Value.cells, g5]) ?_
        repeat first | refine opsStep ?_ | refine codeStep ?_ | refine drawStep ?_
        refine guardE_of (by simp; omega) ?_
        repeat first | refine opsStep ?_ | refine codeStep ?_ | refine drawStep ?_
        refine optE_of (c := .bool true) (by show (rwF g.n f q true)[0 + q * 1]? = _; simpa using hg1) ?_
        repeat first | refine opsStep ?_ | refine codeStep ?_ | refine drawStep ?_
        refine guardE_of (by simp; omega) ?_
        repeat first | refine opsStep ?_ | refine codeStep ?_ | refine drawStep ?_
        refine guardE_of ⟨rfl, by decide, by show 0 + q * 1 + 1 ≤ (rwF g.n f q true).length; omega⟩ ?_
        repeat first | refine opsStep ?_ | refine codeStep ?_ | refine drawStep ?_
        refine ⟨⟨a + 1, hal⟩, (by show g.K - (a + 1) < g.K - a; omega), Ent.fr' ⟨(by kernel_rfl), (by kernel_rfl), (by kernel_rfl), (by kernel_rfl), (by kernel_rfl), (by kernel_rfl), (by kernel_rfl), (by kernel_rfl), (by kernel_rfl), inc_slot (i := a) (by omega), trivial⟩ ?_⟩
        refine Eq.trans (b := [B0, B1, .cells m (lvM g m), fC d (.hs 2 m 0 (m + 2) 1) wd, B4, .cells 0 (over (rwF g.n f q true) (0 + q * 1) [.bool true])]) (by kernel_rfl) ?_
        show _ = [B0, B1, .cells m (lvM g m), fC d (.hs 2 m 0 (m + 2) 1) wd, B4, .cells 0 (rwF g.n f (q) ((orTo (fun a => moB g m (g.st q a) (a : Int)) (a + 1))))]
        rw [hb2e, Nat.zero_add, Nat.mul_one, over_one (by omega)]
        rw [hsu] at hset ⊢
        exact congrArg (fun x => [B0, B1, .cells m (lvM g m), fC d (.hs 2 m 0 (m + 2) 1) wd, B4, .cells 0 x]) hset
      | false =>
        repeat first | refine opsStep ?_ | refine codeStep ?_ | refine drawStep ?_
        refine guardE_of (by simp; omega) ?_
        repeat first | refine opsStep ?_ | refine codeStep ?_ | refine drawStep ?_
        refine optE_of (c := .int .i64 (to : Nat)) (by simp [Value.cells, g5]) ?_
        repeat first | refine opsStep ?_ | refine codeStep ?_ | refine drawStep ?_
        refine guardE_of (by simp; omega) ?_
        repeat first | refine opsStep ?_ | refine codeStep ?_ | refine drawStep ?_
        refine optE_of (c := .bool false) (by show (rwF g.n f q false)[0 + q * 1]? = _; simpa using hg1) ?_
        repeat first | refine opsStep ?_ | refine codeStep ?_ | refine drawStep ?_
        refine callT hmay [.cells 0 (rwF g.n f q false)] rfl rfl hba hb hb trivial ?_
        repeat first | refine opsStep ?_ | refine codeStep ?_ | refine drawStep ?_
        refine guardE_of (by simp; omega) ?_
        repeat first | refine opsStep ?_ | refine codeStep ?_ | refine drawStep ?_
        refine guardE_of ⟨rfl, by decide, by show 0 + q * 1 + 1 ≤ (rwF g.n f q false).length; omega⟩ ?_
        repeat first | refine opsStep ?_ | refine codeStep ?_ | refine drawStep ?_
        refine ⟨⟨a + 1, hal⟩, (by show g.K - (a + 1) < g.K - a; omega), Ent.fr' ⟨(by kernel_rfl), (by kernel_rfl), (by kernel_rfl), (by kernel_rfl), (by kernel_rfl), (by kernel_rfl), (by kernel_rfl), (by kernel_rfl), (by kernel_rfl), inc_slot (i := a) (by omega), trivial⟩ ?_⟩
        refine Eq.trans (b := [B0, B1, .cells m (lvM g m), fC d (.hs 2 m 0 (m + 2) 1) wd, B4, .cells 0 (over (rwF g.n f q false) (0 + q * 1) [.bool b3])]) (by kernel_rfl) ?_
        show _ = [B0, B1, .cells m (lvM g m), fC d (.hs 2 m 0 (m + 2) 1) wd, B4, .cells 0 (rwF g.n f (q) ((orTo (fun a => moB g m (g.st q a) (a : Int)) (a + 1))))]
        rw [hb2e, Nat.zero_add, Nat.mul_one, over_one (by omega)]
        rw [hsu] at hset ⊢
        exact congrArg (fun x => [B0, B1, .cells m (lvM g m), fC d (.hs 2 m 0 (m + 2) 1) wd, B4, .cells 0 x]) hset
    · have hae : a = g.K := by have := hac; simp at this; omega
      subst hae
      repeat first | refine opsStep ?_ | refine codeStep ?_ | refine drawStep ?_
      refine ⟨⟨q + 1, hql⟩, (by show g.n - (q + 1) < g.n - q; omega), Ent.fr' ⟨(by kernel_rfl), (by kernel_rfl), (by kernel_rfl), (by kernel_rfl), (by kernel_rfl), inc_slot (i := q) (by omega), trivial⟩ (Eq.trans (b := [B0, B1, .cells m (lvM g m), fC d (.hs 2 m 0 (m + 2) 1) wd, B4, .cells 0 (rwF g.n f (q) ((orTo (fun a => moB g m (g.st q a) (a : Int)) g.K)))]) (by kernel_rfl) (by show _ = [B0, B1, .cells m (lvM g m), fC d (.hs 2 m 0 (m + 2) 1) wd, B4, .cells 0 (rwF g.n f ((q + 1)) (false))]; rw [hfi, rwF_next]))⟩
  · have hqe : q = g.n := by have := hqc; simp at this; omega
    subst hqe
    have hrl := hrl g.n false
    rw [hall] at hrl ⊢
    generalize lvM g m = M at *
    repeat first | refine opsStep ?_ | refine codeStep ?_ | refine drawStep ?_
    refine guardE_of ⟨rfl, by show 0 + (m + 2) * 1 ≤ M.length; omega⟩ ?_
    repeat first | refine opsStep ?_ | refine codeStep ?_ | refine drawStep ?_
    refine guardE_of rfl ?_
    repeat first | refine opsStep ?_ | refine codeStep ?_ | refine drawStep ?_
    refine guardE_of ⟨by show m + 2 + 1 ≤ 9223372036854775807; omega, by show (m + 2 + 1) * 24 ≤ 140737488355328; omega⟩ ?_
    repeat first | refine opsStep ?_ | refine codeStep ?_ | refine drawStep ?_
    have hM : (M.drop 0).take ((m + 2) * 1) = M := by rw [List.drop_zero, List.take_of_length_le (by omega)]
    refine finR (l := []) (v := .tup []) (H₁ := [B0, B1, .cells (m + 1) (M ++ [.hs 5 0 0 g.n 1]), fC d (.hs 2 (m + 1) 0 (m + 2 + 1) 1) wd, B4, .cells 0 ((lvR g m).map .bool), .cells 0 [.hs 5 0 0 g.n 1]]) trivial (Eq.trans (b := [B0, B1, .cells (m + 1) ((M.drop 0).take ((m + 2) * 1) ++ [.hs 5 0 0 g.n 1]), fC d (.hs 2 (m + 1) 0 (m + 2 + 1) 1) wd, B4, .cells 0 ((lvR g m).map .bool), .cells 0 [.hs 5 0 0 g.n 1]]) (by kernel_rfl) (by rw [hM]))
      ((Ent.freezeCell 2 (m + 2) (gc := m + 1) (ccs := M ++ [.hs 5 0 0 g.n 1]) (b := 5) (g := 0) (n := g.n) (es := 1) (cs := (lvR g m).map .bool) rfl (by rw [← hll]; simp) rfl (by decide) (by rw [List.length_map, hlr]; omega)).trans
        (Ent.frD (l := []) (H' := [B0, B1, .cells ((m + 1)) (lvM g ((m + 1))), fC d (.hs 2 ((m + 1)) 0 (((m + 1)) + 2) 1) wd, B4]) (X := [.fro 0 ((lvR g m).map .bool), .cells 0 [.hs 5 0 0 g.n 1]]) trivial ?_ (Nat.le_of_ble_eq_true (by kernel_rfl)) trivial hb')) (by kernel_rfl) ⟨rfl, rfl⟩
    have hset : (M ++ [AV.hs 5 0 0 g.n 1]).set (m + 2) (.sl .any g.n ((lvR g m).map .bool)) = lvM g (m + 1) := by
      rw [hls, ← hll, List.set_append_right _ _ (Nat.le_refl _), Nat.sub_self, aBs, hlr]; rfl
    show [B0, B1, Blk.cells (m + 1) ((M ++ [AV.hs 5 0 0 g.n 1]).set (m + 2) (.sl .any g.n ((lvR g m).map .bool))), fC d (.hs 2 (m + 1) 0 (m + 2 + 1) 1) wd, B4, .fro 0 ((lvR g m).map .bool), .cells 0 [AV.hs 5 0 0 g.n 1]] = _
    rw [hset]
    rfl

end Tab

/- pick: ends and may of a finder that nobody writes: as values. -/
namespace Tab
open Go Go.Proofs
set_option maxRecDepth 10000
set_option linter.unusedVariables false
set_option linter.unusedSimpArgs false
set_option linter.unusedSectionVars false

/-- The finder, read. -/
def wfT' (d : Den) (g : Gr) (m : Nat) : AV := .tref (d.cells ++ [.sl .any (m + 2) (lvM g m), .int .i64 64, .junk])
theorem wfT'_closed (d g m) : (wfT' d g m).closed := by
  show closeds [aSs d.tk d.tracks, aBs d.ak d.accept, aRs d.nk d.next, .sl .any (m + 2) (lvM g m), .int .i64 64, .junk]
  exact ⟨aSs_closed _ _, aBs_closed _ _, aRs_closed _ _, lvM_closed g m, trivial, trivial, trivial⟩
theorem pick_endsP (d : Den) (hd : rightS d = true) (g : Gr) (hgr : grD d = g) (m q : Nat) (hq : q < g.n) (last : Int) :
    Pure Try.prog 97 [wfT' d g m, .int .i64 (q : Nat), .int .i64 last] (aIs .any (eL g q last)) := by
  have hrow := fun q hq => gr_row hd (q := q) hq
  have hacc := fun c (h : c < (grD d).n) => gr_acc (d := d) h
  have hgo := grD_ok hd
  rw [hgr] at hrow hacc hgo
  have hlet := hgo.let'
  obtain ⟨r, g1, g2, g3, g4⟩ := hrow q hq
  have hle := fun j => eT_le g q last j
  have hbm : ∀ j, bels 1 (eM g q last j) := fun j => closeds_bel _ (closeds_iff.2 fun a ha => by obtain ⟨x, _, rfl⟩ := List.mem_map.1 ha; trivial)
  have hcl := aIs_closed .any (eL g q last)
  rw [eM_all] at hcl ⊢
  refine Pure.of_sw 43 Try.func97 rfl Try.ntmps97 (by kernel_rfl) (Nat.le_of_ble_eq_true (by kernel_rfl)) ⟨wfT'_closed d g m, trivial, trivial, trivial⟩ hcl ?_; refine SW.of_vc ?_
  repeat first | refine opsStep ?_ | refine codeStep ?_ | refine drawStep ?_
  refine guardE_of (by simp; omega) ?_
  repeat first | refine opsStep ?_ | refine codeStep ?_ | refine drawStep ?_
  refine optE_of (c := aIs r.1 r.2) (by simp [Value.cells, g1]) ?_
  repeat first | refine opsStep ?_ | refine codeStep ?_ | refine drawStep ?_
  refine loopE_of (ι := {j : Nat // j ≤ g.K}) (fun j => (fr [(0, wfT' d g m), (2, .int .i64 last), (7, .hs 0 (eT g q last (j.1)).length 0 (eT g q last (j.1)).length 1), (17, aIs r.1 r.2), (18, .int .i64 (r.2.length : Nat)), (19, .int .i64 ((j.1) : Nat))], [Blk.cells (eT g q last (j.1)).length (eM g q last (j.1))])) (fun j => g.K - j.1) ⟨0, Nat.zero_le _⟩ ?_ ?_
  · exact ((Ent.fr' (l := [(0, wfT' d g m), (2, .int .i64 last), (7, .sl .nil 0 []), (17, aIs r.1 r.2), (18, .int .i64 (r.2.length : Nat)), (19, .int .i64 (0 : Nat))]) (H' := []) ⟨(by kernel_rfl), (by kernel_rfl), (by kernel_rfl), (by kernel_rfl), (by kernel_rfl), (by kernel_rfl), trivial⟩ (by kernel_rfl)).trans (Ent.nil 7 1 rfl)).trans (Ent.fr' ⟨(by kernel_rfl), (by kernel_rfl), (by kernel_rfl), (by kernel_rfl), (by kernel_rfl), (by kernel_rfl), trivial⟩ (by kernel_rfl))
  rintro ⟨j, hj⟩
  repeat first | refine opsStep ?_ | refine codeStep ?_ | refine drawStep ?_
  refine decB_dec (fun hjc => ?_) (fun hjc => ?_)
  · have hjl : j < g.K := by have := hjc; simp at this; omega
    obtain ⟨g5, g6⟩ := g4 j hjl
    have hjr : j < r.2.length := by omega
    have hac := hacc _ g6
    have hal := (List.getElem?_eq_some_iff.1 hac).1
    have hyes := eM_yes (g := g) (q := q) (last := last) (j := j)
    have hno := eM_no (g := g) (q := q) (last := last) (j := j)
    have hlej := hle j
    have hlen := eM_len g q last j
    generalize g.st q j = to at *
    by_cases hne : (j : Int) = last
    · have hno := hno (.inl hne)
      repeat first | refine opsStep ?_ | refine codeStep ?_ | refine drawStep ?_
      refine guardE_of (by simp; omega) ?_
      repeat first | refine opsStep ?_ | refine codeStep ?_ | refine drawStep ?_
      refine optE_of (c := .int .i64 (to : Nat)) (by simp [Value.cells, g5]) ?_
      repeat first | refine opsStep ?_ | refine codeStep ?_ | refine drawStep ?_
      refine decB_false (b := decide ((j : Int) ≠ last)) (decide_eq_false (by omega)) ?_
      repeat first | refine opsStep ?_ | refine codeStep ?_ | refine drawStep ?_
      refine ⟨⟨j + 1, hjl⟩, (by show g.K - (j + 1) < g.K - j; omega), Ent.fr' ⟨(by kernel_rfl), (by kernel_rfl), Eq.trans (b := .hs 0 (eT g q last j).length 0 (eT g q last j).length 1) (by kernel_rfl) (by rw [hno.2]), (by kernel_rfl), (by kernel_rfl), inc_slot (i := j) (by omega), trivial⟩ (Eq.trans (b := [Blk.cells (eT g q last (j)).length (eM g q last (j))]) (by kernel_rfl) (by show [Blk.cells (eT g q last (j)).length (eM g q last (j))] = [Blk.cells (eT g q last (j + 1)).length (eM g q last (j + 1))]; rw [hno.1, hno.2]))⟩
    · cases hb2 : g.ac to with
      | false =>
        have hno := hno (.inr hb2)
        rw [hb2] at hac
        repeat first | refine opsStep ?_ | refine codeStep ?_ | refine drawStep ?_
        refine guardE_of (by simp; omega) ?_
        repeat first | refine opsStep ?_ | refine codeStep ?_ | refine drawStep ?_
        refine optE_of (c := .int .i64 (to : Nat)) (by simp [Value.cells, g5]) ?_
        repeat first | refine opsStep ?_ | refine codeStep ?_ | refine drawStep ?_
        refine decB_true (b := decide ((j : Int) ≠ last)) (decide_eq_true (by omega)) ?_
        repeat first | refine opsStep ?_ | refine codeStep ?_ | refine drawStep ?_
        refine guardE_of (by simp; omega) ?_
        repeat first | refine opsStep ?_ | refine codeStep ?_ | refine drawStep ?_
        refine optE_of (c := .bool false) (by simp [Value.cells, hac]) ?_
        repeat first | refine opsStep ?_ | refine codeStep ?_ | refine drawStep ?_
        refine ⟨⟨j + 1, hjl⟩, (by show g.K - (j + 1) < g.K - j; omega), Ent.fr' ⟨(by kernel_rfl), (by kernel_rfl), Eq.trans (b := .hs 0 (eT g q last j).length 0 (eT g q last j).length 1) (by kernel_rfl) (by rw [hno.2]), (by kernel_rfl), (by kernel_rfl), inc_slot (i := j) (by omega), trivial⟩ (Eq.trans (b := [Blk.cells (eT g q last (j)).length (eM g q last (j))]) (by kernel_rfl) (by show [Blk.cells (eT g q last (j)).length (eM g q last (j))] = [Blk.cells (eT g q last (j + 1)).length (eM g q last (j + 1))]; rw [hno.1, hno.2]))⟩
      | true =>
        have hyes := hyes (by omega) hb2
        rw [hb2] at hac
        repeat first | refine opsStep ?_ | refine codeStep ?_ | refine drawStep ?_
        refine guardE_of (by simp; omega) ?_
        repeat first | refine opsStep ?_ | refine codeStep ?_ | refine drawStep ?_
        refine optE_of (c := .int .i64 (to : Nat)) (by simp [Value.cells, g5]) ?_
        repeat first | refine opsStep ?_ | refine codeStep ?_ | refine drawStep ?_
        refine decB_true (b := decide ((j : Int) ≠ last)) (decide_eq_true (by omega)) ?_
        repeat first | refine opsStep ?_ | refine codeStep ?_ | refine drawStep ?_
        refine guardE_of (by simp; omega) ?_
        repeat first | refine opsStep ?_ | refine codeStep ?_ | refine drawStep ?_
        refine optE_of (c := .bool true) (by simp [Value.cells, hac]) ?_
        repeat first | refine opsStep ?_ | refine codeStep ?_ | refine drawStep ?_
        refine guardE_of ⟨rfl, by show 0 + (eT g q last j).length * 1 ≤ (eM g q last j).length; omega⟩ ?_
        repeat first | refine opsStep ?_ | refine codeStep ?_ | refine drawStep ?_
        refine guardE_of rfl ?_
        repeat first | refine opsStep ?_ | refine codeStep ?_ | refine drawStep ?_
        refine guardE_of ⟨by show (eT g q last j).length + 1 ≤ 9223372036854775807; omega, by show ((eT g q last j).length + 1) * 8 ≤ 140737488355328; omega⟩ ?_
        repeat first | refine opsStep ?_ | refine codeStep ?_ | refine drawStep ?_
        refine ⟨⟨j + 1, hjl⟩, (by show g.K - (j + 1) < g.K - j; omega), Ent.frD (X := [.cells 0 [.int .i64 (j : Nat)]]) ⟨(by kernel_rfl), (by kernel_rfl), Eq.trans (b := .hs 0 ((eT g q last j).length + 1) 0 ((eT g q last j).length + 1) 1) (by kernel_rfl) (by rw [hyes.2]), (by kernel_rfl), (by kernel_rfl), inc_slot (i := j) (by omega), trivial⟩ ?_ (Nat.le_of_ble_eq_true (by kernel_rfl)) ?_ ?_⟩
        · refine Eq.trans (b := [.cells ((eT g q last j).length + 1) (((eM g q last j).drop 0).take ((eT g q last j).length * 1) ++ [.int .i64 (j : Nat)]), .cells 0 [.int .i64 (j : Nat)]]) (by kernel_rfl) ?_
          show _ = [Blk.cells (eT g q last (j + 1)).length (eM g q last (j + 1))] ++ [.cells 0 [.int .i64 (j : Nat)]]
          rw [hyes.1, hyes.2, List.drop_zero, List.take_of_length_le (by omega)]
          rfl
        · simp [frBel, AV.bel, aIs_bel, AV.closed_bel _ (wfT'_closed d g m)]
        · exact ⟨hbm (j + 1), trivial⟩
  · have hje : j = g.K := by have := hjc; simp at this; omega
    subst hje
    repeat first | refine opsStep ?_ | refine codeStep ?_ | refine drawStep ?_
    exact finFrz 6 (b := 0) (g := (eT g q last g.K).length) (es := 1) (by kernel_rfl) (by kernel_rfl) (by rw [eM_len]; omega) (by kernel_rfl)

theorem pick_mayP (d : Den) (hd : rightS d = true) (g : Gr) (hgr : grD d = g) (k n q m : Nat) (hn : n = k + 1) (hk : k ≤ m) (hm : m ≤ 64) (hq : q < g.n) (last : Int) :
    Pure Try.prog 96 [wfT' d g m, .int .i64 (n : Nat), .int .i64 (q : Nat), .int .i64 last] (.bool (moB g k q last)) := by
  cases k with
  | zero =>
    have he := pick_endsP d hd g hgr m q hq last
    subst hn
    have hlen : decide (((eL g q last).length : Int) > 0) = moB g 0 q last := by
      rw [moB]; exact decide_eq_decide.2 ⟨fun h => by omega, fun h => by omega⟩
    generalize eL g q last = L at *
    refine Pure.of_sw 27 Try.func96 rfl Try.ntmps96 (by kernel_rfl) (Nat.le_of_ble_eq_true (by kernel_rfl)) ⟨wfT'_closed d g m, trivial, trivial, trivial, trivial⟩ trivial ?_; refine SW.of_vc ?_
    repeat first | refine opsStep ?_ | refine codeStep ?_ | refine drawStep ?_
    refine callP he ?_
    repeat first | refine opsStep ?_ | refine codeStep ?_ | refine drawStep ?_
    exact finB (b' := decide ((L.length : Int) > 0)) (by kernel_rfl) hlen
  | succ k =>
    have h1 := lvM_get (g := g) (m := m) (k := k) (by omega)
    have h2 := lvR_get (g := g) (k := k) hq
    have h3 := lvM_len g m
    have h4 := lvR_len g k
    have hmo : moB g (k + 1) q last = decide (0 < wordsN g k q) := rfl
    rw [← hmo] at h2
    generalize moB g (k + 1) q last = R at *
    generalize lvR g k = L at *
    have hn' : n = k + 2 := by omega
    rw [← hn'] at h1
    refine Pure.of_sw 27 Try.func96 rfl Try.ntmps96 (by kernel_rfl) (Nat.le_of_ble_eq_true (by kernel_rfl)) ⟨wfT'_closed d g m, trivial, trivial, trivial, trivial⟩ trivial ?_; refine SW.of_vc ?_
    generalize hM : lvM g m = M at *
    repeat first | refine opsStep ?_ | refine codeStep ?_ | refine drawStep ?_
    refine decB_false (b := decide ((n : Int) = 1)) (decide_eq_false (by omega)) ?_
    repeat first | refine opsStep ?_ | refine codeStep ?_ | refine drawStep ?_
    refine guardE_of (by simp; omega) ?_
    repeat first | refine opsStep ?_ | refine codeStep ?_ | refine drawStep ?_
    refine optE_of (c := aBs .any L) (by simp [Value.cells, hM, h1]) ?_
    repeat first | refine opsStep ?_ | refine codeStep ?_ | refine drawStep ?_
    refine guardE_of (by simp; omega) ?_
    repeat first | refine opsStep ?_ | refine codeStep ?_ | refine drawStep ?_
    refine optE_of (c := .bool R) (by simp [Value.cells, h2]) ?_
    repeat first | refine opsStep ?_ | refine codeStep ?_ | refine drawStep ?_
    exact finB (b' := R) (by kernel_rfl) rfl

end Tab

/- pick: find. -/
namespace Tab
open Go Go.Proofs
set_option maxRecDepth 10000
set_option linter.unusedVariables false
set_option linter.unusedSimpArgs false
set_option linter.unusedSectionVars false

def wM (W : List (List Int)) : List AV := W.map fun w => aIs .any w
theorem wM_len (W) : (wM W).length = W.length := by simp [wM]
theorem wM_closed (W) : closeds (wM W) := by
  rw [closeds_iff]; intro a ha
  obtain ⟨w, _, rfl⟩ := List.mem_map.1 ha
  exact aIs_closed _ _
theorem wM_snoc (W w) : wM (W ++ [w]) = wM W ++ [aIs .any w] := by simp [wM]
theorem fB_bel (d : Den) (g : Gr) (m : Nat) (B0 B1 : Blk) (h0 : B0.bel 5) (h1 : B1.bel 5) (W : List (List Int)) : blksBel 5 [B0, B1, .cells m (lvM g m), fC d (.hs 2 m 0 (m + 2) 1) (.hs 4 (W).length 0 (W).length 1), .cells (W).length (wM (W))] := by
  refine ⟨h0, h1, closeds_bel _ (lvM_closed g m), ?_, closeds_bel _ (wM_closed W), trivial⟩
  show bels 5 (d.cells ++ _)
  rw [bels_append]
  exact ⟨cells_bel _ _, by simp [bels, AV.bel]⟩
theorem lastI_get {h : List Int} (hl : 0 < h.length) : (h.map (AV.int .i64))[h.length - 1]? = some (.int .i64 (lastI h)) := by
  obtain ⟨l, a, rfl⟩ : ∃ l a, h = l ++ [a] := ⟨h.dropLast, h.getLast (by intro e; subst e; simp at hl), (List.dropLast_concat_getLast _).symm⟩
  rw [lastI_snoc]; simp
theorem aIs_snoc (h : List Int) (a : Int) : aIs .any (h ++ [a]) = .sl .any (h.length + 1) (((h.map (AV.int .i64)).drop 0).take (h.length * 1) ++ [.int .i64 a]) := by
  rw [List.drop_zero, List.take_of_length_le (by simp), aIs, List.map_append, List.length_append]; rfl
theorem fC_rd (d : Den) (g : Gr) (m : Nat) (wd : AV) : RdS [(3, fC d (.hs 2 m 0 (m + 2) 1) wd), (2, .cells m (lvM g m))] (.ref 3 0 0) (wfT' d g m) := by
  refine RdS.ref (cs := d.cells ++ [.hs 2 m 0 (m + 2) 1, .int .i64 64, wd]) (by rw [fC]; simp) fun i a' hi => ?_
  match i with
  | 0 => cases hi; exact ⟨_, rfl, RdS.same _ _⟩
  | 1 => cases hi; exact ⟨_, rfl, RdS.same _ _⟩
  | 2 => cases hi; exact ⟨_, rfl, RdS.same _ _⟩
  | 3 => cases hi; exact ⟨_, rfl, RdS.hs (by simp) (lvM_len g m).symm⟩
  | 4 => cases hi; exact ⟨_, rfl, RdS.same _ _⟩
  | 5 => cases hi; exact ⟨_, rfl, RdS.junk _ _⟩
  | i + 6 => simp [Den.cells] at hi
set_option maxHeartbeats 1000000 in
theorem pick_find (d : Den) (hd : rightS d = true) (g : Gr) (hgr : grD d = g) (m : Nat) (hm : m ≤ 63) (B0 B1 : Blk) (hb0 : B0.bel 5) (hb1 : B1.bel 5) : ∀ (k n q : Nat) (h : List Int) (W : List (List Int)), n = k + 1 → k ≤ m → q < g.n → h.length + k ≤ 64 → W.length ≤ 64 →
    ACall Try.prog 56 [.ref 3 0 0, .int .i64 (n : Nat), .int .i64 (q : Nat), aIs .any h] [B0, B1, .cells m (lvM g m), fC d (.hs 2 m 0 (m + 2) 1) (.hs 4 (W).length 0 (W).length 1), .cells (W).length (wM (W))] (fun o H' => o = .ret (.tup []) ∧ H' = [B0, B1, .cells m (lvM g m), fC d (.hs 2 m 0 (m + 2) 1) (.hs 4 (((W ++ wfL g k q h).take 64)).length 0 (((W ++ wfL g k q h).take 64)).length 1), .cells (((W ++ wfL g k q h).take 64)).length (wM (((W ++ wfL g k q h).take 64)))]) := by
  have hbel := fB_bel d g m B0 B1 hb0 hb1
  have hgo := grD_ok hd
  rw [hgr] at hgo
  have hlet := hgo.let'
  intro k
  induction k with
  | zero =>
    intro n q h W hn hk hq hh hW
    subst hn
    have he := pick_ends d hd g hgr q hq (lastI h) (.hs 2 m 0 (m + 2) 1) (.hs 4 W.length 0 W.length 1) B0 B1 (.cells m (lvM g m)) (.cells W.length (wM W)) (hbel W)
    have hw : 0 < h.length → IntKind.wrap .i64 ((h.length : Int) - 1) = ((h.length - 1 : Nat) : Int) := fun hl => by rw [IntWalk.i64_in _ (by omega)]; omega
    have hLl : (eL g q (lastI h)).length ≤ 64 := by rw [eL, List.length_map]; exact Nat.le_trans (eT_le _ _ _ _) hlet
    have hfl : wfL g 0 q h = (eL g q (lastI h)).map fun a => h ++ [a] := rfl
    have hcl := slices_Clone_I_new .any h (by omega)
    rw [hfl]
    generalize eL g q (lastI h) = L at *
    refine ACall.of_sw 101 Try.func56 rfl Try.ntmps56 (by kernel_rfl) (Nat.le_of_ble_eq_true (by kernel_rfl)) ?_; refine SW.of_vc ?_
    iterate 4 (first | refine opsStep ?_ | refine codeStep ?_)
    refine VCode.upto (fr [(0, .ref 3 0 0), (1, .int .i64 (1)), (2, .int .i64 (q : Nat)), (3, aIs .any h), (8, .int .i64 (lastI h))]) [B0, B1, .cells m (lvM g m), fC d (.hs 2 m 0 (m + 2) 1) (.hs 4 (W).length 0 (W).length 1), .cells (W).length (wM (W))] ?_ ?_
    · repeat first | refine opsStep ?_ | refine codeStep ?_ | refine drawStep ?_
      refine decB_dec (fun hl => ?_) (fun hl => ?_)
      · have hl' : 0 < h.length := by have := hl; simp at this; omega
        have hw := hw hl'
        have hget := lastI_get hl'
        repeat first | refine opsStep ?_ | refine codeStep ?_ | refine drawStep ?_
        refine guardE_of (by rw [hw]; simp; omega) ?_
        repeat first | refine opsStep ?_ | refine codeStep ?_ | refine drawStep ?_
        refine optE_of (c := .int .i64 (lastI h)) (by rw [hw]; simpa [Value.cells] using hget) ?_
        repeat first | refine opsStep ?_ | refine codeStep ?_ | refine drawStep ?_
        show Ent _ _ _ _ _
        exact Ent.fr' ⟨(by kernel_rfl), (by kernel_rfl), (by kernel_rfl), (by kernel_rfl), (by kernel_rfl), trivial⟩ (by kernel_rfl)
      · have hl' : h = [] := List.length_eq_zero_iff.1 (by have := hl; simp at this; omega)
        repeat first | refine opsStep ?_ | refine codeStep ?_ | refine drawStep ?_
        show Ent _ _ _ _ _
        exact Ent.fr' ⟨(by kernel_rfl), (by kernel_rfl), (by kernel_rfl), (by kernel_rfl), Eq.trans (b := .int .i64 (-1)) (by kernel_rfl) (by rw [hl']; rfl), trivial⟩ (by kernel_rfl)
    repeat first | refine opsStep ?_ | refine codeStep ?_ | refine drawStep ?_
    refine callH he ?_
    repeat first | refine opsStep ?_ | refine codeStep ?_ | refine drawStep ?_
    refine loopE_of (ι := {i : Nat // i ≤ L.length}) (fun i => (fr [(0, .ref 3 0 0), (3, aIs .any h), (27, aIs .any L), (28, .int .i64 (L.length : Nat)), (29, .int .i64 (i.1 : Nat))], [B0, B1, .cells m (lvM g m), fC d (.hs 2 m 0 (m + 2) 1) (.hs 4 (((W ++ (L.take i.1).map fun a => h ++ [a]).take 64)).length 0 (((W ++ (L.take i.1).map fun a => h ++ [a]).take 64)).length 1), .cells (((W ++ (L.take i.1).map fun a => h ++ [a]).take 64)).length (wM (((W ++ (L.take i.1).map fun a => h ++ [a]).take 64)))])) (fun i => L.length - i.1) ⟨0, Nat.zero_le _⟩ ?_ ?_
    · refine Ent.fr' ⟨(by kernel_rfl), (by kernel_rfl), (by kernel_rfl), (by kernel_rfl), (by kernel_rfl), trivial⟩ (Eq.trans (b := [B0, B1, .cells m (lvM g m), fC d (.hs 2 m 0 (m + 2) 1) (.hs 4 (W).length 0 (W).length 1), .cells (W).length (wM (W))]) (by kernel_rfl) ?_)
      show _ = [B0, B1, .cells m (lvM g m), fC d (.hs 2 m 0 (m + 2) 1) (.hs 4 (((W ++ (L.take 0).map fun a => h ++ [a]).take 64)).length 0 (((W ++ (L.take 0).map fun a => h ++ [a]).take 64)).length 1), .cells (((W ++ (L.take 0).map fun a => h ++ [a]).take 64)).length (wM (((W ++ (L.take 0).map fun a => h ++ [a]).take 64)))]
      rw [List.take_zero, List.map_nil, List.append_nil, List.take_of_length_le hW]
    rintro ⟨i, hi⟩
    repeat first | refine opsStep ?_ | refine codeStep ?_ | refine drawStep ?_
    refine decB_dec (fun hic => ?_) (fun hic => ?_)
    · have hil : i < L.length := by have := hic; simp at this; omega
      have hgi : L[i]? = some L[i] := List.getElem?_eq_getElem hil
      have hst : L.take (i + 1) = L.take i ++ [L[i]] := List.take_succ_eq_append_getElem hil
      generalize L[i] = a at *
      have hU' : (W ++ (L.take (i + 1)).map fun a => h ++ [a]).take 64 = ((W ++ (L.take i).map fun a => h ++ [a]).take 64 ++ [h ++ [a]]).take 64 := by
        rw [take_more, hst, List.map_append, List.append_assoc]; rfl
      have hU64 : ((W ++ (L.take i).map fun a => h ++ [a]).take 64).length ≤ 64 := by rw [List.length_take]; omega
      obtain ⟨U', hUe⟩ : ∃ U', (W ++ (L.take (i + 1)).map fun a => h ++ [a]).take 64 = U' := ⟨_, rfl⟩
      rw [hUe] at hU'
      generalize hUf : (W ++ (L.take i).map fun a => h ++ [a]).take 64 = U at *
      have hbU := hbel U'
      by_cases hlt : U.length < 64
      · have hU2 : U' = U ++ [h ++ [a]] := by rw [hU', List.take_of_length_le (by rw [List.length_append]; simp; omega)]
        have hwl := wM_len U
        have hsn := aIs_snoc h a
        have hcs : (h.length + 1) * 1 = (((h.map (AV.int .i64)).drop 0).take (h.length * 1) ++ [AV.int .i64 a]).length := by
          rw [List.drop_zero, List.take_of_length_le (by simp)]; simp
        repeat first | refine opsStep ?_ | refine codeStep ?_ | refine drawStep ?_
        refine guardE_of (by simp; omega) ?_
        repeat first | refine opsStep ?_ | refine codeStep ?_ | refine drawStep ?_
        refine optE_of (c := .int .i64 a) (by simp [Value.cells, hgi]) ?_
        repeat first | refine opsStep ?_ | refine codeStep ?_ | refine drawStep ?_
        refine SW.drawn rfl (by kernel_rfl) ?_
        repeat first | refine opsStep ?_ | refine codeStep ?_ | refine drawStep ?_
        refine ⟨by kernel_rfl, ?_⟩
        repeat first | refine opsStep ?_ | refine codeStep ?_ | refine drawStep ?_
        refine decB_dec (fun hc => ?_) (fun hc => ?_)
        · repeat first | refine opsStep ?_ | refine codeStep ?_ | refine drawStep ?_
          refine SW.drawn rfl (by kernel_rfl) ?_
          repeat first | refine opsStep ?_ | refine codeStep ?_ | refine drawStep ?_
          refine .inr ⟨_, _, _, hcl, ?_⟩
          iterate 2 refine drawStep ?_
          refine drawFrz ?_
          refine guardE_of ⟨rfl, by show 0 + h.length * 1 ≤ (h.map (AV.int .i64)).length; simp⟩ ?_
          refine guardE_of rfl ?_
          refine guardE_of ⟨by omega, by show (h.length + 1) * 8 ≤ 140737488355328; omega⟩ ?_
          refine ⟨rfl, rfl, hcs, ?_⟩
          repeat first | refine opsStep ?_ | refine codeStep ?_ | refine drawStep ?_
          refine guardE_of ⟨rfl, by show 0 + U.length * 1 ≤ (wM U).length; omega⟩ ?_
          repeat first | refine opsStep ?_ | refine codeStep ?_ | refine drawStep ?_
          refine guardE_of rfl ?_
          repeat first | refine opsStep ?_ | refine codeStep ?_ | refine drawStep ?_
          refine guardE_of ⟨by show U.length + 1 ≤ 9223372036854775807; omega, by show (U.length + 1) * 24 ≤ 140737488355328; omega⟩ ?_
          repeat first | refine opsStep ?_ | refine codeStep ?_ | refine drawStep ?_
          refine ⟨by kernel_rfl, ?_⟩
          repeat first | refine opsStep ?_ | refine codeStep ?_ | refine drawStep ?_
          refine ⟨⟨i + 1, hil⟩, (by show L.length - (i + 1) < L.length - i; omega), Ent.frD (X := [.fro 1 (((h.map (AV.int .i64)).drop 0).take (h.length * 1) ++ [AV.int .i64 a]), .cells 0 [.int .i64 a], .cells 0 [.sl .any (h.length + 1) (((h.map (AV.int .i64)).drop 0).take (h.length * 1) ++ [AV.int .i64 a])]]) ⟨(by kernel_rfl), (by kernel_rfl), (by kernel_rfl), (by kernel_rfl), inc_slot (i := i) (by omega), trivial⟩ ?_ (Nat.le_of_ble_eq_true (by kernel_rfl)) (by simp [frBel, AV.bel, aIs_bel]) ?_⟩
          · refine Eq.trans (b := [B0, B1, .cells m (lvM g m), fC d (.hs 2 m 0 (m + 2) 1) (.hs 4 (U.length + 1) 0 (U.length + 1) 1), .cells (U.length + 1) (((wM U).drop 0).take (U.length * 1) ++ [.sl .any (h.length + 1) (((h.map (AV.int .i64)).drop 0).take (h.length * 1) ++ [AV.int .i64 a])]), .fro 1 (((h.map (AV.int .i64)).drop 0).take (h.length * 1) ++ [AV.int .i64 a]), .cells 0 [.int .i64 a], .cells 0 [.sl .any (h.length + 1) (((h.map (AV.int .i64)).drop 0).take (h.length * 1) ++ [AV.int .i64 a])]]) (by kernel_rfl) ?_
            show _ = [B0, B1, .cells m (lvM g m), fC d (.hs 2 m 0 (m + 2) 1) (.hs 4 (((W ++ (L.take (i + 1)).map fun a => h ++ [a]).take 64)).length 0 (((W ++ (L.take (i + 1)).map fun a => h ++ [a]).take 64)).length 1), .cells (((W ++ (L.take (i + 1)).map fun a => h ++ [a]).take 64)).length (wM (((W ++ (L.take (i + 1)).map fun a => h ++ [a]).take 64)))] ++ [.fro 1 (((h.map (AV.int .i64)).drop 0).take (h.length * 1) ++ [AV.int .i64 a]), .cells 0 [.int .i64 a], .cells 0 [.sl .any (h.length + 1) (((h.map (AV.int .i64)).drop 0).take (h.length * 1) ++ [AV.int .i64 a])]]
            rw [hUe, hU2, wM_snoc, hsn, List.length_append, List.drop_zero (l := wM U), List.take_of_length_le (l := wM U) (by omega)]
            rfl
          · show blksBel 5 [B0, B1, .cells m (lvM g m), fC d (.hs 2 m 0 (m + 2) 1) (.hs 4 (((W ++ (L.take (i + 1)).map fun a => h ++ [a]).take 64)).length 0 (((W ++ (L.take (i + 1)).map fun a => h ++ [a]).take 64)).length 1), .cells (((W ++ (L.take (i + 1)).map fun a => h ++ [a]).take 64)).length (wM (((W ++ (L.take (i + 1)).map fun a => h ++ [a]).take 64)))]
            rw [hUe]; exact hbU
        · exact absurd hlt (by have := hc; omega)
      · have hU2 : U' = U := by rw [hU', take_full _ hlt, List.take_of_length_le hU64]
        repeat first | refine opsStep ?_ | refine codeStep ?_ | refine drawStep ?_
        refine guardE_of (by simp; omega) ?_
        repeat first | refine opsStep ?_ | refine codeStep ?_ | refine drawStep ?_
        refine optE_of (c := .int .i64 a) (by simp [Value.cells, hgi]) ?_
        repeat first | refine opsStep ?_ | refine codeStep ?_ | refine drawStep ?_
        refine SW.drawn rfl (by kernel_rfl) ?_
        repeat first | refine opsStep ?_ | refine codeStep ?_ | refine drawStep ?_
        refine ⟨by kernel_rfl, ?_⟩
        repeat first | refine opsStep ?_ | refine codeStep ?_ | refine drawStep ?_
        refine decB_dec (fun hc => ?_) (fun hc => ?_)
        · exact absurd hc (by omega)
        · repeat first | refine opsStep ?_ | refine codeStep ?_ | refine drawStep ?_
          refine ⟨⟨i + 1, hil⟩, (by show L.length - (i + 1) < L.length - i; omega), Ent.fr' ⟨(by kernel_rfl), (by kernel_rfl), (by kernel_rfl), (by kernel_rfl), inc_slot (i := i) (by omega), trivial⟩ (Eq.trans (b := [B0, B1, .cells m (lvM g m), fC d (.hs 2 m 0 (m + 2) 1) (.hs 4 (U).length 0 (U).length 1), .cells (U).length (wM (U))]) (by kernel_rfl) (by show _ = [B0, B1, .cells m (lvM g m), fC d (.hs 2 m 0 (m + 2) 1) (.hs 4 (((W ++ (L.take (i + 1)).map fun a => h ++ [a]).take 64)).length 0 (((W ++ (L.take (i + 1)).map fun a => h ++ [a]).take 64)).length 1), .cells (((W ++ (L.take (i + 1)).map fun a => h ++ [a]).take 64)).length (wM (((W ++ (L.take (i + 1)).map fun a => h ++ [a]).take 64)))]; rw [hUe, hU2]))⟩
    · have hie : i = L.length := by have := hic; simp at this; omega
      subst hie
      repeat first | refine opsStep ?_ | refine codeStep ?_ | refine drawStep ?_
      refine finR (l := []) (v := .tup []) (H₁ := [B0, B1, .cells m (lvM g m), fC d (.hs 2 m 0 (m + 2) 1) (.hs 4 (((W ++ (L.take L.length).map fun a => h ++ [a]).take 64)).length 0 (((W ++ (L.take L.length).map fun a => h ++ [a]).take 64)).length 1), .cells (((W ++ (L.take L.length).map fun a => h ++ [a]).take 64)).length (wM (((W ++ (L.take L.length).map fun a => h ++ [a]).take 64)))]) trivial (by kernel_rfl) (Ent.refl _ _ _) (by kernel_rfl) ⟨rfl, ?_⟩
      rw [List.take_length]
  | succ k ih =>
    intro n q h W hn hk hq hh hW
    have hrow := fun q hq => gr_row hd (q := q) hq
    rw [hgr] at hrow
    obtain ⟨r, g1, g2, g3, g4⟩ := hrow q hq
    have hw : 0 < h.length → IntKind.wrap .i64 ((h.length : Int) - 1) = ((h.length - 1 : Nat) : Int) := fun hl => by rw [IntWalk.i64_in _ (by omega)]; omega
    have hdec : ((k + 1 : Nat) : Int) = IntKind.wrap .i64 ((n : Int) - 1) := by rw [IntWalk.i64_in _ (by omega)]; omega
    have hmay := fun q hq (last : Int) => pick_mayP d hd g hgr k (k + 1) q m rfl (by omega) (by omega) hq last
    have hfind := fun q hq (h : List Int) (hh : h.length + k ≤ 64) (W : List (List Int)) (hW : W.length ≤ 64) => ih (k + 1) q h W rfl (by omega) hq hh hW
    rw [hdec] at hmay hfind
    have hcl := slices_Clone_I_new .any h (by omega)
    clear ih
    refine ACall.of_sw 101 Try.func56 rfl Try.ntmps56 (by kernel_rfl) (Nat.le_of_ble_eq_true (by kernel_rfl)) ?_; refine SW.of_vc ?_
    iterate 4 (first | refine opsStep ?_ | refine codeStep ?_)
    refine VCode.upto (fr [(0, .ref 3 0 0), (1, .int .i64 ((n : Nat))), (2, .int .i64 (q : Nat)), (3, aIs .any h), (8, .int .i64 (lastI h))]) [B0, B1, .cells m (lvM g m), fC d (.hs 2 m 0 (m + 2) 1) (.hs 4 (W).length 0 (W).length 1), .cells (W).length (wM (W))] ?_ ?_
    · repeat first | refine opsStep ?_ | refine codeStep ?_ | refine drawStep ?_
      refine decB_dec (fun hl => ?_) (fun hl => ?_)
      · have hl' : 0 < h.length := by have := hl; simp at this; omega
        have hw := hw hl'
        have hget := lastI_get hl'
        repeat first | refine opsStep ?_ | refine codeStep ?_ | refine drawStep ?_
        refine guardE_of (by rw [hw]; simp; omega) ?_
        repeat first | refine opsStep ?_ | refine codeStep ?_ | refine drawStep ?_
        refine optE_of (c := .int .i64 (lastI h)) (by rw [hw]; simpa [Value.cells] using hget) ?_
        repeat first | refine opsStep ?_ | refine codeStep ?_ | refine drawStep ?_
        show Ent _ _ _ _ _
        exact Ent.fr' ⟨(by kernel_rfl), (by kernel_rfl), (by kernel_rfl), (by kernel_rfl), (by kernel_rfl), trivial⟩ (by kernel_rfl)
      · have hl' : h = [] := List.length_eq_zero_iff.1 (by have := hl; simp at this; omega)
        repeat first | refine opsStep ?_ | refine codeStep ?_ | refine drawStep ?_
        show Ent _ _ _ _ _
        exact Ent.fr' ⟨(by kernel_rfl), (by kernel_rfl), (by kernel_rfl), (by kernel_rfl), Eq.trans (b := .int .i64 (-1)) (by kernel_rfl) (by rw [hl']; rfl), trivial⟩ (by kernel_rfl)
    repeat first | refine opsStep ?_ | refine codeStep ?_ | refine drawStep ?_
    refine decB_false (b := decide ((n : Int) = 1)) (decide_eq_false (by omega)) ?_
    repeat first | refine opsStep ?_ | refine codeStep ?_ | refine drawStep ?_
    refine guardE_of (by simp; omega) ?_
    repeat first | refine opsStep ?_ | refine codeStep ?_ | refine drawStep ?_
    refine optE_of (c := aIs r.1 r.2) (by simp [Value.cells, g1]) ?_
    repeat first | refine opsStep ?_ | refine codeStep ?_ | refine drawStep ?_
    refine loopE_of (ι := {a : Nat // a ≤ g.K}) (fun a => (fr [(0, .ref 3 0 0), (1, .int .i64 (n : Nat)), (3, aIs .any h), (65, aIs r.1 r.2), (66, .int .i64 (r.2.length : Nat)), (67, .int .i64 (a.1 : Nat))], [B0, B1, .cells m (lvM g m), fC d (.hs 2 m 0 (m + 2) 1) (.hs 4 (((W ++ wfT g k q h a.1).take 64)).length 0 (((W ++ wfT g k q h a.1).take 64)).length 1), .cells (((W ++ wfT g k q h a.1).take 64)).length (wM (((W ++ wfT g k q h a.1).take 64)))])) (fun a => g.K - a.1) ⟨0, Nat.zero_le _⟩ ?_ ?_
    · refine Ent.fr' ⟨(by kernel_rfl), (by kernel_rfl), (by kernel_rfl), (by kernel_rfl), (by kernel_rfl), (by kernel_rfl), trivial⟩ (Eq.trans (b := [B0, B1, .cells m (lvM g m), fC d (.hs 2 m 0 (m + 2) 1) (.hs 4 (W).length 0 (W).length 1), .cells (W).length (wM (W))]) (by kernel_rfl) ?_)
      show _ = [B0, B1, .cells m (lvM g m), fC d (.hs 2 m 0 (m + 2) 1) (.hs 4 (((W ++ wfT g k q h 0).take 64)).length 0 (((W ++ wfT g k q h 0).take 64)).length 1), .cells (((W ++ wfT g k q h 0).take 64)).length (wM (((W ++ wfT g k q h 0).take 64)))]
      rw [show wfT g k q h 0 = [] from rfl, List.append_nil, List.take_of_length_le hW]
    rintro ⟨a, ha⟩
    repeat first | refine opsStep ?_ | refine codeStep ?_ | refine drawStep ?_
    refine decB_dec (fun hac => ?_) (fun hac => ?_)
    · have hal : a < g.K := by have := hac; simp at this; omega
      obtain ⟨g5, g6⟩ := g4 a hal
      have har : a < r.2.length := by omega
      have hmay := hmay (g.st q a) g6 (a : Int)
      have hfn := fun W hW => hfind (g.st q a) g6 (h ++ [(a : Int)]) (by rw [List.length_append]; simp; omega) W hW
      have hno := wfL_no g (k := k) (q := g.st q a) (h := h ++ [(a : Int)])
      rw [lastI_snoc] at hno
      have hU' : (W ++ wfT g k q h (a + 1)).take 64 = ((W ++ wfT g k q h a).take 64 ++ wfL g k (g.st q a) (h ++ [(a : Int)])).take 64 := by
        rw [take_more, wfT_succ, List.append_assoc]
      have hU64 : ((W ++ wfT g k q h a).take 64).length ≤ 64 := by rw [List.length_take]; omega
      obtain ⟨U', hUe⟩ : ∃ U', (W ++ wfT g k q h (a + 1)).take 64 = U' := ⟨_, rfl⟩
      rw [hUe] at hU'
      generalize hUf : (W ++ wfT g k q h a).take 64 = U at *
      have hfnU := hfn U hU64
      rw [← hU'] at hfnU
      clear hfn
      have hbU := hbel U'
      have hbV := hbel U
      have hl' := fun e => show wfL g k (g.st q a) (h ++ [(a : Int)]) = [] from hno e
      generalize wfL g k (g.st q a) (h ++ [(a : Int)]) = F at *
      generalize moB g k (g.st q a) (a : Int) = mo at *
      generalize g.st q a = to at *
      by_cases hlt : U.length < 64
      · cases mo with
        | false =>
          have hU2 : U' = U := by rw [hU', hl' rfl, List.append_nil, List.take_of_length_le hU64]
          repeat first | refine opsStep ?_ | refine codeStep ?_ | refine drawStep ?_
          refine guardE_of (by simp; omega) ?_
          repeat first | refine opsStep ?_ | refine codeStep ?_ | refine drawStep ?_
          refine optE_of (c := .int .i64 (to : Nat)) (by simp [Value.cells, g5]) ?_
          repeat first | refine opsStep ?_ | refine codeStep ?_ | refine drawStep ?_
          refine SW.drawn rfl (by kernel_rfl) ?_
          repeat first | refine opsStep ?_ | refine codeStep ?_ | refine drawStep ?_
          refine decB_true (b := decide ((U.length : Int) < 64)) (decide_eq_true (by omega)) ?_
          repeat first | refine opsStep ?_ | refine codeStep ?_ | refine drawStep ?_
          refine .inl ⟨[wfT' d g m, .int .i64 (IntKind.wrap .i64 ((n : Int) - 1)), .int .i64 (to : Nat), .int .i64 (a : Nat)], _, [(3, fC d (.hs 2 m 0 (m + 2) 1) (.hs 4 U.length 0 U.length 1)), (2, .cells m (lvM g m))], hmay, RdsN.sem (fC_rd d g m (.hs 4 U.length 0 U.length 1)) (.same (.same (.same .nil))), .inl rfl, (fun p hp => by simp at hp; rcases hp with rfl | rfl <;> rfl), ?_⟩
          repeat first | refine opsStep ?_ | refine codeStep ?_ | refine drawStep ?_
          refine ⟨by kernel_rfl, ?_⟩
          repeat first | refine opsStep ?_ | refine codeStep ?_ | refine drawStep ?_
          refine ⟨⟨a + 1, hal⟩, (by show g.K - (a + 1) < g.K - a; omega), Ent.fr' ⟨(by kernel_rfl), (by kernel_rfl), (by kernel_rfl), (by kernel_rfl), (by kernel_rfl), inc_slot (i := a) (by omega), trivial⟩ (Eq.trans (b := [B0, B1, .cells m (lvM g m), fC d (.hs 2 m 0 (m + 2) 1) (.hs 4 (U).length 0 (U).length 1), .cells (U).length (wM (U))]) (by kernel_rfl) (by show _ = [B0, B1, .cells m (lvM g m), fC d (.hs 2 m 0 (m + 2) 1) (.hs 4 (((W ++ wfT g k q h (a + 1)).take 64)).length 0 (((W ++ wfT g k q h (a + 1)).take 64)).length 1), .cells (((W ++ wfT g k q h (a + 1)).take 64)).length (wM (((W ++ wfT g k q h (a + 1)).take 64)))]; rw [hUe, hU2]))⟩
        | true =>
          have hsn := aIs_snoc h (a : Int)
          rw [hsn] at hfnU
          have hcs : (h.length + 1) * 1 = (((h.map (AV.int .i64)).drop 0).take (h.length * 1) ++ [AV.int .i64 a]).length := by
            rw [List.drop_zero, List.take_of_length_le (by simp)]; simp
          have hba : bels 5 [.ref 3 0 0, .int .i64 (IntKind.wrap .i64 ((n : Int) - 1)), .int .i64 (to : Nat), .sl .any (h.length + 1) (((h.map (AV.int .i64)).drop 0).take (h.length * 1) ++ [AV.int .i64 a])] := by
            rw [← hsn]; simp [bels, AV.bel, aIs_bel]
          repeat first | refine opsStep ?_ | refine codeStep ?_ | refine drawStep ?_
          refine guardE_of (by simp; omega) ?_
          repeat first | refine opsStep ?_ | refine codeStep ?_ | refine drawStep ?_
          refine optE_of (c := .int .i64 (to : Nat)) (by simp [Value.cells, g5]) ?_
          repeat first | refine opsStep ?_ | refine codeStep ?_ | refine drawStep ?_
          refine SW.drawn rfl (by kernel_rfl) ?_
          repeat first | refine opsStep ?_ | refine codeStep ?_ | refine drawStep ?_
          refine decB_true (b := decide ((U.length : Int) < 64)) (decide_eq_true (by omega)) ?_
          repeat first | refine opsStep ?_ | refine codeStep ?_ | refine drawStep ?_
          refine .inl ⟨[wfT' d g m, .int .i64 (IntKind.wrap .i64 ((n : Int) - 1)), .int .i64 (to : Nat), .int .i64 (a : Nat)], _, [(3, fC d (.hs 2 m 0 (m + 2) 1) (.hs 4 U.length 0 U.length 1)), (2, .cells m (lvM g m))], hmay, RdsN.sem (fC_rd d g m (.hs 4 U.length 0 U.length 1)) (.same (.same (.same .nil))), .inl rfl, (fun p hp => by simp at hp; rcases hp with rfl | rfl <;> rfl), ?_⟩
          repeat first | refine opsStep ?_ | refine codeStep ?_ | refine drawStep ?_
          refine ⟨by kernel_rfl, ?_⟩
          repeat first | refine opsStep ?_ | refine codeStep ?_ | refine drawStep ?_
          refine callN hcl ?_
          repeat first | refine opsStep ?_ | refine codeStep ?_ | refine drawStep ?_
          refine guardE_of ⟨rfl, by show 0 + h.length * 1 ≤ (h.map (AV.int .i64)).length; simp⟩ ?_
          repeat first | refine opsStep ?_ | refine codeStep ?_ | refine drawStep ?_
          refine guardE_of rfl ?_
          repeat first | refine opsStep ?_ | refine codeStep ?_ | refine drawStep ?_
          refine guardE_of ⟨by omega, by show (h.length + 1) * 8 ≤ 140737488355328; omega⟩ ?_
          repeat first | refine opsStep ?_ | refine codeStep ?_ | refine drawStep ?_
          refine callTZ 5 (g := 1) (cs := (((h.map (AV.int .i64)).drop 0).take (h.length * 1) ++ [AV.int .i64 a])) rfl hfnU [.fro 1 (((h.map (AV.int .i64)).drop 0).take (h.length * 1) ++ [AV.int .i64 a]), .cells 0 [.int .i64 (a : Nat)]] rfl (.same (.same (.same (.hs rfl hcs .nil)))) rfl hba hbV hbU trivial ?_
          repeat first | refine opsStep ?_ | refine codeStep ?_ | refine drawStep ?_
          refine ⟨⟨a + 1, hal⟩, (by show g.K - (a + 1) < g.K - a; omega), Ent.frD (X := [.fro 1 (((h.map (AV.int .i64)).drop 0).take (h.length * 1) ++ [AV.int .i64 a]), .cells 0 [.int .i64 (a : Nat)]]) ⟨(by kernel_rfl), (by kernel_rfl), (by kernel_rfl), (by kernel_rfl), (by kernel_rfl), inc_slot (i := a) (by omega), trivial⟩ ?_ (Nat.le_of_ble_eq_true (by kernel_rfl)) (by simp [frBel, AV.bel, aIs_bel]) ?_⟩
          · refine Eq.trans (b := [B0, B1, .cells m (lvM g m), fC d (.hs 2 m 0 (m + 2) 1) (.hs 4 (U').length 0 (U').length 1), .cells (U').length (wM (U'))] ++ [.fro 1 (((h.map (AV.int .i64)).drop 0).take (h.length * 1) ++ [AV.int .i64 a]), .cells 0 [.int .i64 (a : Nat)]]) (by kernel_rfl) ?_
            show _ = [B0, B1, .cells m (lvM g m), fC d (.hs 2 m 0 (m + 2) 1) (.hs 4 (((W ++ wfT g k q h (a + 1)).take 64)).length 0 (((W ++ wfT g k q h (a + 1)).take 64)).length 1), .cells (((W ++ wfT g k q h (a + 1)).take 64)).length (wM (((W ++ wfT g k q h (a + 1)).take 64)))] ++ [.fro 1 (((h.map (AV.int .i64)).drop 0).take (h.length * 1) ++ [AV.int .i64 a]), .cells 0 [.int .i64 (a : Nat)]]
            rw [hUe]
          · show blksBel 5 [B0, B1, .cells m (lvM g m), fC d (.hs 2 m 0 (m + 2) 1) (.hs 4 (((W ++ wfT g k q h (a + 1)).take 64)).length 0 (((W ++ wfT g k q h (a + 1)).take 64)).length 1), .cells (((W ++ wfT g k q h (a + 1)).take 64)).length (wM (((W ++ wfT g k q h (a + 1)).take 64)))]
            rw [hUe]; exact hbU
      · have hU2 : U' = U := by rw [hU', take_full _ hlt, List.take_of_length_le hU64]
        repeat first | refine opsStep ?_ | refine codeStep ?_ | refine drawStep ?_
        refine guardE_of (by simp; omega) ?_
        repeat first | refine opsStep ?_ | refine codeStep ?_ | refine drawStep ?_
        refine optE_of (c := .int .i64 (to : Nat)) (by simp [Value.cells, g5]) ?_
        repeat first | refine opsStep ?_ | refine codeStep ?_ | refine drawStep ?_
        refine SW.drawn rfl (by kernel_rfl) ?_
        repeat first | refine opsStep ?_ | refine codeStep ?_ | refine drawStep ?_
        refine decB_false (b := decide ((U.length : Int) < 64)) (decide_eq_false (by omega)) ?_
        repeat first | refine opsStep ?_ | refine codeStep ?_ | refine drawStep ?_
        refine ⟨by kernel_rfl, ?_⟩
        repeat first | refine opsStep ?_ | refine codeStep ?_ | refine drawStep ?_
        refine ⟨⟨a + 1, hal⟩, (by show g.K - (a + 1) < g.K - a; omega), Ent.fr' ⟨(by kernel_rfl), (by kernel_rfl), (by kernel_rfl), (by kernel_rfl), (by kernel_rfl), inc_slot (i := a) (by omega), trivial⟩ (Eq.trans (b := [B0, B1, .cells m (lvM g m), fC d (.hs 2 m 0 (m + 2) 1) (.hs 4 (U).length 0 (U).length 1), .cells (U).length (wM (U))]) (by kernel_rfl) (by show _ = [B0, B1, .cells m (lvM g m), fC d (.hs 2 m 0 (m + 2) 1) (.hs 4 (((W ++ wfT g k q h (a + 1)).take 64)).length 0 (((W ++ wfT g k q h (a + 1)).take 64)).length 1), .cells (((W ++ wfT g k q h (a + 1)).take 64)).length (wM (((W ++ wfT g k q h (a + 1)).take 64)))]; rw [hUe, hU2]))⟩
    · have hae : a = g.K := by have := hac; simp at this; omega
      subst hae
      repeat first | refine opsStep ?_ | refine codeStep ?_ | refine drawStep ?_
      exact finR (l := []) (v := .tup []) (H₁ := [B0, B1, .cells m (lvM g m), fC d (.hs 2 m 0 (m + 2) 1) (.hs 4 (((W ++ wfT g k q h g.K).take 64)).length 0 (((W ++ wfT g k q h g.K).take 64)).length 1), .cells (((W ++ wfT g k q h g.K).take 64)).length (wM (((W ++ wfT g k q h g.K).take 64)))]) trivial (by kernel_rfl) (Ent.refl _ _ _) (by kernel_rfl) ⟨rfl, rfl⟩

end Tab

/- pick.First, as a value. -/
namespace Tab
open Go Go.Proofs
set_option maxRecDepth 10000
set_option linter.unusedVariables false
set_option linter.unusedSimpArgs false
set_option linter.unusedSectionVars false

def wsV (W : List (List Int)) : AV := .sl .any W.length (wM W)
theorem wsV_closed (W) : (wsV W).closed := wM_closed W
def fwL (g : Gr) : List (List Int) := (wfW g 64).take 64
def firV (a : Aut) : AV := if checkS a = true then .tup [wsV (fwL (grD (unpD a))), .int .i64 0] else .tup [.sl .nil 0 [], .int .i64 3]
theorem firV_bad {a : Aut} (h : checkS a = false) : firV a = .tup [.sl .nil 0 [], .int .i64 3] := by rw [firV, h]; rfl
theorem firV_ok {a : Aut} (h : checkS a = true) : firV a = .tup [wsV (fwL (grD (unpD a))), .int .i64 0] := by rw [firV, if_pos h]
theorem fw_stop (g : Gr) {j : Nat} (hj : j ≤ 64) (h : ¬ (j < 64 ∧ ((wfW g j).take 64).length < 64)) : (wfW g j).take 64 = fwL g := by
  by_cases e : j = 64
  · subst e; rfl
  · obtain ⟨t, ht, _⟩ := wfW_pre g hj
    have hl : ¬ (wfW g j).length < 64 := fun hl => h ⟨by omega, by rw [List.length_take]; omega⟩
    rw [fwL, ht, take_full _ hl]
theorem fw_next (g : Gr) (j : Nat) : ((wfW g j).take 64 ++ wfL g j 0 []).take 64 = (wfW g (j + 1)).take 64 := by rw [take_more, wfW_succ]
theorem pick_First_bad (a : Aut) (ha : AutOk a) (hc : checkS a = false) : Pure Try.prog 21 [aAut a, .int .i64 64] (.tup [.sl .nil 0 [], .int .i64 3]) := by
  have hu := table_Unpack a ha
  rw [unpE_bad hc] at hu
  generalize unpD a = d at *
  refine Pure.of_sw 54 Try.func21 rfl Try.ntmps21 (by kernel_rfl) (Nat.le_of_ble_eq_true (by kernel_rfl)) (by simp [closeds, AV.closed, aSs_closed, aIs_closed, aBs_closed, aRs_closed, aDen_closed, aCs_closed, aAut_closed]) (by simp [AV.closed, closeds, aSs_closed, aIs_closed, aBs_closed, aRs_closed, aDen_closed, aCs_closed, aAut_closed]) ?_; refine SW.of_vc ?_
  repeat first | refine opsStep ?_ | refine codeStep ?_ | refine drawStep ?_
  refine callP hu ?_
  repeat first | refine opsStep ?_ | refine codeStep ?_ | refine drawStep ?_
  exact finV (v' := .tup [.sl .nil 0 [], .int .i64 3]) (by kernel_rfl) rfl
set_option maxHeartbeats 1000000 in
theorem pick_First_ok (a : Aut) (ha : AutOk a) (hc : checkS a = true) (d : Den) (hde : unpD a = d) (g : Gr) (hgr : grD d = g) : Pure Try.prog 21 [aAut a, .int .i64 64] (.tup [wsV (fwL g), .int .i64 0]) := by
  have hu := table_Unpack a ha
  have hd := (unpD_right hc).1
  rw [unpE_zero.2 hc] at hu
  rw [hde] at hu hd
  have hgo := grD_ok hd
  rw [hgr] at hgo
  have hpos := hgo.pos
  have hb0 : (Blk.cells 0 a.cells).bel 5 := by have := AV.closed_bel (n := 5) _ (aAut_closed a); simpa [aAut, AV.bel, Blk.bel] using this
  have hb1 : (Blk.cells 0 d.cells).bel 5 := cells_bel _ _
  have hbel := fun m W => fB_bel d g m (.cells 0 a.cells) (.cells 0 d.cells) hb0 hb1 W
  have hfind := fun m hm => pick_find d hd g hgr m hm (.cells 0 a.cells) (.cells 0 d.cells) hb0 hb1
  have hgrow := fun n m hn hm (W : List (List Int)) => pick_grow d hd g hgr n m hn hm (.hs 4 W.length 0 W.length 1) (.cells 0 a.cells) (.cells 0 d.cells) (.cells W.length (wM W)) (hbel m W) (hbel (m + 1) W)
  refine Pure.of_read ⟨aAut_closed a, trivial, trivial⟩ ⟨wsV_closed _, trivial, trivial⟩ (R := fun o H' => o = .ret (.tup [.hs 4 (fwL g).length 0 (fwL g).length 1, .int .i64 0]) ∧ ∃ b0 b1 b2 b3, H' = [b0, b1, b2, b3, .cells (fwL g).length (wM (fwL g))]) ?_ ?_
  rotate_left
  · rintro o H' ⟨rfl, b0, b1, b2, b3, rfl⟩
    exact ⟨_, rfl, .tup (.cons (Rd.whole rfl (by rw [wM_len]; omega)) (.cons (.refl _) .nil))⟩
  refine ACall.of_sw 54 Try.func21 rfl Try.ntmps21 (by kernel_rfl) (Nat.le_of_ble_eq_true (by kernel_rfl)) ?_; refine SW.of_vc ?_
  repeat first | refine opsStep ?_ | refine codeStep ?_ | refine drawStep ?_
  refine callP hu ?_
  repeat first | refine opsStep ?_ | refine codeStep ?_ | refine drawStep ?_
  refine optX_of (c := [.sl .nil 0 [], .sl .nil 0 []]) (by kernel_rfl) ?_
  repeat first | refine opsStep ?_ | refine codeStep ?_ | refine drawStep ?_
  refine loopE_of (ι := {j : Nat // j ≤ 64}) (fun j => (fr [(1, .int .i64 64), (8, .ref 3 0 0), (9, .int .i64 (j.1 + 1 : Nat))], [.cells 0 a.cells, .cells 0 d.cells, .cells ((j.1 - 1)) (lvM g ((j.1 - 1))), fC d (.hs 2 ((j.1 - 1)) 0 (((j.1 - 1)) + 2) 1) (.hs 4 (((wfW g j.1).take 64)).length 0 (((wfW g j.1).take 64)).length 1), .cells (((wfW g j.1).take 64)).length (wM (((wfW g j.1).take 64)))])) (fun j => 64 - j.1) ⟨0, Nat.zero_le _⟩ ?_ ?_
  · exact ((Ent.fr' (l := [(1, .int .i64 64), (8, .ref 3 0 0), (9, .int .i64 (0 + 1 : Nat))]) (H' := [.cells 0 a.cells, .cells 0 d.cells, .cells 0 [.sl .nil 0 [], .sl .nil 0 []], .cells 0 (d.cells ++ [.hs 2 0 0 2 1, .int .i64 64, .sl .nil 0 []])]) ⟨(by kernel_rfl), (by kernel_rfl), (by kernel_rfl), trivial⟩ (by kernel_rfl)).trans (Ent.nilCell 3 5 1 rfl rfl)).to (by kernel_rfl)
  rintro ⟨j, hj⟩
  have hst := fw_stop g hj
  have hnx := fw_next g j
  have hU64 : ((wfW g j).take 64).length ≤ 64 := by rw [List.length_take]; omega
  have hcall : ∀ m, j ≤ m → m ≤ 63 → _ := fun m h1 h2 => hfind m h2 j (j + 1) 0 [] ((wfW g j).take 64) rfl h1 hpos (by simp; omega) hU64
  rw [hnx] at hcall
  generalize hUe : (wfW g j).take 64 = U at *
  generalize hUf : (wfW g (j + 1)).take 64 = U' at *
  by_cases hgoes : j < 64 ∧ U.length < 64
  · obtain ⟨h1, h2⟩ := hgoes
    have hsl : IntKind.wrap .i64 (((j + 1 : Nat) : Int) + 1) = ((j + 1 + 1 : Nat) : Int) := by rw [IntWalk.i64_in _ (by omega)]; omega
    rcases Nat.eq_zero_or_pos j with h0 | h0
    · have hc := hcall 0 (by omega) (by omega)
      subst h0
      repeat first | refine opsStep ?_ | refine codeStep ?_ | refine drawStep ?_
      refine decB_true (b := decide ((U.length : Int) < 64)) (decide_eq_true (by omega)) ?_
      repeat first | refine opsStep ?_ | refine codeStep ?_ | refine drawStep ?_
      refine callH (ACall.ofNil hc) ?_
      repeat first | refine opsStep ?_ | refine codeStep ?_ | refine drawStep ?_
      exact ⟨⟨0 + 1, by omega⟩, (by show 64 - (0 + 1) < 64 - 0; omega), Ent.fr' ⟨(by kernel_rfl), (by kernel_rfl), Eq.trans (b := .int .i64 (IntKind.wrap .i64 (((0 + 1 : Nat) : Int) + 1))) (by kernel_rfl) (by rw [hsl]), trivial⟩ (Eq.trans (b := [.cells 0 a.cells, .cells 0 d.cells, .cells (0) (lvM g (0)), fC d (.hs 2 (0) 0 ((0) + 2) 1) (.hs 4 (U').length 0 (U').length 1), .cells (U').length (wM (U'))]) (by kernel_rfl) (by show _ = [.cells 0 a.cells, .cells 0 d.cells, .cells ((0 + 1 - 1)) (lvM g ((0 + 1 - 1))), fC d (.hs 2 ((0 + 1 - 1)) 0 (((0 + 1 - 1)) + 2) 1) (.hs 4 (((wfW g (0 + 1)).take 64)).length 0 (((wfW g (0 + 1)).take 64)).length 1), .cells (((wfW g (0 + 1)).take 64)).length (wM (((wfW g (0 + 1)).take 64)))]; rw [hUf]))⟩
    · have hc := hcall j (by omega) (by omega)
      have hg := hgrow (j + 1) (j - 1) (by omega) (by omega) U
      rw [show j - 1 + 1 = j by omega] at hg
      repeat first | refine opsStep ?_ | refine codeStep ?_ | refine drawStep ?_
      refine decB_true (b := decide (((j + 1 : Nat) : Int) ≤ 64)) (decide_eq_true (by omega)) ?_
      repeat first | refine opsStep ?_ | refine codeStep ?_ | refine drawStep ?_
      refine decB_true (b := decide ((U.length : Int) < 64)) (decide_eq_true (by omega)) ?_
      repeat first | refine opsStep ?_ | refine codeStep ?_ | refine drawStep ?_
      refine decB_true (b := decide (((j + 1 : Nat) : Int) > 1)) (decide_eq_true (by omega)) ?_
      repeat first | refine opsStep ?_ | refine codeStep ?_ | refine drawStep ?_
      refine callH hg ?_
      repeat first | refine opsStep ?_ | refine codeStep ?_ | refine drawStep ?_
      refine callH (ACall.ofNil hc) ?_
      repeat first | refine opsStep ?_ | refine codeStep ?_ | refine drawStep ?_
      exact ⟨⟨j + 1, by omega⟩, (by show 64 - (j + 1) < 64 - j; omega), Ent.fr' ⟨(by kernel_rfl), (by kernel_rfl), Eq.trans (b := .int .i64 (IntKind.wrap .i64 (((j + 1 : Nat) : Int) + 1))) (by kernel_rfl) (by rw [hsl]), trivial⟩ (Eq.trans (b := [.cells 0 a.cells, .cells 0 d.cells, .cells (j) (lvM g (j)), fC d (.hs 2 (j) 0 ((j) + 2) 1) (.hs 4 (U').length 0 (U').length 1), .cells (U').length (wM (U'))]) (by kernel_rfl) (by show _ = [.cells 0 a.cells, .cells 0 d.cells, .cells ((j + 1 - 1)) (lvM g ((j + 1 - 1))), fC d (.hs 2 ((j + 1 - 1)) 0 (((j + 1 - 1)) + 2) 1) (.hs 4 (((wfW g (j + 1)).take 64)).length 0 (((wfW g (j + 1)).take 64)).length 1), .cells (((wfW g (j + 1)).take 64)).length (wM (((wfW g (j + 1)).take 64)))]; rw [hUf]; rfl))⟩
  · have hst := hst hgoes
    by_cases h1 : j < 64
    · have h2 : ¬ U.length < 64 := fun h => hgoes ⟨h1, h⟩
      repeat first | refine opsStep ?_ | refine codeStep ?_ | refine drawStep ?_
      refine decB_true (b := decide (((j + 1 : Nat) : Int) ≤ 64)) (decide_eq_true (by omega)) ?_
      repeat first | refine opsStep ?_ | refine codeStep ?_ | refine drawStep ?_
      refine decB_false (b := decide ((U.length : Int) < 64)) (decide_eq_false (by omega)) ?_
      repeat first | refine opsStep ?_ | refine codeStep ?_ | refine drawStep ?_
      exact finR (l := [(4, .hs 4 U.length 0 U.length 1), (5, .int .i64 0)]) (v := .tup [.hs 4 U.length 0 U.length 1, .int .i64 0]) (H₁ := [.cells 0 a.cells, .cells 0 d.cells, .cells ((j - 1)) (lvM g ((j - 1))), fC d (.hs 2 ((j - 1)) 0 (((j - 1)) + 2) 1) (.hs 4 (U).length 0 (U).length 1), .cells (U).length (wM (U))]) ⟨(by kernel_rfl), (by kernel_rfl), trivial⟩ (by kernel_rfl) (Ent.refl _ _ _) (by kernel_rfl) ⟨by rw [hst], _, _, _, _, by rw [hst]⟩
    · repeat first | refine opsStep ?_ | refine codeStep ?_ | refine drawStep ?_
      refine decB_false (b := decide (((j + 1 : Nat) : Int) ≤ 64)) (decide_eq_false (by omega)) ?_
      repeat first | refine opsStep ?_ | refine codeStep ?_ | refine drawStep ?_
      exact finR (l := [(4, .hs 4 U.length 0 U.length 1), (5, .int .i64 0)]) (v := .tup [.hs 4 U.length 0 U.length 1, .int .i64 0]) (H₁ := [.cells 0 a.cells, .cells 0 d.cells, .cells ((j - 1)) (lvM g ((j - 1))), fC d (.hs 2 ((j - 1)) 0 (((j - 1)) + 2) 1) (.hs 4 (U).length 0 (U).length 1), .cells (U).length (wM (U))]) ⟨(by kernel_rfl), (by kernel_rfl), trivial⟩ (by kernel_rfl) (Ent.refl _ _ _) (by kernel_rfl) ⟨by rw [hst], _, _, _, _, by rw [hst]⟩

theorem pick_First (a : Aut) (ha : AutOk a) : Pure Try.prog 21 [aAut a, .int .i64 64] (firV a) := by
  cases hc : checkS a with
  | false => rw [firV_bad hc]; exact pick_First_bad a ha hc
  | true => rw [firV_ok hc]; exact pick_First_ok a ha hc _ rfl _ rfl

end Tab

/- count: spread. -/
namespace Tab
open Go Go.Proofs
set_option maxRecDepth 10000
set_option linter.unusedVariables false
set_option linter.unusedSimpArgs false
set_option linter.unusedSectionVars false

theorem callA {P : Program} {f : FuncId} {args : List AV} {H : List Blk} {R X : Out → List Blk → Prop} (h : ACall P f args H R) (k : ∀ o H', R o H' → X o H') : ∃ R : Out → List Blk → Prop, ACall P f args H R ∧ ∀ o H', R o H' → X o H' := ⟨R, h, k⟩

theorem callI2 {P : Program} {f : FuncId} {args : List AV} {H : List Blk} {α β : Type} {v : α → β → AV} {Hh : α → β → List Blk} {Q : α → β → Prop} {X : Out → List Blk → Prop} (h : ACall P f args H fun o H' => ∃ a b, o = .ret (v a b) ∧ H' = Hh a b ∧ Q a b)
    (k : ∀ a b, Q a b → X (.ret (v a b)) (Hh a b)) : ∃ R : Out → List Blk → Prop, ACall P f args H R ∧ ∀ o H', R o H' → X o H' :=
  ⟨_, h, by rintro _ _ ⟨a, b, rfl, rfl, hq⟩; exact k a b hq⟩

/-- What one pass leaves. -/
def SpPost (g : Gr) (L0 : List Bool) (b : Bool) (L : List Bool) : Prop := SpSound g L ∧ trues L0 ≤ trues L ∧ (b = true → trues L0 < trues L) ∧ (b = false → L = L0 ∧ ∀ q a, q < g.n → a < g.K → SpDone g L q a)

set_option maxHeartbeats 1000000 in
theorem count_spread (d : Den) (hd : rightS d = true) (g : Gr) (hgr : grD d = g) (gl : Nat) (kn : AV) (X : List Blk) (L0 : List Bool) (h0 : SpSound g L0) :
    ACall Try.prog 81 [.ref 0 0 0] (cnC d (.hs 1 gl 0 g.n 1) kn :: .cells gl ((L0).map .bool) :: X) (fun o H' => ∃ b L, o = .ret (.bool b) ∧ H' = cnC d (.hs 1 gl 0 g.n 1) kn :: .cells gl ((L).map .bool) :: X ∧ SpPost g L0 b L) := by
  have hends := fun q a hq ha (L : List Bool) => count_ends d hd q a hq ha (.hs 1 gl 0 g.n 1) kn (.cells gl (L.map .bool) :: X)
  have hrow := fun q hq => gr_row hd (q := q) hq
  have hnl : d.next.length = (grD d).n := (rightS_parts hd).2.1
  have hgo := grD_ok hd
  have hel : ∀ q a, endsN (grD d) q a ≤ 64 := fun q a => Nat.le_trans (endsN_le _ _ _) (Nat.le_trans (yesTo_le _ _ _) hgo.let')
  rw [hgr] at hends hrow hnl hgo hel
  have hstay := hgo.stay
  have hbig := hgo.big
  have hlet := hgo.let'
  refine ACall.of_sw 59 Try.func81 rfl Try.ntmps81 (by kernel_rfl) (Nat.le_of_ble_eq_true (by kernel_rfl)) ?_; refine SW.of_vc ?_
  repeat first | refine opsStep ?_ | refine codeStep ?_ | refine drawStep ?_
  refine loopE_of (ι := {x : Nat × List Bool × Bool // x.1 ≤ g.n ∧ SpSound g x.2.1 ∧ trues L0 ≤ trues x.2.1 ∧ (x.2.2 = true → trues L0 < trues x.2.1) ∧ (x.2.2 = false → x.2.1 = L0 ∧ ∀ q a, q < x.1 → a < g.K → SpDone g L0 q a)})
    (fun x => (fr [(0, .ref 0 0 0), (3, .bool x.1.2.2), (12, aRs d.nk d.next), (13, .int .i64 (g.n : Nat)), (14, .int .i64 (x.1.1 : Nat))], (cnC d (.hs 1 gl 0 g.n 1) kn :: .cells gl ((x.1.2.1).map .bool) :: X))) (fun x => g.n - x.1.1)
    ⟨(0, L0, false), Nat.zero_le _, h0, Nat.le_refl _, by simp, fun _ => ⟨rfl, fun q a hq => absurd hq (Nat.not_lt_zero _)⟩⟩ (Ent.fr' ⟨(by kernel_rfl), (by kernel_rfl), (by kernel_rfl), (Eq.trans (b := .int .i64 (d.next.length : Nat)) (by kernel_rfl) (by rw [hnl])), (by kernel_rfl), trivial⟩ (by kernel_rfl)) ?_
  rintro ⟨⟨q, L, b⟩, hq, hs, hle, hbt, hbf⟩
  simp only at hq hs hle hbt hbf
  repeat first | refine opsStep ?_ | refine codeStep ?_ | refine drawStep ?_
  refine decB_dec (fun hqc => ?_) (fun hqc => ?_)
  · have hql : q < g.n := by have := hqc; simp at this; omega
    obtain ⟨r, g1, g2, g3, g4⟩ := hrow q hql
    repeat first | refine opsStep ?_ | refine codeStep ?_ | refine drawStep ?_
    refine guardE_of (by simp; omega) ?_
    repeat first | refine opsStep ?_ | refine codeStep ?_ | refine drawStep ?_
    refine optE_of (c := aIs r.1 r.2) (by simp [Value.cells, g1]) ?_
    repeat first | refine opsStep ?_ | refine codeStep ?_ | refine drawStep ?_
    refine loopE_of (ι := {x : Nat × List Bool × Bool // x.1 ≤ g.K ∧ SpSound g x.2.1 ∧ trues L0 ≤ trues x.2.1 ∧ (x.2.2 = true → trues L0 < trues x.2.1) ∧ (x.2.2 = false → x.2.1 = L0 ∧ (∀ q' a, q' < q → a < g.K → SpDone g L0 q' a) ∧ ∀ a, a < x.1 → SpDone g L0 q a)})
      (fun x => (fr [(0, .ref 0 0 0), (3, .bool x.1.2.2), (4, .int .i64 (q : Nat)), (12, aRs d.nk d.next), (13, .int .i64 (g.n : Nat)), (14, .int .i64 (q : Nat)), (19, aIs r.1 r.2), (20, .int .i64 (r.2.length : Nat)), (21, .int .i64 (x.1.1 : Nat))], (cnC d (.hs 1 gl 0 g.n 1) kn :: .cells gl ((x.1.2.1).map .bool) :: X))) (fun x => g.K - x.1.1)
      ⟨(0, L, b), Nat.zero_le _, hs, hle, hbt, fun e => ⟨(hbf e).1, (hbf e).2, fun a ha => absurd ha (Nat.not_lt_zero _)⟩⟩ (Ent.fr' ⟨(by kernel_rfl), (by kernel_rfl), (by kernel_rfl), (by kernel_rfl), (by kernel_rfl), (by kernel_rfl), (by kernel_rfl), (by kernel_rfl), (by kernel_rfl), trivial⟩ (by kernel_rfl)) ?_
    rintro ⟨⟨a, L, b⟩, ha, hs, hle, hbt, hbf⟩
    simp only at ha hs hle hbt hbf
    repeat first | refine opsStep ?_ | refine codeStep ?_ | refine drawStep ?_
    refine decB_dec (fun hac => ?_) (fun hac => ?_)
    · have hal : a < g.K := by have := hac; simp at this; omega
      obtain ⟨g5, g6⟩ := g4 a hal
      have har : a < r.2.length := by omega
      have hll := hs.1
      obtain ⟨vq, hgq⟩ : ∃ v, L[q]? = some v := ⟨_, List.getElem?_eq_getElem (by omega)⟩
      obtain ⟨vt, hgt⟩ : ∃ v, L[g.st q a]? = some v := ⟨_, List.getElem?_eq_getElem (by omega)⟩
      have hset := fun hx => hs.set (q := q) (a := a) hal hx
      have htr := fun h => trues_set (L := L) (q := q) h
      have hen := hends (g.st q a) a g6 hal L
      have hel := hel (g.st q a) a
      have hdn : SpDone g L q a ↔ ((0 < endsN g (g.st q a) a ∨ L[g.st q a]? = some true) → L[q]? = some true) := Iff.rfl
      generalize endsN g (g.st q a) a = en at *
      generalize g.st q a = to at *
      repeat first | refine opsStep ?_ | refine codeStep ?_ | refine drawStep ?_
      refine guardE_of (by simp; omega) ?_
      repeat first | refine opsStep ?_ | refine codeStep ?_ | refine drawStep ?_
      refine optE_of (c := .int .i64 (to : Nat)) (by simp [Value.cells, g5]) ?_
      repeat first | refine opsStep ?_ | refine codeStep ?_ | refine drawStep ?_
      refine guardE_of (by simp; omega) ?_
      repeat first | refine opsStep ?_ | refine codeStep ?_ | refine drawStep ?_
      refine guardE_of rfl ?_
      refine optE_of rfl ?_
      refine optE_of (c := AV.bool vq) (by show (L.map AV.bool)[0 + q * 1]? = _; simp [hgq]) ?_
      cases vq with
      | true =>
        repeat first | refine opsStep ?_ | refine codeStep ?_ | refine drawStep ?_
        refine ⟨⟨(a + 1, L, b), hal, hs, hle, hbt, fun e => ⟨(hbf e).1, (hbf e).2.1, fun a' ha' => ?_⟩⟩, (by show g.K - (a + 1) < g.K - a; omega), Ent.fr' ⟨(by kernel_rfl), (by kernel_rfl), (by kernel_rfl), (by kernel_rfl), (by kernel_rfl), (by kernel_rfl), (by kernel_rfl), (by kernel_rfl), inc_slot (i := a) (by omega), trivial⟩ (by kernel_rfl)⟩
        by_cases e' : a' = a
        · subst e'; rw [← (hbf e).1]; exact hdn.2 fun _ => hgq
        · exact (hbf e).2.2 a' (by omega)
      | false =>
        have htr := htr hgq
        have hmap : (L.map AV.bool).set q (.bool true) = (L.set q true).map AV.bool := by rw [List.map_set]
        repeat first | refine opsStep ?_ | refine codeStep ?_ | refine drawStep ?_
        refine guardE_of (by simp; omega) ?_
        repeat first | refine opsStep ?_ | refine codeStep ?_ | refine drawStep ?_
        refine guardE_of rfl ?_
        refine optE_of rfl ?_
        refine optE_of (c := AV.bool vt) (by show (L.map AV.bool)[0 + to * 1]? = _; simp [hgt]) ?_
        cases vt with
        | true =>
          repeat first | refine opsStep ?_ | refine codeStep ?_ | refine drawStep ?_
          refine guardE_of (by simp; omega) ?_
          repeat first | refine opsStep ?_ | refine codeStep ?_ | refine drawStep ?_
          refine guardE_of rfl ?_
          refine optE_of rfl ?_
          refine optE_of rfl ?_
          refine guardE_of ⟨rfl, by decide, by show 0 + q * 1 + 1 ≤ (L.map AV.bool).length; rw [List.length_map]; omega⟩ ?_
          repeat first | refine opsStep ?_ | refine codeStep ?_ | refine drawStep ?_
          refine ⟨⟨(a + 1, L.set q true, true), hal, hset (.inr hgt), by simp only; omega, fun _ => by simp only; omega, by simp⟩, (by show g.K - (a + 1) < g.K - a; omega), Ent.fr' ⟨(by kernel_rfl), (by kernel_rfl), (by kernel_rfl), (by kernel_rfl), (by kernel_rfl), (by kernel_rfl), (by kernel_rfl), (by kernel_rfl), inc_slot (i := a) (by omega), trivial⟩ ?_⟩
          refine Eq.trans (b := cnC d (.hs 1 gl 0 g.n 1) kn :: .cells gl (over (L.map .bool) (0 + q * 1) [.bool true]) :: X) (by kernel_rfl) ?_
          rw [Nat.zero_add, Nat.mul_one, over_one (by rw [List.length_map]; omega), hmap]
        | false =>
          repeat first | refine opsStep ?_ | refine codeStep ?_ | refine drawStep ?_
          refine callH hen ?_
          repeat first | refine opsStep ?_ | refine codeStep ?_ | refine drawStep ?_
          refine decB_dec (fun hen0 => ?_) (fun hen0 => ?_)
          · have hen0 : (0 : Int) < ((en : Nat) : Int) := hen0
            repeat first | refine opsStep ?_ | refine codeStep ?_ | refine drawStep ?_
            refine guardE_of (by simp; omega) ?_
            repeat first | refine opsStep ?_ | refine codeStep ?_ | refine drawStep ?_
            refine guardE_of rfl ?_
            refine optE_of rfl ?_
            refine optE_of rfl ?_
            refine guardE_of ⟨rfl, by decide, by show 0 + q * 1 + 1 ≤ (L.map AV.bool).length; rw [List.length_map]; omega⟩ ?_
            repeat first | refine opsStep ?_ | refine codeStep ?_ | refine drawStep ?_
            refine ⟨⟨(a + 1, L.set q true, true), hal, hset (.inl (by omega)), by simp only; omega, fun _ => by simp only; omega, by simp⟩, (by show g.K - (a + 1) < g.K - a; omega), Ent.fr' ⟨(by kernel_rfl), (by kernel_rfl), (by kernel_rfl), (by kernel_rfl), (by kernel_rfl), (by kernel_rfl), (by kernel_rfl), (by kernel_rfl), inc_slot (i := a) (by omega), trivial⟩ ?_⟩
            refine Eq.trans (b := cnC d (.hs 1 gl 0 g.n 1) kn :: .cells gl (over (L.map .bool) (0 + q * 1) [.bool true]) :: X) (by kernel_rfl) ?_
            rw [Nat.zero_add, Nat.mul_one, over_one (by rw [List.length_map]; omega), hmap]
          · have hen0 : ¬ (0 : Int) < ((en : Nat) : Int) := hen0
            repeat first | refine opsStep ?_ | refine codeStep ?_ | refine drawStep ?_
            refine ⟨⟨(a + 1, L, b), hal, hs, hle, hbt, fun e => ⟨(hbf e).1, (hbf e).2.1, fun a' ha' => ?_⟩⟩, (by show g.K - (a + 1) < g.K - a; omega), Ent.fr' ⟨(by kernel_rfl), (by kernel_rfl), (by kernel_rfl), (by kernel_rfl), (by kernel_rfl), (by kernel_rfl), (by kernel_rfl), (by kernel_rfl), inc_slot (i := a) (by omega), trivial⟩ (by kernel_rfl)⟩
            by_cases e' : a' = a
            · subst e'
              rw [← (hbf e).1]
              refine hdn.2 fun h => ?_
              rcases h with h | h
              · omega
              · rw [hgt] at h; simp at h
            · exact (hbf e).2.2 a' (by omega)
    · have hae : a = g.K := by have := hac; simp at this; omega
      subst hae
      repeat first | refine opsStep ?_ | refine codeStep ?_ | refine drawStep ?_
      refine ⟨⟨(q + 1, L, b), hql, hs, hle, hbt, fun e => ⟨(hbf e).1, fun q' a' hq' ha' => ?_⟩⟩, (by show g.n - (q + 1) < g.n - q; omega), Ent.fr' ⟨(by kernel_rfl), (by kernel_rfl), (by kernel_rfl), (by kernel_rfl), inc_slot (i := q) (by omega), trivial⟩ (by kernel_rfl)⟩
      by_cases e' : q' = q
      · subst e'; exact (hbf e).2.2 a' ha'
      · exact (hbf e).2.1 q' a' (by omega) ha'
  · have hqe : q = g.n := by have := hqc; simp at this; omega
    subst hqe
    repeat first | refine opsStep ?_ | refine codeStep ?_ | refine drawStep ?_
    exact finR (l := [(2, .bool b)]) (v := .bool b) ⟨(by kernel_rfl), trivial⟩ (by kernel_rfl) (Ent.refl _ _ _) (by kernel_rfl) ⟨b, L, rfl, rfl, hs, hle, hbt, fun e => ⟨(hbf e).1, by rw [(hbf e).1]; exact (hbf e).2⟩⟩

end Tab
