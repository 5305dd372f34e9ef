/- Lemmas for this claim: part 12. No condition. -/
import Derived.Test.YtgadapklmphliaaZ8
import Derived.Test.YtgadapklmphliaaZ10
import Derived.Test.YtgadapklmphliaaZ11
/- prod.made: the raw product, as new memory. -/
namespace Tab
open Go Go.Proofs
set_option maxRecDepth 10000
set_option linter.unusedVariables false
set_option linter.unusedSimpArgs false
set_option linter.unusedSectionVars false

abbrev Pr := Int × Int
abbrev stP : Pr := (-1, -1)
def pst (p : Pr) : Pr := if p = stP then (0, 0) else p
def pf (d e : Den) (p : Pr) : List Pr := (List.range (2 ^ d.tracks.length)).map fun a => ((stepN d.rows (pst p).1.toNat a : Int), (stepN e.rows (pst p).2.toNat a : Int))
theorem pf_length (d e p) : (pf d e p).length = 2 ^ d.tracks.length := by simp [pf]
def accP (cn : Bool → Bool → Bool) (d e : Den) (p : Pr) : Bool := if p = stP then false else cn (accN d.accept p.1.toNat) (accN e.accept p.2.toNat)
def prdR (d e : Den) : Option (List Pr) := explO (pf d e) 256 300 0 [stP]
/-- A pair of states. -/
def okS (d e : Den) (p : Pr) : Prop := 0 ≤ p.1 ∧ p.1 < d.accept.length ∧ 0 ≤ p.2 ∧ p.2 < e.accept.length
theorem pst_ok {d e : Den} (hd : rightS d = true) (he : rightS e = true) {p : Pr} (h : p = stP ∨ okS d e p) : okS d e (pst p) := by
  have h1 := right_pos hd
  have h2 := right_pos he
  rw [pst]
  split
  · exact ⟨by simp, by simpa using h1, by simp, by simpa using h2⟩
  · rcases h with h | h
    · contradiction
    · exact h
theorem pf_get {d e : Den} {p : Pr} {a : Nat} (ha : a < 2 ^ d.tracks.length) : (pf d e p)[a]? = some ((stepN d.rows (pst p).1.toNat a : Int), (stepN e.rows (pst p).2.toNat a : Int)) := by
  rw [pf, List.getElem?_map, List.getElem?_range ha]; rfl
theorem pf_ok {d e : Den} (hd : rightS d = true) (he : rightS e = true) (hk : d.tracks.length = e.tracks.length) {p : Pr} (h : p = stP ∨ okS d e p) : ∀ t ∈ pf d e p, okS d e t := by
  intro t ht
  obtain ⟨a, ha, rfl⟩ := List.mem_map.1 ht
  have ha := List.mem_range.1 ha
  obtain ⟨q1, q2, q3, q4⟩ := pst_ok hd he h
  have s1 := (stepN_ok hd (q := (pst p).1.toNat) (by omega) ha).2.2.2
  have s2 := (stepN_ok he (q := (pst p).2.toNat) (by omega) (by rw [← hk]; exact ha)).2.2.2
  exact ⟨by simp, by simpa using s1, by simp, by simpa using s2⟩

def pmHs (b K n : Nat) : List AV := (List.range n).map fun j => .hs (b + j) 0 0 K 1
def pmRows (rows : List (List Int)) : List Blk := rows.map fun r => .cells 0 (r.map (.int .i64))
def cp2 (L : List Pr) : List AV := L.flatMap fun p => [.int .i64 p.1, .int .i64 p.2]
theorem cp2_length : ∀ L, (cp2 L).length = L.length * 2
  | [] => rfl
  | p :: L => by have := cp2_length L; simp only [cp2, List.flatMap_cons, List.length_append, List.length_cons, List.length_nil] at this ⊢; omega
theorem cp2_get : ∀ {L : List Pr} {i : Nat} {p : Pr}, L[i]? = some p → (cp2 L)[i * 2]? = some (.int .i64 p.1) ∧ (cp2 L)[i * 2 + 1]? = some (.int .i64 p.2)
  | x :: L, 0, p, h => by simp at h; subst h; exact ⟨rfl, rfl⟩
  | x :: L, i + 1, p, h => by
    have := cp2_get (L := L) (i := i) (p := p) (by simpa using h)
    rw [show (i + 1) * 2 = i * 2 + 1 + 1 by omega]
    simpa [cp2] using this
theorem cp2_closed (L : List Pr) : closeds (cp2 L) := by
  rw [closeds_iff]
  intro a ha
  obtain ⟨p, _, hp⟩ := List.mem_flatMap.1 ha
  simp at hp
  rcases hp with rfl | rfl <;> simp [AV.closed]

/-- The blocks ahead of the rows; the map's and the list's as they are. -/
def pmC (names : List (List UInt8)) (d e : Den) (tE : AV) (Db Lb : Blk) (i : Nat) (acc : List Bool) (K bb : Nat) : List Blk :=
  [.cells 0 (names.map .str), .cells 0 [.hs 0 0 0 names.length 1, aBs d.ak d.accept, aRs d.nk d.next], .cells 0 [tE, aBs e.ak e.accept, aRs e.nk e.next], .cells 0 [.sl .nil 0 [], .sl .nil 0 [], .sl .nil 0 []],
    Db, Lb, .cells 0 [.hs 0 0 0 names.length 1, .hs 7 i 0 i 1, .hs 8 i 0 i 1], .cells i (acc.map .bool), .cells i (pmHs bb K i)]
def pmB (names : List (List UInt8)) (d e : Den) (tE : AV) (L : List Pr) (g i : Nat) (acc : List Bool) (K bb : Nat) : List Blk :=
  pmC names d e tE (.dict (dI (L.map pv2))) (.cells g (cp2 L)) i acc K bb
theorem cp2_snoc (L : List Pr) (p : Pr) : ((cp2 L).drop 0).take (L.length * 2) ++ [.int .i64 p.1, .int .i64 p.2] = cp2 (L ++ [p]) := by
  rw [List.drop_zero, List.take_of_length_le (by rw [cp2_length]; exact Nat.le_refl _)]; simp [cp2]
theorem pmB_length (names d e tE L g i acc K bb) : (pmB names d e tE L g i acc K bb).length = 9 := rfl
theorem pmRows_rn (f rows) : (pmRows rows).map (Blk.rn f) = pmRows rows := by
  rw [pmRows, List.map_map]
  exact List.map_congr_left fun r _ => by simp [Blk.rn, ints_rn]
theorem pmHs_rn (f : Nat → Nat) (b c K : Nat) (h : ∀ j, f (b + j) = c + j) : ∀ n, rns f (pmHs b K n) = pmHs c K n := fun n => by
  rw [pmHs, pmHs, rns_map, List.map_map]
  exact List.map_congr_left fun j _ => by simp [AV.rn, h j]
theorem pmB_rn {names d e tE L g i acc K b c} {f : Nat → Nat} (hf : ∀ j, j < 9 → f j = j) (ht : tE.bel 1) (h : ∀ j, f (b + j) = c + j) : (pmB names d e tE L g i acc K b).map (Blk.rn f) = pmB names d e tE L g i acc K c := by
  have e1 : ∀ k l, (aBs k l).rn f = aBs k l := fun k l => AV.closed_rn _ (aBs_closed k l)
  have e2 : ∀ k l, (aRs k l).rn f = aRs k l := fun k l => AV.closed_rn _ (aRs_closed k l)
  have e3 : tE.rn f = tE := AV.rn_id (n := 1) (fun j hj => hf j (by omega)) tE ht
  simp [pmB, pmC, Blk.rn, rns, AV.rn, strs_rn, bools_rn, hf, e1, e2, e3, pmHs_rn f b c K h, closeds_rn _ (cp2_closed L)]
theorem pmB_bel {names d e tE L g i acc K b n} (h9 : 9 ≤ n) (hn : b + i ≤ n) (ht : tE.bel 1) : blksBel n (pmB names d e tE L g i acc K b) := by
  have e3 := AV.bel_le (show 1 ≤ n by omega) tE ht
  have e4 : bels n (cp2 L) := closeds_bel _ (cp2_closed L)
  have e5 : bels n (pmHs b K i) := by
    rw [pmHs, bels_map]
    intro j hj
    have := List.mem_range.1 hj
    simp only [AV.bel]; omega
  simp [pmB, pmC, blksBel, Blk.bel, bels, AV.bel, bels_map, aBs_bel, aRs_bel, e3, e4, e5]
  omega
theorem pmRows_bel (n rows) : blksBel n (pmRows rows) := by
  rw [pmRows, blksBel_map]
  intro r _
  simp [Blk.bel, bels_map, AV.bel]
theorem pm_ins (q j : Nat) (hj : j < 9) : insF 9 q j = j := if_pos hj
theorem pm_del (j : Nat) (hj : j < 9) : delF 9 j = j := if_pos hj
theorem pm_ins2 (q j : Nat) : insF 9 q (10 + j) = 9 + j := by rw [insF, if_neg (by omega), if_neg (by omega)]; omega
theorem pm_del2 (j : Nat) : delF 9 (9 + j) = 10 + j := by rw [delF, if_neg (by omega)]; omega

theorem pm_in {nt : Fr} {s : Slots} {H : List Blk} {l : List (Nat × AV)} {names d e tE L g i acc K} {p : Pr} {rows : List (List Int)} (hk : nt.k ≤ 9) (hi : rows.length = i) (ht : tE.bel 1)
    (hs : frOk s (l.map fun q => (q.1, q.2.rn (insF 9 (pmRows rows).length)))) (hH : H = pmB names d e tE L g i acc K 9 ++ pmRows rows ++ [.cells 0 [.int .i64 p.1, .int .i64 p.2]]) (bl : frBel 10 l) :
    Ent nt s H (Tab.fr l) (pmB names d e tE L g i acc K 10 ++ .cells 0 [.int .i64 p.1, .int .i64 p.2] :: pmRows rows) := by
  have hrl : (pmRows rows).length = i := by simp [pmRows, hi]
  refine Ent.insMid (pmB names d e tE L g i acc K 10) (pmRows rows) (.cells 0 [.int .i64 p.1, .int .i64 p.2]) (by rw [pmB_length]; exact hk) (by rw [pmB_length]; exact frOk_rn hs) ?_ ?_ ?_
  · rw [hH, pmRows_rn, pmB_length, pmB_rn (fun j hj => pm_ins _ j hj) ht (fun j => pm_ins2 _ j)]
    simp [Blk.rn, rns, AV.rn]
  · rw [pmB_length, hrl]; exact frBel_le (by omega) l bl
  · rw [pmB_length, hrl, blksBel_append]
    exact ⟨pmB_bel (by omega) (by omega) ht, by simp [Blk.bel, bels, AV.bel], pmRows_bel _ _⟩
theorem pm_out {nt : Fr} {s : Slots} {H X : List Blk} {l : List (Nat × AV)} {names d e tE L g i acc K x} {rows : List (List Int)} (hk : nt.k ≤ 9) (hi : rows.length = i) (ht : tE.bel 1)
    (hs : frOk s (l.map fun q => (q.1, q.2.rn (delF 9)))) (hH : H = pmB names d e tE L g i acc K 10 ++ x :: (pmRows rows ++ X)) (bl : frBel 9 l) :
    Ent nt s H (Tab.fr l) (pmB names d e tE L g i acc K 9 ++ pmRows rows) := by
  have hrl : (pmRows rows).length = i := by simp [pmRows, hi]
  refine Ent.delMid (pmB names d e tE L g i acc K 9) (pmRows rows) x X (by rw [pmB_length]; exact hk) (by rw [pmB_length]; exact frOk_rn hs) ?_ ?_ ?_
  · rw [hH, pmRows_rn, pmB_length, pmB_rn (fun j hj => pm_del j hj) ht (fun j => pm_del2 j)]
  · rw [pmB_length, hrl]; exact frBel_le (by omega) l bl
  · rw [pmB_length, hrl, blksBel_append]
    exact ⟨pmB_bel (by omega) (by omega) ht, pmRows_bel _ _⟩

/-- The heap within a round: the place that is looked at stands ahead of the rows. -/
def pmA (names : List (List UInt8)) (d e : Den) (tE : AV) (L : List Pr) (g i : Nat) (acc : List Bool) (K : Nat) (p : Pr) (rows : List (List Int)) : List Blk :=
  pmB names d e tE L g i acc K 10 ++ .cells 0 [.int .i64 p.1, .int .i64 p.2] :: pmRows rows

theorem pmA_len (names d e tE L g i acc K p rows) : (pmA names d e tE L g i acc K p rows).length = rows.length + 10 := by simp [pmA, pmB_length, pmRows]; omega
theorem pmA_bel {names d e tE L g i acc K p rows n} (hi : rows.length = i) (ht : tE.bel 1) : blksBel (rows.length + 10 + n) (pmA names d e tE L g i acc K p rows) := by
  rw [pmA, blksBel_append]
  exact ⟨pmB_bel (by omega) (by omega) ht, by simp [Blk.bel, bels, AV.bel], pmRows_bel _ _⟩
theorem get_prev {α : Type} (A : List α) (r x : α) : ((A ++ [r]) ++ [x])[A.length]? = some r := by simp
theorem set_prev {α : Type} (A : List α) (r x y : α) : ((A ++ [r]) ++ [x]).set A.length y = (A ++ [y]) ++ [x] := by simp
theorem pm_row {nt : Fr} {s : Slots} {H X : List Blk} {l : List (Nat × AV)} {names d e tE L g i acc K p} {rows : List (List Int)} {r : List Int} (hk : nt.k ≤ 9) (hi : rows.length = i) (ht : tE.bel 1) (hs : frOk s l)
    (hH : H = (pmA names d e tE L g i acc K p rows ++ [.cells 0 (r.map (.int .i64))]) ++ X) (bl : frBel (rows.length + 11) l) : Ent nt s H (Tab.fr l) (pmA names d e tE L g i acc K p rows ++ [.cells 0 (r.map (.int .i64))]) := by
  refine Ent.frD hs hH ?_ ?_ ?_
  · rw [List.length_append, pmA_len]; omega
  · rw [List.length_append, pmA_len]; exact bl
  · rw [List.length_append, pmA_len, blksBel_append]
    exact ⟨pmA_bel hi ht, by simp [blksBel, Blk.bel, bels_map, AV.bel]⟩
theorem pm_store {A : List Blk} {x : Blk} {r : List Int} {a : Nat} {v : Int} (ha : a < r.length) : ((A ++ [Blk.cells 0 (r.map (.int .i64))]) ++ [x]).set A.length (Blk.cells 0 (over (r.map (AV.int .i64)) (0 + a * 1) [.int .i64 v])) = (A ++ [Blk.cells 0 ((r.set a v).map (.int .i64))]) ++ [x] := by
  rw [set_prev, Nat.zero_add, Nat.mul_one, over_one (by rw [List.length_map]; exact ha), ← List.map_set]
set_option maxHeartbeats 2000000 in
theorem prod_made (names : List (List UInt8)) (d e : Den) (tE : AV) (cn : Bool → Bool → Bool) (fa : FuncId) (hd : DenOk d) (he : DenOk e) (rd : rightS d = true) (re : rightS e = true) (hk : d.tracks.length = e.tracks.length) (ht : tE.bel 1)
    (hfa : ∀ a b, Pure Try.prog fa [.bool a, .bool b] (.bool (cn a b))) (K : Nat) (hKe : 2 ^ d.tracks.length = K) :
    ACall Try.prog 116 [.agg [.hs 0 0 0 names.length 1, aBs d.ak d.accept, aRs d.nk d.next], .agg [tE, aBs e.ak e.accept, aRs e.nk e.next], .fn (.func fa) [] []] [.cells 0 (names.map .str)]
      fun o H' => (∃ L, prdR d e = some L ∧ o = .ret (.tup [.agg [.hs 0 0 0 names.length 1, .hs 7 L.length 0 L.length 1, .hs 8 L.length 0 L.length 1], .int .i64 0]) ∧
          ∃ b1 b2 b3 b4 b5 b6, H' = [.cells 0 (names.map .str), b1, b2, b3, b4, b5, b6, .cells L.length ((L.map (accP cn d e)).map .bool), .cells L.length (pmHs 9 K L.length)] ++ pmRows (L.map (rowX (pf d e) L)))
        ∨ (prdR d e = none ∧ o = .ret (.tup [aDen den0, .int .i64 140]) ∧ ∃ X, H' = .cells 0 (names.map .str) :: X) := by
  obtain ⟨gd1, gd2, gd3⟩ := rightS_parts rd
  obtain ⟨ge1, ge2, ge3⟩ := rightS_parts re
  obtain ⟨jd1, jd2, jd3, jd4⟩ := tracksS_parts gd1
  obtain ⟨je1, je2, je3, je4⟩ := tracksS_parts ge1
  have hpd := right_pos rd
  have hpe := right_pos re
  have hK : K ≤ 64 := by have : 2 ^ d.tracks.length ≤ 2 ^ 6 := Nat.pow_le_pow_right (by omega) jd1; omega
  have hst : Pure Try.prog 151 [] (.agg [.int .i64 (-1), .int .i64 (-1)]) := by
    refine Pure.of_sw 2 Try.func151 rfl Try.ntmps151 (by kernel_rfl) (Nat.le_of_ble_eq_true (by kernel_rfl)) (by simp [closeds, AV.closed, aSs_closed, aIs_closed, aBs_closed, aRs_closed, aDen_closed]) (by simp [AV.closed, closeds, aSs_closed, aIs_closed, aBs_closed, aRs_closed, aDen_closed]) ?_; refine SW.of_vc ?_
    repeat first | refine opsStep ?_ | refine codeStep ?_ | refine drawStep ?_
    exact finV (v' := .agg [.int .i64 (-1), .int .i64 (-1)]) (by kernel_rfl) rfl
  have hokst : ok2 stP := ok2_mk (by omega) (by omega) (by omega) (by omega)
  have hR : explO (pf d e) 256 (300 - 0) 0 [stP] = prdR d e := rfl
  have hpfl := fun p => pf_length d e p
  generalize prdR d e = R at *
  refine ACall.of_sw 125 Try.func116 rfl Try.ntmps116 (by kernel_rfl) (Nat.le_of_ble_eq_true (by kernel_rfl)) ?_; refine SW.of_vc ?_
  repeat first | refine opsStep ?_ | refine codeStep ?_ | refine drawStep ?_
  refine callP hst ?_
  repeat first | refine opsStep ?_ | refine codeStep ?_ | refine drawStep ?_
  refine put_num mapPP (kv := pv2 stP) (n := 0) (L := []) (by kernel_rfl) (keyPP hokst).choose_spec (by simp) (by simp) rfl ?_
  repeat first | refine opsStep ?_ | refine codeStep ?_ | refine drawStep ?_
  refine callP hst ?_
  repeat first | refine opsStep ?_ | refine codeStep ?_ | refine drawStep ?_
  refine loopE_of (ι := {x : Nat × List Pr × Nat // x.1 ≤ x.2.1.length ∧ explO (pf d e) 256 (300 - x.1) x.1 x.2.1 = R ∧ x.2.1.Nodup ∧ x.2.1.length ≤ 256 ∧ x.2.1[0]? = some stP ∧ (∀ p ∈ x.2.1, p = stP ∨ okS d e p) ∧ (∀ j, j < x.1 → ∀ s, x.2.1[j]? = some s → ∀ t ∈ pf d e s, t ∈ x.2.1)})
    (fun x => (fr [(2, .fn (.func fa) [] []), (3, .ref 1 0 0), (4, .ref 2 0 0), (6, .ref 3 0 0), (8, .mp 4), (9, .hs 5 (x.1.2.2) 0 (x.1.2.1).length 2), (10, .ref 6 0 0), (11, .int .i64 (x.1.1))], (pmB names d e tE (x.1.2.1) (x.1.2.2) (x.1.1) (((x.1.2.1.take x.1.1).map (accP cn d e))) K (9)) ++ pmRows ((x.1.2.1.take x.1.1).map (rowX (pf d e) x.1.2.1))))
    (fun x => 300 - x.1.1) ⟨(0, [stP], 0), by simp, hR, by simp, by simp, rfl, by simp, by simp⟩
    (((Ent.fr' (l := [(2, .fn (.func fa) [] []), (3, .ref 1 0 0), (4, .ref 2 0 0), (6, .ref 3 0 0), (8, .mp 4), (9, .hs 5 (0) 0 ([stP]).length 2), (10, .ref 6 0 0), (11, .int .i64 ((0 : Nat)))])
      (H' := [.cells 0 (names.map .str), .cells 0 [.hs 0 0 0 names.length 1, aBs d.ak d.accept, aRs d.nk d.next], .cells 0 [tE, aBs e.ak e.accept, aRs e.nk e.next], .cells 0 [.sl .nil 0 [], .sl .nil 0 [], .sl .nil 0 []],
        .dict (dI [pv2 stP]), .cells 0 (cp2 [stP]), .cells 0 [.hs 0 0 0 names.length 1, .sl .nil 0 [], .sl .nil 0 []]]) ⟨(by kernel_rfl), (by kernel_rfl), (by kernel_rfl), (by kernel_rfl), (by kernel_rfl), (by kernel_rfl), (by kernel_rfl), (by kernel_rfl), trivial⟩ (by kernel_rfl)).trans (Ent.nilCell 6 1 1 rfl rfl)).trans (Ent.nilCell 6 2 1 rfl rfl) |>.to rfl) ?_
  rintro ⟨⟨i, L, g⟩, hi, hex, hnd, hl256, h0, hok, hcz⟩
  simp only at hi hex hnd hl256 h0 hok hcz
  repeat first | refine opsStep ?_ | refine codeStep ?_ | refine drawStep ?_
  refine decB_dec (fun h => ?_) (fun h => ?_)
  · have hiL : i < L.length := by have := h; simp at this; omega
    obtain ⟨p, hpe⟩ : ∃ p, L[i] = p := ⟨_, rfl⟩
    have hgp : L[i]? = some p := by rw [List.getElem?_eq_getElem hiL, hpe]
    have hpm : p ∈ L := List.mem_of_getElem? hgp
    have hop := hok p hpm
    have hps := pst_ok rd re hop
    have hgc := cp2_get hgp
    have hcl := cp2_length L
    have hok2 : ok2 (p.1, p.2) := by
      rcases hop with rfl | ⟨q1, q2, q3, q4⟩
      · exact hokst
      · exact ok2_mk (by omega) (by omega) (by omega) (by omega)
    rw [show 300 - i = (300 - (i + 1)) + 1 by omega, explO, hgp] at hex
    simp only at hex
    have haccn : (L.take (i + 1)).map (accP cn d e) = (L.take i).map (accP cn d e) ++ [accP cn d e p] := by
      rw [List.take_succ_eq_append_getElem hiL, List.map_append, hpe]; rfl
    have hrown : (L.take (i + 1)).map (rowX (pf d e) (metL L (pf d e p))) = (L.take i).map (rowX (pf d e) L) ++ [rowX (pf d e) (metL L (pf d e p)) p] := by
      rw [List.take_succ_eq_append_getElem hiL, List.map_append, hpe]
      congr 1
      refine List.map_congr_left fun s hs => ?_
      obtain ⟨j, hj, rfl⟩ := List.getElem_of_mem hs
      have hji : j < i := by simp at hj; omega
      obtain ⟨r, hrr⟩ := metL_prefix (pf d e p) L
      rw [hrr]
      exact rowX_grow (hcz j hji _ (by simp [List.getElem?_eq_getElem (show j < L.length by omega)]))
    have hal : ((L.take i).map (accP cn d e)).length = i := by simp; omega
    have hrwl : ((L.take i).map (rowX (pf d e) L)).length = i := by simp; omega
    generalize (L.take i).map (accP cn d e) = acs at *
    generalize (L.take i).map (rowX (pf d e) L) = rws at *
    have hrl : (pmRows rws).length = i := by simp [pmRows, hrwl]
    repeat first | refine opsStep ?_ | refine codeStep ?_ | refine drawStep ?_
    refine guardE_of (by simp; omega) ?_
    repeat first | refine opsStep ?_ | refine codeStep ?_ | refine drawStep ?_
    refine guardE_of rfl ?_
    refine optE_of rfl ?_
    refine guardE_of (by show 0 + i * 2 + 2 ≤ (cp2 L).length; omega) ?_
    iterate 2 refine opsStep ?_
    have hraw : ((cp2 L).drop (0 + i * 2)).take 2 = [.int .i64 p.1, .int .i64 p.2] := by
      obtain ⟨c1, c2⟩ := hgc
      obtain ⟨k1, e1⟩ := List.getElem?_eq_some_iff.1 c1
      obtain ⟨k2, e2⟩ := List.getElem?_eq_some_iff.1 c2
      rw [Nat.zero_add, List.drop_eq_getElem_cons k1, List.drop_eq_getElem_cons k2, e1, e2]; rfl
    refine optE_of (get_last _ _) ?_
    refine guardE_of rfl ?_
    refine guardE_of ⟨by show (((cp2 L).drop (0 + i * 2)).take 2).length = 2; rw [hraw]; rfl, by decide, by decide⟩ ?_
    iterate 1 refine opsStep ?_
    refine VCode.ent (pm_in (l := [(2, .fn (.func fa) [] []), (3, .ref 1 0 0), (4, .ref 2 0 0), (6, .ref 3 0 0), (8, .mp 4), (9, .hs 5 (g) 0 (L).length 2), (10, .ref 6 0 0), (11, .int .i64 (i)), (12, .ref 9 0 0)]) (names := names) (d := d) (e := e) (K := K) (L := L) (g := g) (i := i) (acc := acs) (p := p) (rows := rws) (Nat.le_of_ble_eq_true (by kernel_rfl)) hrwl ht ⟨(by kernel_rfl), (by kernel_rfl), (by kernel_rfl), (by kernel_rfl), (by kernel_rfl), (by kernel_rfl), (by kernel_rfl), (by kernel_rfl), (by kernel_rfl), trivial⟩ (Eq.trans (b := ((pmB names d e tE (L) (g) (i) (acs) K (9)) ++ pmRows rws ++ [Blk.cells 0 [.int .i64 0, .int .i64 0]]).set ((pmB names d e tE (L) (g) (i) (acs) K (9)) ++ pmRows rws).length (.cells 0 (over [.int .i64 0, .int .i64 0] 0 (((cp2 L).drop (0 + i * 2)).take 2)))) (by kernel_rfl) (by rw [set_last, hraw]; simp [over])) (by simp [frBel, AV.bel, bels])) ?_
    repeat first | refine opsStep ?_ | refine codeStep ?_ | refine drawStep ?_
    refine SW.drawn rfl (by kernel_rfl) ?_
    repeat first | refine opsStep ?_ | refine codeStep ?_ | refine drawStep ?_
    refine .inl ⟨_, _, [], hst, RdsN_refl _, .inr rfl, none_need, ?_⟩
    repeat first | refine opsStep ?_ | refine codeStep ?_ | refine drawStep ?_
    refine ⟨_, eqlPP hok2 hokst, ?_⟩
    repeat first | refine opsStep ?_ | refine codeStep ?_ | refine drawStep ?_
    refine ⟨by kernel_rfl, ?_⟩
    refine VCode.join (b := decide ((p.1, p.2) = ((-1 : Int), (-1 : Int)))) (fr [(2, .fn (.func fa) [] []), (3, .ref 1 0 0), (4, .ref 2 0 0), (6, .ref 3 0 0), (8, .mp 4), (9, .hs 5 (g) 0 (L).length 2), (10, .ref 6 0 0), (11, .int .i64 (i)), (12, .ref 9 0 0)]) (pmA names d e tE (L) (g) i acs K (pst p) rws) (by kernel_rfl) (fun hz => ?_) (fun hz => ?_) ?_
    · have hz : p = stP := of_decide_eq_true hz
      repeat first | refine opsStep ?_ | refine codeStep ?_ | refine drawStep ?_
      refine Ent.fr' ⟨(by kernel_rfl), (by kernel_rfl), (by kernel_rfl), (by kernel_rfl), (by kernel_rfl), (by kernel_rfl), (by kernel_rfl), (by kernel_rfl), (by kernel_rfl), trivial⟩ ?_
      refine Eq.trans (b := (pmB names d e tE (L) (g) (i) (acs) K (10)) ++ .cells 0 (over [.int .i64 p.1, .int .i64 p.2] 0 [.int .i64 0, .int .i64 0]) :: pmRows rws) (by kernel_rfl) ?_
      rw [pmA, pst, if_pos hz]; rfl
    · have hz : ¬ p = stP := of_decide_eq_false hz
      repeat first | refine opsStep ?_ | refine codeStep ?_ | refine drawStep ?_
      refine Ent.fr' ⟨(by kernel_rfl), (by kernel_rfl), (by kernel_rfl), (by kernel_rfl), (by kernel_rfl), (by kernel_rfl), (by kernel_rfl), (by kernel_rfl), (by kernel_rfl), trivial⟩ ?_
      refine Eq.trans (b := (pmB names d e tE (L) (g) (i) (acs) K (10)) ++ .cells 0 [.int .i64 p.1, .int .i64 p.2] :: pmRows rws) (by kernel_rfl) ?_
      rw [pmA, pst, if_neg hz]
    intro s₁ H₁ hent
    refine VCode.ent hent ?_
    have hpf := hpfl p
    rw [hKe] at hpf
    have hfl : ∀ a, a < K → (pf d e p)[a]? = some ((stepN d.rows (pst p).1.toNat a : Int), (stepN e.rows (pst p).2.toNat a : Int)) := fun a ha => pf_get (by rw [hKe]; exact ha)
    have hsd : ∀ a, a < K → ∃ (h1 : (pst p).1.toNat < d.next.length) (h2 : a < (d.next[(pst p).1.toNat]).2.length), (d.next[(pst p).1.toNat]).2[a] = (stepN d.rows (pst p).1.toNat a : Int) ∧ stepN d.rows (pst p).1.toNat a < d.accept.length :=
      fun a ha => stepN_ok rd (by obtain ⟨q1, q2, q3, q4⟩ := hps; omega) (by rw [hKe]; exact ha)
    have hse : ∀ a, a < K → ∃ (h1 : (pst p).2.toNat < e.next.length) (h2 : a < (e.next[(pst p).2.toNat]).2.length), (e.next[(pst p).2.toNat]).2[a] = (stepN e.rows (pst p).2.toNat a : Int) ∧ stepN e.rows (pst p).2.toNat a < e.accept.length :=
      fun a ha => stepN_ok re (by obtain ⟨q1, q2, q3, q4⟩ := hps; omega) (by rw [← hk, hKe]; exact ha)
    have hokf := pf_ok rd re hk hop
    have hac : accP cn d e p = if i = 0 then false else cn (accN d.accept (pst p).1.toNat) (accN e.accept (pst p).2.toNat) := by
      by_cases e0 : i = 0
      · subst e0
        have : p = stP := by rw [h0] at hgp; exact (Option.some.inj hgp).symm
        rw [accP, if_pos this]; rfl
      · have hne : p ≠ stP := fun e => by
          obtain ⟨k1, e1⟩ := List.getElem?_eq_some_iff.1 h0
          exact List.pairwise_iff_getElem.1 hnd 0 i k1 hiL (by omega) (by rw [e1, hpe, e])
        rw [accP, if_neg hne, if_neg e0, pst, if_neg hne]
    have hnd0 : 0 < d.next.length := by omega
    have hr0 : d.next[0]? = some d.next[0] := List.getElem?_eq_getElem hnd0
    have hr0l : (d.next[0]).2.length = K := by rw [← hKe]; exact (rowOk_parts (gd3 _ (List.getElem_mem hnd0))).1
    generalize d.next[0] = r0 at *
    repeat first | refine opsStep ?_ | refine codeStep ?_ | refine drawStep ?_
    refine guardE_of (by simp; omega) ?_
    repeat first | refine opsStep ?_ | refine codeStep ?_ | refine drawStep ?_
    refine optE_of (c := aIs r0.1 r0.2) (by simp [Value.cells, hr0]) ?_
    repeat first | refine opsStep ?_ | refine codeStep ?_ | refine drawStep ?_
    refine guardE_of ⟨by omega, by omega, by show (8 : Int) * (r0.2.length : Int) ≤ 281474976710656; omega, by omega⟩ ?_
    repeat first | refine opsStep ?_ | refine codeStep ?_ | refine drawStep ?_
    refine loopE_of (ι := {y : Nat × Nat // y.1 ≤ K ∧ (metL L ((pf d e p).take y.1)).length ≤ 256})
      (fun y => (fr [(2, .fn (.func fa) [] []), (3, .ref 1 0 0), (4, .ref 2 0 0), (6, .ref 3 0 0), (8, .mp 4), (9, .hs 5 (y.1.2) 0 ((metL L ((pf d e p).take y.1.1))).length 2), (10, .ref 6 0 0), (11, .int .i64 (i)), (12, .ref 9 0 0), (13, .hs ((pmA names d e tE ((metL L ((pf d e p).take y.1.1))) (y.1.2) i acs K (pst p) rws)).length 0 0 K 1), (47, .int .i64 K), (48, .int .i64 y.1.1)],
        (pmA names d e tE ((metL L ((pf d e p).take y.1.1))) (y.1.2) i acs K (pst p) rws) ++ [(Blk.cells 0 ((partL (fun j => (ixOf (metL L (pf d e p)) ((pf d e p).getD j stP) : Int)) K (y.1.1)).map (.int .i64)))]))
      (fun y => K - y.1.1) ⟨(0, g), by omega, by simpa [metL] using hl256⟩ (Ent.fr' ⟨(by kernel_rfl), (by kernel_rfl), (by kernel_rfl), (by kernel_rfl), (by kernel_rfl), (by kernel_rfl), (by kernel_rfl), (by kernel_rfl), (by kernel_rfl), ?_, ?_, (by kernel_rfl), trivial⟩ ?_) ?_
    · refine Eq.trans (b := .hs ((pmA names d e tE (L) (g) i acs K (pst p) rws)).length 0 0 r0.2.length 1) (by kernel_rfl) ?_
      rw [hr0l]; rfl
    · refine Eq.trans (b := .int .i64 (r0.2.length : Nat)) (by kernel_rfl) ?_
      rw [hr0l]
    · refine Eq.trans (b := (pmA names d e tE (L) (g) i acs K (pst p) rws) ++ [.cells 0 (reps [.int .i64 0] r0.2.length)]) (by kernel_rfl) ?_
      rw [reps_one, partL_zero, hr0l]; simp [metL]
    rintro ⟨⟨a, g⟩, ha, hM256⟩
    simp only at ha hM256
    have hpl := partL_length (fun j => (ixOf (metL L (pf d e p)) ((pf d e p).getD j stP) : Int)) K a
    have hMok : ∀ y ∈ metL L ((pf d e p).take a), y = stP ∨ okS d e y := fun y hy => by
      rcases (metL_mem _ _ _).1 hy with hy | hy
      · exact hok y hy
      · exact .inr (hokf y (List.mem_of_mem_take hy))
    have hMn := metL_nodup ((pf d e p).take a) L hnd
    obtain ⟨M, hMe⟩ : ∃ M, metL L ((pf d e p).take a) = M := ⟨_, rfl⟩
    rw [hMe] at hMok hMn
    have hM256 : M.length ≤ 256 := by rw [← hMe]; exact hM256
    refine VCode.ent (Ent.fr' (l := [(2, .fn (.func fa) [] []), (3, .ref 1 0 0), (4, .ref 2 0 0), (6, .ref 3 0 0), (8, .mp 4), (9, .hs 5 (g) 0 (M).length 2), (10, .ref 6 0 0), (11, .int .i64 (i)), (12, .ref 9 0 0), (13, .hs ((pmA names d e tE (M) (g) i acs K (pst p) rws)).length 0 0 K 1), (47, .int .i64 K), (48, .int .i64 a)])
      (H' := (pmA names d e tE (M) (g) i acs K (pst p) rws) ++ [(Blk.cells 0 ((partL (fun j => (ixOf (metL L (pf d e p)) ((pf d e p).getD j stP) : Int)) K (a)).map (.int .i64)))]) ⟨(by kernel_rfl), (by kernel_rfl), (by kernel_rfl), (by kernel_rfl), (by kernel_rfl), ?_, (by kernel_rfl), (by kernel_rfl), (by kernel_rfl), (by kernel_rfl), (by kernel_rfl), (by kernel_rfl), trivial⟩ ?_) ?_
    · subst hMe; kernel_rfl
    · subst hMe; kernel_rfl
    repeat first | refine opsStep ?_ | refine codeStep ?_ | refine drawStep ?_
    refine decB_dec (fun hg => ?_) (fun hg => ?_)
    · have hal : a < K := by have := hg; simp at this; omega
      obtain ⟨s1, s2, s3, s4⟩ := hsd a hal
      obtain ⟨t1, t2, t3, t4⟩ := hse a hal
      have hfa : a < (pf d e p).length := by rw [hpf]; exact hal
      have hfe : (pf d e p)[a] = ((stepN d.rows (pst p).1.toNat a : Int), (stepN e.rows (pst p).2.toNat a : Int)) := by
        have := hfl a hal
        rw [List.getElem?_eq_getElem hfa] at this
        exact Option.some.inj this
      have hit := metL_at_hit (acc := L) hfa
      have miss := metL_at_miss (acc := L) hfa
      have hgd : (pf d e p).getD a stP = ((stepN d.rows (pst p).1.toNat a : Int), (stepN e.rows (pst p).2.toNat a : Int)) := by rw [List.getD_eq_getElem?_getD, hfl a hal]; rfl
      rw [hfe, hMe] at hit miss
      have sg : d.next[(pst p).1.toNat]? = some d.next[(pst p).1.toNat] := List.getElem?_eq_getElem s1
      have tg : e.next[(pst p).2.toNat]? = some e.next[(pst p).2.toNat] := List.getElem?_eq_getElem t1
      have s5 : (d.next[(pst p).1.toNat]).2[a]? = some (stepN d.rows (pst p).1.toNat a : Int) := by rw [List.getElem?_eq_getElem s2, s3]
      have t5 : (e.next[(pst p).2.toNat]).2[a]? = some (stepN e.rows (pst p).2.toNat a : Int) := by rw [List.getElem?_eq_getElem t2, t3]
      have hco : ok2 ((stepN d.rows (pst p).1.toNat a : Int), (stepN e.rows (pst p).2.toNat a : Int)) := ok2_mk (by omega) (by omega) (by omega) (by omega)
      obtain ⟨q1, q2, q3, q4⟩ := hps
      generalize (stepN d.rows (pst p).1.toNat a : Int) = c1 at *
      generalize (stepN e.rows (pst p).2.toNat a : Int) = c2 at *
      generalize d.next[(pst p).1.toNat] = r1 at *
      generalize e.next[(pst p).2.toNat] = r2 at *
      repeat first | refine opsStep ?_ | refine codeStep ?_ | refine drawStep ?_
      refine SW.drawn rfl (by kernel_rfl) ?_
      repeat first | refine opsStep ?_ | refine codeStep ?_ | refine drawStep ?_
      refine guardE_of (by omega) ?_
      repeat first | refine opsStep ?_ | refine codeStep ?_ | refine drawStep ?_
      refine optE_of (c := aIs r1.1 r1.2) (by simp [Value.cells, sg]) ?_
      repeat first | refine opsStep ?_ | refine codeStep ?_ | refine drawStep ?_
      refine guardE_of (by simp; omega) ?_
      repeat first | refine opsStep ?_ | refine codeStep ?_ | refine drawStep ?_
      refine optE_of (c := .int .i64 c1) (by simp [Value.cells, s5]) ?_
      repeat first | refine opsStep ?_ | refine codeStep ?_ | refine drawStep ?_
      refine guardE_of (by omega) ?_
      repeat first | refine opsStep ?_ | refine codeStep ?_ | refine drawStep ?_
      refine optE_of (c := aIs r2.1 r2.2) (by simp [Value.cells, tg]) ?_
      repeat first | refine opsStep ?_ | refine codeStep ?_ | refine drawStep ?_
      refine guardE_of (by simp; omega) ?_
      repeat first | refine opsStep ?_ | refine codeStep ?_ | refine drawStep ?_
      refine optE_of (c := .int .i64 c2) (by simp [Value.cells, t5]) ?_
      repeat first | refine opsStep ?_ | refine codeStep ?_ | refine drawStep ?_
      refine optE_of (get_last _ _) ?_
      refine guardE_of rfl ?_
      repeat first | refine opsStep ?_ | refine codeStep ?_ | refine drawStep ?_
      refine ⟨by kernel_rfl, ?_⟩
      refine VCode.ent (Ent.fr' (l := [(2, .fn (.func fa) [] []), (3, .ref 1 0 0), (4, .ref 2 0 0), (6, .ref 3 0 0), (8, .mp 4), (9, .hs 5 (g) 0 (M).length 2), (10, .ref 6 0 0), (11, .int .i64 (i)), (12, .ref 9 0 0), (13, .hs ((pmA names d e tE (M) (g) i acs K (pst p) rws)).length 0 0 K 1), (14, .int .i64 a), (15, .ref ((pmA names d e tE (M) (g) i acs K (pst p) rws) ++ [(Blk.cells 0 ((partL (fun j => (ixOf (metL L (pf d e p)) ((pf d e p).getD j stP) : Int)) K (a)).map (.int .i64)))]).length 0 0), (47, .int .i64 K), (48, .int .i64 a)])
        (H' := ((pmA names d e tE (M) (g) i acs K (pst p) rws) ++ [(Blk.cells 0 ((partL (fun j => (ixOf (metL L (pf d e p)) ((pf d e p).getD j stP) : Int)) K (a)).map (.int .i64)))]) ++ [(Blk.cells 0 [.int .i64 c1, .int .i64 c2])]) ⟨(by kernel_rfl), (by kernel_rfl), (by kernel_rfl), (by kernel_rfl), (by kernel_rfl), (by kernel_rfl), (by kernel_rfl), (by kernel_rfl), (by kernel_rfl), (by kernel_rfl), (by kernel_rfl), (by kernel_rfl), (by kernel_rfl), (by kernel_rfl), trivial⟩ ?_) ?_
      · refine Eq.trans (b := (((pmA names d e tE (M) (g) i acs K (pst p) rws) ++ [(Blk.cells 0 ((partL (fun j => (ixOf (metL L (pf d e p)) ((pf d e p).getD j stP) : Int)) K (a)).map (.int .i64)))]) ++ [Blk.cells 0 [.int .i64 0, .int .i64 0]]).set ((pmA names d e tE (M) (g) i acs K (pst p) rws) ++ [(Blk.cells 0 ((partL (fun j => (ixOf (metL L (pf d e p)) ((pf d e p).getD j stP) : Int)) K (a)).map (.int .i64)))]).length (.cells 0 (over [.int .i64 0, .int .i64 0] 0 [.int .i64 c1, .int .i64 c2]))) (by kernel_rfl) ?_
        rw [set_last]; simp [over]
      have hn2 : (M.map pv2).Nodup := List.Pairwise.map _ (fun x y h e => h (pv2_inj e)) hMn
      have hMo2 : ∀ y ∈ M, ok2 y := fun y hy => by
        rcases hMok y hy with rfl | ⟨q1, q2, q3, q4⟩
        · exact hokst
        · exact ok2_mk (by omega) (by omega) (by omega) (by omega)
      have hks : ∀ x ∈ M.map pv2, ∃ q, keyOf Try.prog 197 x = some q := fun x hx => by
        obtain ⟨y, hy, rfl⟩ := List.mem_map.1 hx
        exact keyPP (hMo2 y hy)
      obtain ⟨lx, hlx⟩ := keyPP hco
      repeat first | refine opsStep ?_ | refine codeStep ?_ | refine drawStep ?_
      refine optE_of (get_last _ _) ?_
      refine guardE_of rfl ?_
      repeat first | refine opsStep ?_ | refine codeStep ?_ | refine drawStep ?_
      refine look_num mapPP (kv := pv2 (c1, c2)) (by kernel_rfl) hlx hn2 hks (fun k hkk => ?_) (fun hnm => ?_)
      · obtain ⟨y, hy, hye⟩ : ∃ y, M[k]? = some y ∧ pv2 y = pv2 (c1, c2) := by
          rw [List.getElem?_map, Option.map_eq_some_iff] at hkk; exact hkk
        have hye := pv2_inj hye
        subst hye
        have hm := List.mem_of_getElem? hy
        have hix := ixOf_get hMn hy
        obtain ⟨z1, z2⟩ := hit hm
        rw [hix] at z2
        repeat first | refine opsStep ?_ | refine codeStep ?_ | refine drawStep ?_
        refine guardE_of (by simp; omega) ?_
        repeat first | refine opsStep ?_ | refine codeStep ?_ | refine drawStep ?_
        refine optE_of (get_prev _ _ _) ?_
        refine guardE_of rfl ?_
        refine guardE_of ⟨rfl, by decide, by show 0 + a * 1 + 1 ≤ ((partL (fun j => (ixOf (metL L (pf d e p)) ((pf d e p).getD j stP) : Int)) K (a)).map (AV.int .i64)).length; rw [List.length_map, hpl]; omega⟩ ?_
        repeat first | refine opsStep ?_ | refine codeStep ?_ | refine drawStep ?_
        refine ⟨⟨(a + 1, g), by omega, by rw [z1]; exact hM256⟩, (by show K - (a + 1) < K - a; omega), Ent.to (pm_row (l := [(2, .fn (.func fa) [] []), (3, .ref 1 0 0), (4, .ref 2 0 0), (6, .ref 3 0 0), (8, .mp 4), (9, .hs 5 (g) 0 ((metL L ((pf d e p).take (a + 1)))).length 2), (10, .ref 6 0 0), (11, .int .i64 (i)), (12, .ref 9 0 0), (13, .hs ((pmA names d e tE ((metL L ((pf d e p).take (a + 1)))) (g) i acs K (pst p) rws)).length 0 0 K 1), (47, .int .i64 K), (48, .int .i64 (a + 1 : Nat))]) (X := [(Blk.cells 0 [.int .i64 c1, .int .i64 c2])]) (r := (partL (fun j => (ixOf (metL L (pf d e p)) ((pf d e p).getD j stP) : Int)) K (a)).set a (k : Nat)) (names := names) (d := d) (e := e) (tE := tE) (L := M) (g := g) (i := i) (acc := acs) (K := K) (p := pst p) (rows := rws)
          (Nat.le_of_ble_eq_true (by kernel_rfl)) hrwl ht ⟨(by kernel_rfl), (by kernel_rfl), (by kernel_rfl), (by kernel_rfl), (by kernel_rfl), Eq.trans (b := .hs 5 g 0 M.length 2) (by kernel_rfl) (by rw [z1]), (by kernel_rfl), (by kernel_rfl), (by kernel_rfl), (by kernel_rfl), (by kernel_rfl), inc_slot (i := a) (by omega), trivial⟩ (Eq.trans (b := (((pmA names d e tE (M) (g) i acs K (pst p) rws) ++ [(Blk.cells 0 ((partL (fun j => (ixOf (metL L (pf d e p)) ((pf d e p).getD j stP) : Int)) K (a)).map (.int .i64)))]) ++ [(Blk.cells 0 [.int .i64 c1, .int .i64 c2])]).set ((pmA names d e tE (M) (g) i acs K (pst p) rws)).length (Blk.cells 0 (over ((partL (fun j => (ixOf (metL L (pf d e p)) ((pf d e p).getD j stP) : Int)) K (a)).map (.int .i64)) (0 + a * 1) [.int .i64 (k : Nat)]))) (by kernel_rfl) (pm_store (by rw [hpl]; exact hal))) ?_) ?_⟩
        · rw [pmA_len]; simp [frBel, AV.bel, bels]
        · show _ = (pmA names d e tE ((metL L ((pf d e p).take (a + 1)))) (g) i acs K (pst p) rws) ++ [(Blk.cells 0 ((partL (fun j => (ixOf (metL L (pf d e p)) ((pf d e p).getD j stP) : Int)) K (a + 1)).map (.int .i64)))]
          rw [z1, ← partL_step, hgd, z2]
      · have hnm' : (c1, c2) ∉ M := fun h => hnm (List.mem_map.2 ⟨_, h, rfl⟩)
        obtain ⟨z1, z2⟩ := miss hnm'
        repeat first | refine opsStep ?_ | refine codeStep ?_ | refine drawStep ?_
        refine decB_dec (fun h256 => ?_) (fun h256 => ?_)
        · have h256 : M.length = 256 := by have := h256; omega
          have hbig : 256 < (metL L (pf d e p)).length := by
            obtain ⟨r, hr⟩ := metL_prefix ((pf d e p).drop (a + 1)) (metL L ((pf d e p).take (a + 1)))
            rw [← metL_append, List.take_append_drop] at hr
            rw [hr, z1]; simp; omega
          rw [if_pos hbig] at hex
          have h4 := AV.bel_le (show 1 ≤ 4 by omega) tE ht
          repeat first | refine opsStep ?_ | refine codeStep ?_ | refine drawStep ?_
          refine ⟨_, _, _, Ent.frT 4 (l := [(6, .ref 3 0 0), (7, .int .i64 140)]) (H' := [.cells 0 (names.map .str), .cells 0 [.hs 0 0 0 names.length 1, aBs d.ak d.accept, aRs d.nk d.next], .cells 0 [tE, aBs e.ak e.accept, aRs e.nk e.next], .cells 0 [.sl .nil 0 [], .sl .nil 0 [], .sl .nil 0 []]])
            ⟨(by kernel_rfl), (by kernel_rfl), trivial⟩ (by kernel_rfl) (Nat.le_of_ble_eq_true (by kernel_rfl)) (by simp [frBel, AV.bel]) (by simp [blksBel, Blk.bel, bels, AV.bel, bels_map, aBs_bel, aRs_bel, h4]), (by kernel_rfl), .inr ⟨hex.symm, rfl, _, rfl⟩⟩
        · have h256 : M.length < 256 := by have := h256; omega
          have hm1 : (metL L ((pf d e p).take (a + 1))).length ≤ 256 := by rw [z1, List.length_append, List.length_singleton]; omega
          repeat first | refine opsStep ?_ | refine codeStep ?_ | refine drawStep ?_
          refine optE_of (get_last _ _) ?_
          refine guardE_of rfl ?_
          repeat first | refine opsStep ?_ | refine codeStep ?_ | refine drawStep ?_
          refine put_num mapPP (kv := pv2 (c1, c2)) (n := M.length) (L := M.map pv2) (by kernel_rfl) hlx hks hnm (by simp) ?_
          repeat first | refine opsStep ?_ | refine codeStep ?_ | refine drawStep ?_
          refine optE_of (show (List.set (((pmA names d e tE (M) (g) i acs K (pst p) rws) ++ [(Blk.cells 0 ((partL (fun j => (ixOf (metL L (pf d e p)) ((pf d e p).getD j stP) : Int)) K (a)).map (.int .i64)))]) ++ [(Blk.cells 0 [.int .i64 c1, .int .i64 c2])]) 4 (.dict (dI (M.map pv2 ++ [pv2 (c1, c2)]))))[((pmA names d e tE (M) (g) i acs K (pst p) rws) ++ [(Blk.cells 0 ((partL (fun j => (ixOf (metL L (pf d e p)) ((pf d e p).getD j stP) : Int)) K (a)).map (.int .i64)))]).length]? = some (Blk.cells 0 [.int .i64 c1, .int .i64 c2]) from by
            rw [List.getElem?_set_ne (by rw [List.length_append, pmA_len]; omega)]; exact get_last _ _) ?_
          refine guardE_of rfl ?_
          repeat first | refine opsStep ?_ | refine codeStep ?_ | refine drawStep ?_
          refine guardE_of ⟨rfl, by show 0 + M.length * 2 ≤ (cp2 M).length; rw [cp2_length]; omega⟩ ?_
          refine guardE_of rfl ?_
          refine optE_of (get_last _ _) ?_
          refine guardE_of ⟨rfl, Nat.le_refl _⟩ ?_
          refine guardE_of ⟨by omega, by show (M.length + 1) * 16 ≤ 140737488355328; omega⟩ ?_
          iterate 2 refine opsStep ?_
          refine VCode.ent (pm_row (l := [(2, .fn (.func fa) [] []), (3, .ref 1 0 0), (4, .ref 2 0 0), (6, .ref 3 0 0), (8, .mp 4), (9, .hs 5 ((g + 1)) 0 ((M ++ [(c1, c2)])).length 2), (10, .ref 6 0 0), (11, .int .i64 (i)), (12, .ref 9 0 0), (13, .hs ((pmA names d e tE ((M ++ [(c1, c2)])) ((g + 1)) i acs K (pst p) rws)).length 0 0 K 1), (14, .int .i64 a), (16, .int .i64 M.length), (47, .int .i64 K), (48, .int .i64 a)]) (X := [(Blk.cells 0 [.int .i64 c1, .int .i64 c2]), (Blk.cells 0 [.int .i64 c1, .int .i64 c2])]) (r := (partL (fun j => (ixOf (metL L (pf d e p)) ((pf d e p).getD j stP) : Int)) K (a))) (names := names) (d := d) (e := e) (tE := tE) (L := M ++ [(c1, c2)]) (g := g + 1) (i := i) (acc := acs) (K := K) (p := pst p) (rows := rws)
            (Nat.le_of_ble_eq_true (by kernel_rfl)) hrwl ht ⟨(by kernel_rfl), (by kernel_rfl), (by kernel_rfl), (by kernel_rfl), (by kernel_rfl), Eq.trans (b := .hs 5 (g + 1) 0 (M.length + 1) 2) (by kernel_rfl) (by rw [List.length_append]; rfl), (by kernel_rfl), (by kernel_rfl), (by kernel_rfl), (by kernel_rfl), (by kernel_rfl), (by kernel_rfl), (by kernel_rfl), (by kernel_rfl), trivial⟩
            (Eq.trans (b := (((pmC names d e tE (.dict (dI (M.map pv2 ++ [pv2 (c1, c2)]))) (.cells (g + 1) (((cp2 M).drop 0).take (M.length * 2) ++ [.int .i64 c1, .int .i64 c2])) i acs K 10 ++ .cells 0 [.int .i64 (pst p).1, .int .i64 (pst p).2] :: pmRows rws) ++ [(Blk.cells 0 ((partL (fun j => (ixOf (metL L (pf d e p)) ((pf d e p).getD j stP) : Int)) K (a)).map (.int .i64)))]) ++ [(Blk.cells 0 [.int .i64 c1, .int .i64 c2])]) ++ [(Blk.cells 0 [.int .i64 c1, .int .i64 c2])]) (by kernel_rfl) (by rw [cp2_snoc M (c1, c2), pmA, pmB, List.map_append, List.append_assoc (_ ++ [_]) [_] [_]]; rfl)) ?_) ?_
          · rw [pmA_len]; simp [frBel, AV.bel, bels]
          repeat first | refine opsStep ?_ | refine codeStep ?_ | refine drawStep ?_
          refine guardE_of (by simp; omega) ?_
          repeat first | refine opsStep ?_ | refine codeStep ?_ | refine drawStep ?_
          refine optE_of (get_last _ _) ?_
          refine guardE_of rfl ?_
          refine guardE_of ⟨rfl, by decide, by show 0 + a * 1 + 1 ≤ ((partL (fun j => (ixOf (metL L (pf d e p)) ((pf d e p).getD j stP) : Int)) K (a)).map (AV.int .i64)).length; rw [List.length_map, hpl]; omega⟩ ?_
          repeat first | refine opsStep ?_ | refine codeStep ?_ | refine drawStep ?_
          refine ⟨⟨(a + 1, g + 1), by omega, hm1⟩, (by show K - (a + 1) < K - a; omega), Ent.to (pm_row (l := [(2, .fn (.func fa) [] []), (3, .ref 1 0 0), (4, .ref 2 0 0), (6, .ref 3 0 0), (8, .mp 4), (9, .hs 5 ((g + 1)) 0 ((metL L ((pf d e p).take (a + 1)))).length 2), (10, .ref 6 0 0), (11, .int .i64 (i)), (12, .ref 9 0 0), (13, .hs ((pmA names d e tE ((metL L ((pf d e p).take (a + 1)))) ((g + 1)) i acs K (pst p) rws)).length 0 0 K 1), (47, .int .i64 K), (48, .int .i64 (a + 1 : Nat))]) (X := []) (r := (partL (fun j => (ixOf (metL L (pf d e p)) ((pf d e p).getD j stP) : Int)) K (a)).set a (M.length : Nat)) (names := names) (d := d) (e := e) (tE := tE) (L := M ++ [(c1, c2)]) (g := g + 1) (i := i) (acc := acs) (K := K) (p := pst p) (rows := rws)
            (Nat.le_of_ble_eq_true (by kernel_rfl)) hrwl ht ⟨(by kernel_rfl), (by kernel_rfl), (by kernel_rfl), (by kernel_rfl), (by kernel_rfl), Eq.trans (b := .hs 5 (g + 1) 0 (M ++ [(c1, c2)]).length 2) (by kernel_rfl) (by rw [z1]), (by kernel_rfl), (by kernel_rfl), (by kernel_rfl), (by kernel_rfl), (by kernel_rfl), inc_slot (i := a) (by omega), trivial⟩ (Eq.trans (b := ((pmA names d e tE ((M ++ [(c1, c2)])) ((g + 1)) i acs K (pst p) rws) ++ [(Blk.cells 0 ((partL (fun j => (ixOf (metL L (pf d e p)) ((pf d e p).getD j stP) : Int)) K (a)).map (.int .i64)))]).set ((pmA names d e tE ((M ++ [(c1, c2)])) ((g + 1)) i acs K (pst p) rws)).length (Blk.cells 0 (over ((partL (fun j => (ixOf (metL L (pf d e p)) ((pf d e p).getD j stP) : Int)) K (a)).map (.int .i64)) (0 + a * 1) [.int .i64 (M.length : Nat)]))) (by kernel_rfl) (by
              rw [set_last, Nat.zero_add, Nat.mul_one, over_one (by rw [List.length_map, hpl]; exact hal), ← List.map_set, List.append_nil])) ?_) ?_⟩
          · rw [pmA_len]; simp [frBel, AV.bel, bels]
          · show _ = (pmA names d e tE ((metL L ((pf d e p).take (a + 1)))) ((g + 1)) i acs K (pst p) rws) ++ [(Blk.cells 0 ((partL (fun j => (ixOf (metL L (pf d e p)) ((pf d e p).getD j stP) : Int)) K (a + 1)).map (.int .i64)))]
            rw [z1, ← partL_step, hgd, z2]
    · have hae : a = K := by have := hg; simp at this; omega
      have hta : (pf d e p).take a = pf d e p := List.take_of_length_le (by rw [hpf]; omega)
      rw [hta] at hMe
      have hall : (List.range K).map (fun j => (ixOf (metL L (pf d e p)) ((pf d e p).getD j stP) : Int)) = rowX (pf d e) (metL L (pf d e p)) p := by
        rw [rowX]
        refine List.ext_getElem (by simp [hpf]) fun j h1 h2 => ?_
        have hj : j < (pf d e p).length := by simpa using h2
        simp [List.getD_eq_getElem?_getD, hj, ixOf]
      have hrxl : (rowX (pf d e) (metL L (pf d e p)) p).length = K := by rw [rowX, List.length_map, hpf]
      have hcz' : ∀ j, j < i + 1 → ∀ s, (metL L (pf d e p))[j]? = some s → ∀ t ∈ pf d e s, t ∈ metL L (pf d e p) := fun j hj s hs t ht => by
        obtain ⟨r, hrr⟩ := metL_prefix (pf d e p) L
        have hs' : L[j]? = some s := by rw [hrr, List.getElem?_append_left (by omega)] at hs; exact hs
        refine (metL_mem t _ _).2 ?_
        by_cases e : j = i
        · subst e
          rw [hgp] at hs'
          cases hs'
          exact .inr ht
        · exact .inl (hcz j (by omega) s hs' t ht)
      have hmore : i + 1 ≤ (metL L (pf d e p)).length := by
        obtain ⟨r, hrr⟩ := metL_prefix (pf d e p) L
        rw [hrr, List.length_append]; omega
      have htk : (metL L (pf d e p)).take (i + 1) = L.take (i + 1) := by
        obtain ⟨r, hrr⟩ := metL_prefix (pf d e p) L
        rw [hrr, List.take_append_of_le_length (by omega)]
      have h0' : (metL L (pf d e p))[0]? = some stP := by
        obtain ⟨r, hrr⟩ := metL_prefix (pf d e p) L
        rw [hrr, List.getElem?_append_left (by omega)]; exact h0
      have hrow : (partL (fun j => (ixOf (metL L (pf d e p)) ((pf d e p).getD j stP) : Int)) K (a)) = rowX (pf d e) (metL L (pf d e p)) p := by rw [hae, partL_full, hall]
      rw [← htk] at haccn hrown
      rw [hMe] at hex haccn hrown hcz' hmore h0' hrxl hrow
      rw [if_neg (by omega)] at hex
      generalize rowX (pf d e) M p = rx at *
      refine VCode.ent (Ent.fr' (l := [(2, .fn (.func fa) [] []), (3, .ref 1 0 0), (4, .ref 2 0 0), (6, .ref 3 0 0), (8, .mp 4), (9, .hs 5 (g) 0 (M).length 2), (10, .ref 6 0 0), (11, .int .i64 (i)), (12, .ref 9 0 0), (13, .hs ((pmA names d e tE (M) (g) i acs K (pst p) rws)).length 0 0 K 1)]) (H' := (pmA names d e tE (M) (g) i acs K (pst p) rws) ++ [.cells 0 (rx.map (.int .i64))]) ⟨(by kernel_rfl), (by kernel_rfl), (by kernel_rfl), (by kernel_rfl), (by kernel_rfl), (by kernel_rfl), (by kernel_rfl), (by kernel_rfl), (by kernel_rfl), (by kernel_rfl), trivial⟩ (Eq.trans (b := (pmA names d e tE (M) (g) i acs K (pst p) rws) ++ [(Blk.cells 0 ((partL (fun j => (ixOf (metL L (pf d e p)) ((pf d e p).getD j stP) : Int)) K (a)).map (.int .i64)))]) (by kernel_rfl) (by rw [hMe, hrow]))) ?_
      obtain ⟨q1, q2, q3, q4⟩ := hps
      have qa : d.accept[(pst p).1.toNat]? = some (accN d.accept (pst p).1.toNat) := by simp [accN, List.getD_eq_getElem?_getD, show (pst p).1.toNat < d.accept.length by omega]
      have qb : e.accept[(pst p).2.toNat]? = some (accN e.accept (pst p).2.toNat) := by simp [accN, List.getD_eq_getElem?_getD, show (pst p).2.toNat < e.accept.length by omega]
      repeat first | refine opsStep ?_ | refine codeStep ?_ | refine drawStep ?_
      refine SW.drawn rfl (by kernel_rfl) ?_
      repeat first | refine opsStep ?_ | refine codeStep ?_ | refine drawStep ?_
      refine decB_dec (fun hq0 => ?_) (fun hq0 => ?_)
      · have hq0 : ¬ i = 0 := by have := hq0; simp at this; omega
        rw [if_neg hq0] at hac
        repeat first | refine opsStep ?_ | refine codeStep ?_ | refine drawStep ?_
        refine guardE_of (by omega) ?_
        repeat first | refine opsStep ?_ | refine codeStep ?_ | refine drawStep ?_
        refine optE_of (c := .bool (accN d.accept (pst p).1.toNat)) (by simp [Value.cells, qa]) ?_
        repeat first | refine opsStep ?_ | refine codeStep ?_ | refine drawStep ?_
        refine guardE_of (by omega) ?_
        repeat first | refine opsStep ?_ | refine codeStep ?_ | refine drawStep ?_
        refine optE_of (c := .bool (accN e.accept (pst p).2.toNat)) (by simp [Value.cells, qb]) ?_
        repeat first | refine opsStep ?_ | refine codeStep ?_ | refine drawStep ?_
        refine .inl ⟨_, _, [], (hfa (accN d.accept (pst p).1.toNat) (accN e.accept (pst p).2.toNat)), RdsN_refl _, .inr rfl, none_need, ?_⟩
        rw [← hac]
        repeat first | refine opsStep ?_ | refine codeStep ?_ | refine drawStep ?_
        refine guardE_of ⟨rfl, by simp [hal]⟩ ?_
        refine guardE_of rfl ?_
        refine optE_of (get_last _ _) ?_
        refine guardE_of ⟨rfl, Nat.le_refl _⟩ ?_
        refine guardE_of ⟨by omega, by show (i + 1) * 1 ≤ 140737488355328; omega⟩ ?_
        repeat first | refine opsStep ?_ | refine codeStep ?_ | refine drawStep ?_
        refine ⟨by kernel_rfl, ?_⟩
        repeat first | refine opsStep ?_ | refine codeStep ?_ | refine drawStep ?_
        refine guardE_of ⟨rfl, by simp [pmHs]⟩ ?_
        refine guardE_of rfl ?_
        refine optE_of (get_last _ _) ?_
        refine guardE_of ⟨rfl, Nat.le_refl _⟩ ?_
        refine guardE_of ⟨by omega, by show (i + 1) * 24 ≤ 140737488355328; omega⟩ ?_
        repeat first | refine opsStep ?_ | refine codeStep ?_ | refine drawStep ?_
        refine ⟨⟨(i + 1, M, g), hmore, hex, hMn, hM256, h0', hMok, hcz'⟩, (by show 300 - (i + 1) < 300 - i; omega), Ent.to (pm_out (l := [(2, .fn (.func fa) [] []), (3, .ref 1 0 0), (4, .ref 2 0 0), (6, .ref 3 0 0), (8, .mp 4), (9, .hs 5 (g) 0 (M).length 2), (10, .ref 6 0 0), (11, .int .i64 ((i + 1 : Nat)))]) (names := names) (d := d) (e := e) (tE := tE) (L := M) (g := g) (i := i + 1) (acc := acs ++ [accP cn d e p]) (K := K) (rows := rws ++ [rx]) (x := .cells 0 [.int .i64 (pst p).1, .int .i64 (pst p).2])
          (X := [.cells 0 [.bool (accP cn d e p)], .cells 0 [.hs ((pmA names d e tE (M) (g) i acs K (pst p) rws)).length 0 0 K 1]]) (Nat.le_of_ble_eq_true (by kernel_rfl)) (by rw [List.length_append, hrwl]; rfl) ht ⟨(by kernel_rfl), (by kernel_rfl), (by kernel_rfl), (by kernel_rfl), (by kernel_rfl), (by kernel_rfl), (by kernel_rfl), inc_slot (i := i) (by omega), trivial⟩ (Eq.trans (b := ((([.cells 0 (names.map .str), .cells 0 [.hs 0 0 0 names.length 1, aBs d.ak d.accept, aRs d.nk d.next], .cells 0 [tE, aBs e.ak e.accept, aRs e.nk e.next], .cells 0 [.sl .nil 0 [], .sl .nil 0 [], .sl .nil 0 []],
            .dict (dI (M.map pv2)), .cells g (cp2 M), .cells 0 [.hs 0 0 0 names.length 1, .hs 7 (i + 1) 0 (i + 1) 1, .hs 8 (i + 1) 0 (i + 1) 1], .cells (i + 1) (((acs.map AV.bool).drop 0).take (i * 1) ++ [.bool (accP cn d e p)]), .cells (i + 1) (((pmHs 10 K i).drop 0).take (i * 1) ++ [.hs ((pmA names d e tE (M) (g) i acs K (pst p) rws)).length 0 0 K 1])] ++ .cells 0 [.int .i64 (pst p).1, .int .i64 (pst p).2] :: pmRows rws) ++ [Blk.cells 0 (rx.map (.int .i64))]) ++ [Blk.cells 0 [.bool (accP cn d e p)]]) ++ [Blk.cells 0 [.hs ((pmA names d e tE (M) (g) i acs K (pst p) rws)).length 0 0 K 1]]) (by kernel_rfl) ?_) ?_) ?_⟩
        · rw [td_all (by simp [hal]), td_all (by simp [pmHs]), pmA_len, hrwl]
          have e1 : pmHs 10 K i ++ [.hs (i + 10) 0 0 K 1] = pmHs 10 K (i + 1) := by simp [pmHs, List.range_succ, Nat.add_comm]
          have e2 : pmRows (rws ++ [rx]) = pmRows rws ++ [Blk.cells 0 (rx.map (.int .i64))] := by simp [pmRows]
          rw [e1, e2, pmB, pmC, List.map_append]
          simp
        · simp [frBel, AV.bel, bels]
        · show _ = (pmB names d e tE (M) (g) ((i + 1)) (((M.take (i + 1)).map (accP cn d e))) K (9)) ++ pmRows ((M.take (i + 1)).map (rowX (pf d e) M))
          rw [haccn, hrown, (rfl : accP cn d e p = accP cn d e p)]
      · have hq0 : i = 0 := by have := hq0; simp at this; omega
        rw [if_pos hq0] at hac
        repeat first | refine opsStep ?_ | refine codeStep ?_ | refine drawStep ?_
        refine guardE_of ⟨rfl, by simp [hal]⟩ ?_
        refine guardE_of rfl ?_
        refine optE_of (get_last _ _) ?_
        refine guardE_of ⟨rfl, Nat.le_refl _⟩ ?_
        refine guardE_of ⟨by omega, by show (i + 1) * 1 ≤ 140737488355328; omega⟩ ?_
        repeat first | refine opsStep ?_ | refine codeStep ?_ | refine drawStep ?_
        refine ⟨by kernel_rfl, ?_⟩
        repeat first | refine opsStep ?_ | refine codeStep ?_ | refine drawStep ?_
        refine guardE_of ⟨rfl, by simp [pmHs]⟩ ?_
        refine guardE_of rfl ?_
        refine optE_of (get_last _ _) ?_
        refine guardE_of ⟨rfl, Nat.le_refl _⟩ ?_
        refine guardE_of ⟨by omega, by show (i + 1) * 24 ≤ 140737488355328; omega⟩ ?_
        repeat first | refine opsStep ?_ | refine codeStep ?_ | refine drawStep ?_
        refine ⟨⟨(i + 1, M, g), hmore, hex, hMn, hM256, h0', hMok, hcz'⟩, (by show 300 - (i + 1) < 300 - i; omega), Ent.to (pm_out (l := [(2, .fn (.func fa) [] []), (3, .ref 1 0 0), (4, .ref 2 0 0), (6, .ref 3 0 0), (8, .mp 4), (9, .hs 5 (g) 0 (M).length 2), (10, .ref 6 0 0), (11, .int .i64 ((i + 1 : Nat)))]) (names := names) (d := d) (e := e) (tE := tE) (L := M) (g := g) (i := i + 1) (acc := acs ++ [false]) (K := K) (rows := rws ++ [rx]) (x := .cells 0 [.int .i64 (pst p).1, .int .i64 (pst p).2])
          (X := [.cells 0 [.bool (false)], .cells 0 [.hs ((pmA names d e tE (M) (g) i acs K (pst p) rws)).length 0 0 K 1]]) (Nat.le_of_ble_eq_true (by kernel_rfl)) (by rw [List.length_append, hrwl]; rfl) ht ⟨(by kernel_rfl), (by kernel_rfl), (by kernel_rfl), (by kernel_rfl), (by kernel_rfl), (by kernel_rfl), (by kernel_rfl), inc_slot (i := i) (by omega), trivial⟩ (Eq.trans (b := ((([.cells 0 (names.map .str), .cells 0 [.hs 0 0 0 names.length 1, aBs d.ak d.accept, aRs d.nk d.next], .cells 0 [tE, aBs e.ak e.accept, aRs e.nk e.next], .cells 0 [.sl .nil 0 [], .sl .nil 0 [], .sl .nil 0 []],
            .dict (dI (M.map pv2)), .cells g (cp2 M), .cells 0 [.hs 0 0 0 names.length 1, .hs 7 (i + 1) 0 (i + 1) 1, .hs 8 (i + 1) 0 (i + 1) 1], .cells (i + 1) (((acs.map AV.bool).drop 0).take (i * 1) ++ [.bool (false)]), .cells (i + 1) (((pmHs 10 K i).drop 0).take (i * 1) ++ [.hs ((pmA names d e tE (M) (g) i acs K (pst p) rws)).length 0 0 K 1])] ++ .cells 0 [.int .i64 (pst p).1, .int .i64 (pst p).2] :: pmRows rws) ++ [Blk.cells 0 (rx.map (.int .i64))]) ++ [Blk.cells 0 [.bool (false)]]) ++ [Blk.cells 0 [.hs ((pmA names d e tE (M) (g) i acs K (pst p) rws)).length 0 0 K 1]]) (by kernel_rfl) ?_) ?_) ?_⟩
        · rw [td_all (by simp [hal]), td_all (by simp [pmHs]), pmA_len, hrwl]
          have e1 : pmHs 10 K i ++ [.hs (i + 10) 0 0 K 1] = pmHs 10 K (i + 1) := by simp [pmHs, List.range_succ, Nat.add_comm]
          have e2 : pmRows (rws ++ [rx]) = pmRows rws ++ [Blk.cells 0 (rx.map (.int .i64))] := by simp [pmRows]
          rw [e1, e2, pmB, pmC, List.map_append]
          simp
        · simp [frBel, AV.bel, bels]
        · show _ = (pmB names d e tE (M) (g) ((i + 1)) (((M.take (i + 1)).map (accP cn d e))) K (9)) ++ pmRows ((M.take (i + 1)).map (rowX (pf d e) M))
          rw [haccn, hrown, hac]
  · have hie : i = L.length := by have := h; simp at this; omega
    have hRL : R = some L := by
      rw [← hex, show 300 - i = (299 - i) + 1 by omega, explO, List.getElem?_eq_none (by omega)]
    have hLt : L.take i = L := by rw [hie]; exact List.take_length
    refine VCode.ent (Ent.fr' (l := [(2, .fn (.func fa) [] []), (3, .ref 1 0 0), (4, .ref 2 0 0), (6, .ref 3 0 0), (8, .mp 4), (9, .hs 5 (g) 0 (L).length 2), (10, .ref 6 0 0), (11, .int .i64 (i))]) (H' := (pmB names d e tE (L) (g) (L.length) ((L.map (accP cn d e))) K (9)) ++ pmRows (L.map (rowX (pf d e) L))) ⟨(by kernel_rfl), (by kernel_rfl), (by kernel_rfl), (by kernel_rfl), (by kernel_rfl), (by kernel_rfl), (by kernel_rfl), (by kernel_rfl), trivial⟩ ?_) ?_
    · refine Eq.trans (b := (pmB names d e tE (L) (g) (i) (((L.take i).map (accP cn d e))) K (9)) ++ pmRows ((L.take i).map (rowX (pf d e) L))) (by kernel_rfl) ?_
      rw [hLt, hie]
    repeat first | refine opsStep ?_ | refine codeStep ?_ | refine drawStep ?_
    refine finR (l := [(6, .ref 3 0 0), (7, .int .i64 0)]) (H₁ := [.cells 0 (names.map .str), .cells 0 [.hs 0 0 0 names.length 1, aBs d.ak d.accept, aRs d.nk d.next], .cells 0 [tE, aBs e.ak e.accept, aRs e.nk e.next], .cells 0 [.hs 0 0 0 names.length 1, .hs 7 L.length 0 L.length 1, .hs 8 L.length 0 L.length 1],
      .dict (dI (L.map pv2)), .cells g (cp2 L), .cells 0 [.hs 0 0 0 names.length 1, .hs 7 L.length 0 L.length 1, .hs 8 L.length 0 L.length 1], .cells L.length ((L.map (accP cn d e)).map .bool), .cells L.length (pmHs 9 K L.length)] ++ pmRows (L.map (rowX (pf d e) L)))
      (v := .tup [.agg [.hs 0 0 0 names.length 1, .hs 7 L.length 0 L.length 1, .hs 8 L.length 0 L.length 1], .int .i64 0]) ⟨(by kernel_rfl), (by kernel_rfl), trivial⟩ (by kernel_rfl) (Ent.refl _ _ _) (by kernel_rfl) ?_
    exact .inl ⟨L, hRL, rfl, _, _, _, _, _, _, rfl⟩

end Tab

/- A new machine's memory: names, accepts, next, rows. -/
namespace Tab
open Go Go.Proofs
set_option maxRecDepth 10000
set_option linter.unusedVariables false
set_option linter.unusedSimpArgs false
set_option linter.unusedSectionVars false

def ndV (N M : Nat) : AV := .agg [.hs 0 0 0 N 1, .hs 1 M 0 M 1, .hs 2 M 0 M 1]
def ndB (names : List (List UInt8)) (acc : List Bool) (M K b : Nat) : List Blk := [.cells 0 (names.map .str), .cells M (acc.map .bool), .cells M (pmHs b K M)]
def ndH (names : List (List UInt8)) (acc : List Bool) (rows : List (List Int)) (K : Nat) : List Blk := ndB names acc rows.length K 3 ++ pmRows rows

theorem strs_closed' (l : List (List UInt8)) : closeds (l.map .str) := closeds_iff.2 fun a ha => by obtain ⟨x, _, rfl⟩ := List.mem_map.1 ha; simp only [AV.closed]
theorem pmHs_rn' (f : Nat → Nat) (b c K : Nat) : ∀ n, (∀ j, j < n → f (b + j) = c + j) → rns f (pmHs b K n) = pmHs c K n := fun n h => by
  rw [pmHs, pmHs, rns_map, List.map_map]
  exact List.map_congr_left fun j hj => by simp [AV.rn, h j (List.mem_range.1 hj)]
theorem pmHs_bel {b K M n : Nat} (h : b + M ≤ n) : bels n (pmHs b K M) := by
  rw [pmHs, bels_map]
  intro j hj
  have := List.mem_range.1 hj
  simp only [AV.bel]; omega

theorem Ent.newDen {H : List Blk} {a b c base N M K : Nat} {names : List (List UInt8)} {acc : List Bool} {rows : List (List Int)} (e : Int) (h1 : H[a]? = some (.cells 0 (names.map .str))) (h2 : H[b]? = some (.cells M (acc.map .bool)))
    (h3 : H[c]? = some (.cells M (pmHs base K M))) (h4 : ∀ j r, rows[j]? = some r → H[base + j]? = some (.cells 0 (r.map (.int .i64)))) (hM : rows.length = M) (hab : a ≠ b) (hac : a ≠ c) (hbc : b ≠ c) (ha : a < base) (hb : b < base) (hc : c < base) :
    Ent ⟨1, 0⟩ (Tab.fr [(0, .tup [.agg [.hs a 0 0 N 1, .hs b M 0 M 1, .hs c M 0 M 1], .int .i64 e])]) H (Tab.fr [(0, .tup [ndV N M, .int .i64 e])]) (ndH names acc rows K) := by
  subst hM
  obtain ⟨F, hF⟩ : ∃ F, rnB (a :: b :: c :: (List.range rows.length).map (base + ·)) H.length = F := ⟨_, rfl⟩
  have f0 : F 0 = a := by rw [← hF]; rfl
  have f1 : F 1 = b := by rw [← hF]; rfl
  have f2 : F 2 = c := by rw [← hF]; rfl
  have f3 : ∀ j, j < rows.length → F (3 + j) = base + j := fun j hj => by
    rw [← hF]
    refine rnB_lt ?_
    rw [show 3 + j = j + 1 + 1 + 1 by omega, List.getElem?_cons_succ, List.getElem?_cons_succ, List.getElem?_cons_succ, List.getElem?_map, List.getElem?_range hj]
    rfl
  have hl : ∀ {i x}, H[i]? = some x → i < H.length := fun h => (List.getElem?_eq_some_iff.1 h).1
  refine Ent.pick (a :: b :: c :: (List.range rows.length).map (base + ·)) ?_ ?_ (by intro b hb; exact absurd hb (Nat.not_lt_zero _)) _ _ (by simp [ndH, ndB, pmRows]) ?_ ?_ ?_ ?_
  · have hm : ∀ x, x ∈ (List.range rows.length).map (base + ·) → base ≤ x := fun x hx => by
      obtain ⟨j, _, rfl⟩ := List.mem_map.1 hx; omega
    refine List.nodup_cons.2 ⟨?_, List.nodup_cons.2 ⟨?_, List.nodup_cons.2 ⟨?_, ?_⟩⟩⟩
    · rw [List.mem_cons, List.mem_cons]; rintro (h | h | h)
      · exact hab h
      · exact hac h
      · have := hm _ h; omega
    · rw [List.mem_cons]; rintro (h | h)
      · exact hbc h
      · have := hm _ h; omega
    · intro h; have := hm _ h; omega
    · exact List.pairwise_map.2 (List.nodup_range.imp fun {x y} h e => h (by omega))
  · intro x hx
    simp only [List.mem_cons, List.mem_map, List.mem_range] at hx
    rcases hx with rfl | rfl | rfl | ⟨j, hj, rfl⟩
    · exact hl h1
    · exact hl h2
    · exact hl h3
    · exact hl (h4 j rows[j] (List.getElem?_eq_getElem hj))
  · intro t
    rw [hF]
    match t with
    | 0 =>
      right
      show AV.tup [.agg [.hs (F 0) 0 0 N 1, .hs (F 1) rows.length 0 rows.length 1, .hs (F 2) rows.length 0 rows.length 1], .int .i64 e] = _
      rw [f0, f1, f2]; rfl
    | t + 1 => left; rfl
  · intro i x b' hi hφ
    rw [hF]
    match i with
    | 0 => simp [ndH, ndB] at hi hφ; subst hi; subst hφ; rw [h1]; simp [Blk.rn, strs_rn]
    | 1 => simp [ndH, ndB] at hi hφ; subst hi; subst hφ; rw [h2]; simp [Blk.rn, bools_rn]
    | 2 => simp [ndH, ndB] at hi hφ; subst hi; subst hφ; rw [h3]; simp [Blk.rn, pmHs_rn' F 3 base K _ f3]
    | i + 3 =>
      simp only [ndH, ndB, List.cons_append, List.nil_append, List.getElem?_cons_succ, pmRows, List.getElem?_map, Option.map_eq_some_iff] at hi hφ
      obtain ⟨r, hr, rfl⟩ := hi
      obtain ⟨j, hj, rfl⟩ := hφ
      have hj := (List.getElem?_eq_some_iff.1 hj).2
      simp at hj
      subst hj
      rw [h4 i r hr]; simp [Blk.rn, ints_rn]
  · simp [frBel, ndV, AV.bel, bels]
  · rw [ndH, ndB, blksBel_append]
    refine ⟨?_, pmRows_bel _ _⟩
    have : bels (a :: b :: c :: (List.range rows.length).map (base + ·)).length (pmHs 3 K rows.length) := pmHs_bel (by simp; omega)
    simp only [blksBel, Blk.bel, bels_map, AV.bel, implies_true, this, and_self]

/-- The machine read. -/
theorem rd_nd {H : List Blk} {b N M K : Nat} {names : List (List UInt8)} {acc : List Bool} {rows : List (List Int)} (h : ∀ i x, (ndB names acc M K (b + 3) ++ pmRows rows)[i]? = some x → H[b + i]? = some x) (hN : N = names.length) (hA : acc.length = M) (hM : rows.length = M) (hr : ∀ r ∈ rows, r.length = K) :
    Rd H (.agg [.hs b 0 0 N 1, .hs (b + 1) M 0 M 1, .hs (b + 2) M 0 M 1]) (aDen ⟨.any, names, .any, acc, .any, rows.map fun r => (.any, r)⟩) := by
  refine rd_den (base := b + 3) (n := K) (h 0 _ rfl) (h 1 _ rfl) ?_ (fun j r hj => ⟨?_, hr r (List.mem_of_getElem? hj)⟩) hN hA.symm hM.symm
  · rw [h 2 _ rfl, hM]; rfl
  · have := h (j + 3) (.cells 0 (r.map (.int .i64))) (by
      simp only [ndB, List.cons_append, List.nil_append, List.getElem?_cons_succ, pmRows, List.getElem?_map, hj]; rfl)
    rw [← this]; congr 1; omega

theorem ndH_read {N K : Nat} {names : List (List UInt8)} {acc : List Bool} {rows : List (List Int)} (hN : N = names.length) (hA : acc.length = rows.length) (hr : ∀ r ∈ rows, r.length = K) :
    Rd (ndH names acc rows K) (ndV N rows.length) (aDen ⟨.any, names, .any, acc, .any, rows.map fun r => (.any, r)⟩) := by
  have := rd_nd (H := ndH names acc rows K) (b := 0) (N := N) (M := rows.length) (K := K) (names := names) (acc := acc) (rows := rows) (fun i x h => by rw [Nat.zero_add]; exact h) hN hA rfl hr
  exact this

/-- Widen, its tracks kept and the rest given away. -/
theorem track_WidenK (kn : SK) (d : Den) (names : List (List UInt8)) (hd : DenOk d) (hn : names.length * 16 ≤ 140737488351232) (hns : ∀ s ∈ names, s.length ≤ 140737488351232) :
    ACall Try.prog 67 [aDen d, aSs kn names] [] fun o H' => (widenE d names ≠ 0 ∧ o = .ret (.tup [aDen den0, .int .i64 (widenE d names)]) ∧ H' = []) ∨
      (widenE d names = 0 ∧ o = .ret (.tup [.agg [.hs 0 0 0 names.length 1, aBs .any (widenD d names).accept, aRs .any (widenD d names).next], .int .i64 0]) ∧ H' = [.cells 0 (names.map .str)]) := by
  refine (track_Widen kn d names hd hn hns).weak (fun H' h => by rcases h with ⟨_, h⟩ | ⟨_, h, _⟩ <;> cases h) ?_
  rintro v H' (⟨h, hv⟩ | ⟨h, hv, b0, b1, b2, b3, b4, b7, rfl⟩)
  · have hv := Out.ret.inj hv
    subst hv
    exact ⟨.tup [aDen den0, .int .i64 (widenE d names)], [], Ent.give rfl 0 (by simp [AV.closed, closeds, aDen_closed]) (.refl _), .inl ⟨h, rfl, rfl⟩⟩
  · have hv := Out.ret.inj hv
    subst hv
    refine ⟨_, _, Ent.giveBut rfl 0 5 (g := 0) (cs := names.map .str) (v := .tup [.agg [.hs 0 0 0 names.length 1, aBs .any (widenD d names).accept, aRs .any (widenD d names).next], .int .i64 0]) rfl (strs_closed' names) ?_, .inr ⟨h, rfl, rfl⟩⟩
    have hl : d.rows.length = d.next.length := by simp [Den.rows]
    refine .tup (.cons (.agg (.cons (.keep _ _ _ _) (.cons (.rd ?_ (aBs_closed _ _)) (.cons (.rd ?_ (aRs_closed _ _)) .nil)))) (.cons (.rd (.refl _) trivial) .nil))
    · exact Rd.whole (b := 6) (g := 0) (cs := d.accept.map .bool) rfl (by simp)
    · have e : aRs .any (widenD d names).next = .sl .any d.next.length ((d.rows.map (ovRow names.length (placesOf d.tracks names))).map (aIs .any)) := by
        simp [aRs, widenD, hl, Function.comp_def]
      rw [e]
      refine .hs (b := 8) (cs := (List.range d.next.length).map fun j => .hs (9 + j) 0 0 (2 ^ names.length) 1) rfl rfl (by simp) ?_
      rw [List.drop_zero, List.take_of_length_le (by simp)]
      refine Rds.of_get (by simp [hl]) fun i a a' ha ha' => ?_
      rw [List.getElem?_map, Option.map_eq_some_iff] at ha ha'
      obtain ⟨j, hj, rfl⟩ := ha
      obtain ⟨r, hr, rfl⟩ := ha'
      obtain ⟨hj1, hj2⟩ := List.getElem?_eq_some_iff.1 hj
      simp only [List.getElem_range] at hj2
      subst hj2
      rw [List.getElem?_map, Option.map_eq_some_iff] at hr
      obtain ⟨x, hx, rfl⟩ := hr
      refine rd_row ?_ (ovRow_length _ _ _)
      rw [List.getElem?_set_ne (by omega), wdHeap, List.getElem?_append_right (by simp)]
      simp only [List.length_cons, List.length_nil, ovBlks, List.getElem?_map]
      rw [show 9 + i - (0 + 1 + 1 + 1 + 1 + 1 + 1 + 1 + 1 + 1) = i by omega, hx]
      rfl

end Tab

/- tabardref16.grow. -/
namespace Tab
open Go Go.Proofs
set_option maxRecDepth 10000
set_option linter.unusedVariables false
set_option linter.unusedSimpArgs false
set_option linter.unusedSectionVars false

/-! ### What the product is, as a value -/

def holdsS (op : Int) (a b : Bool) : Bool := if op = 3 then a && b else if op = 4 then a || b else if op = 5 then !a || b else if op = 6 then a == b else !a
def prdM (cn : Bool → Bool → Bool) (names : List (List UInt8)) (d e : Den) (L : List Pr) : Den := ⟨.any, names, .any, L.map (accP cn d e), .any, L.map fun p => (.any, rowX (pf d e) L p)⟩
@[irreducible] def prdV (cn : Bool → Bool → Bool) (names : List (List UInt8)) (d e : Den) : Den := match prdR d e with | some L => prdM cn names d e L | none => den0
@[irreducible] def prdE (d e : Den) : Int := match prdR d e with | some _ => 0 | none => 140
theorem prd_some {cn names d e L} (h : prdR d e = some L) : prdV cn names d e = prdM cn names d e L ∧ prdE d e = 0 := by
  unfold prdV prdE; rw [h]; exact ⟨rfl, rfl⟩
theorem prd_none {cn names d e} (h : prdR d e = none) : prdV cn names d e = den0 ∧ prdE d e = 140 := by
  unfold prdV prdE; rw [h]; exact ⟨rfl, rfl⟩

def gN (n : Nat) (p : Pr) : Nat := if p = stP then 0 else (p.1 * n + p.2 + 1).toNat
theorem gN_st (n) : gN n stP = 0 := if_pos rfl
theorem gN_ok {d e : Den} {p : Pr} (h : okS d e p) : (gN e.accept.length p : Int) = p.1 * e.accept.length + p.2 + 1 ∧ gN e.accept.length p < d.accept.length * e.accept.length + 1 := by
  obtain ⟨h1, h2, h3, h4⟩ := h
  have hne : p ≠ stP := fun e => by rw [e] at h1; simp at h1
  have hm : 0 ≤ p.1 * (e.accept.length : Int) := Int.mul_nonneg h1 (by omega)
  have e1 : (gN e.accept.length p : Int) = p.1 * e.accept.length + p.2 + 1 := by rw [gN, if_neg hne]; omega
  refine ⟨e1, ?_⟩
  have : (p.1 + 1) * (e.accept.length : Int) ≤ d.accept.length * e.accept.length := Int.mul_le_mul_of_nonneg_right (by omega) (by omega)
  rw [Int.add_mul, Int.one_mul] at this
  have e2 : ((d.accept.length * e.accept.length : Nat) : Int) = d.accept.length * e.accept.length := by simp
  omega
theorem gN_inj {d e : Den} {p q : Pr} (hp : p = stP ∨ okS d e p) (hq : q = stP ∨ okS d e q) (h : gN e.accept.length p = gN e.accept.length q) : p = q := by
  have pos : ∀ {x : Pr}, okS d e x → gN e.accept.length x ≠ 0 := fun {x} hx => by
    have := (gN_ok hx).1
    obtain ⟨h1, h2, h3, h4⟩ := hx
    have hm : 0 ≤ x.1 * (e.accept.length : Int) := Int.mul_nonneg h1 (by omega)
    omega
  rcases hp with rfl | hp
  · rcases hq with rfl | hq
    · rfl
    · rw [gN_st] at h; exact absurd h.symm (pos hq)
  · rcases hq with rfl | hq
    · rw [gN_st] at h; exact absurd h (pos hp)
    · have e1 := (gN_ok hp).1
      have e2 := (gN_ok hq).1
      obtain ⟨a1, a2, a3, a4⟩ := hp
      obtain ⟨b1, b2, b3, b4⟩ := hq
      have h0 : p.1 * (e.accept.length : Int) + p.2 = q.1 * e.accept.length + q.2 := by omega
      have q1 : (p.1 * (e.accept.length : Int) + p.2) / e.accept.length = p.1 := by
        rw [Int.add_comm, Int.add_mul_ediv_right _ _ (by omega), Int.ediv_eq_zero_of_lt a3 a4]; omega
      have q2 : (q.1 * (e.accept.length : Int) + q.2) / e.accept.length = q.1 := by
        rw [Int.add_comm, Int.add_mul_ediv_right _ _ (by omega), Int.ediv_eq_zero_of_lt b3 b4]; omega
      have e3 : p.1 = q.1 := by rw [← q1, ← q2, h0]
      refine Prod.ext e3 ?_
      rw [e3] at h0; omega

theorem gN_arith {d e : Den} {p : Pr} {n : Nat} (h : okS d e p) (hn : e.accept.length = n) (hd : d.accept.length ≤ 256) (he : n ≤ 256) :
    IntKind.wrap .i64 ((gN n p : Int) - 1) = p.1 * n + p.2 ∧ (n : Int) ≠ 0 ∧ (p.1 * (n : Int) + p.2).tdiv n = p.1 ∧ (p.1 * (n : Int) + p.2).tmod n = p.2 ∧ IntKind.wrap .i64 p.1 = p.1 ∧ 0 ≤ p.1 ∧ p.1 < d.accept.length ∧ 0 ≤ p.2 ∧ p.2 < n := by
  have q1 := (gN_ok h).1
  obtain ⟨a1, a2, a3, a4⟩ := h
  rw [hn] at a4 q1
  have hm0 : 0 ≤ p.1 * (n : Int) := Int.mul_nonneg a1 (by omega)
  have hm1 : p.1 * (n : Int) ≤ 256 * 256 := Int.mul_le_mul (by omega) (by omega) (by omega) (by omega)
  refine ⟨by rw [IntWalk.i64_in _ (by omega)]; omega, by omega, ?_, ?_, IntWalk.i64_in _ (by omega), a1, a2, a3, a4⟩
  · rw [Int.tdiv_eq_ediv_of_nonneg (by omega), Int.add_comm, Int.add_mul_ediv_right _ _ (by omega), Int.ediv_eq_zero_of_lt a3 a4]; omega
  · rw [Int.tmod_eq_emod_of_nonneg (by omega), Int.add_comm, Int.add_mul_emod_self_right, Int.emod_eq_of_lt a3 a4]
theorem gN_wrap {d e : Den} {c1 c2 n : Nat} (h1 : c1 < d.accept.length) (h2 : c2 < e.accept.length) (hn : e.accept.length = n) (hd : d.accept.length ≤ 256) (he : n ≤ 256) :
    IntKind.wrap .i64 (IntKind.wrap .i64 (IntKind.wrap .i64 ((c1 : Int) * n) + c2) + 1) = (gN n ((c1 : Int), (c2 : Int)) : Int) ∧ okS d e ((c1 : Int), (c2 : Int)) := by
  have hok : okS d e ((c1 : Int), (c2 : Int)) := ⟨by simp, by simpa using h1, by simp, by simpa using h2⟩
  have q1 := (gN_ok hok).1
  rw [hn] at q1
  simp only at q1
  have hm0 : 0 ≤ (c1 : Int) * (n : Int) := Int.mul_nonneg (by omega) (by omega)
  have hm1 : (c1 : Int) * (n : Int) ≤ 256 * 256 := Int.mul_le_mul (by omega) (by omega) (by omega) (by omega)
  refine ⟨?_, hok⟩
  rw [IntWalk.i64_in ((c1 : Int) * n) (by omega), IntWalk.i64_in ((c1 : Int) * n + c2) (by omega), IntWalk.i64_in _ (by omega), q1]
def numZ (n : Nat) (L : List Nat) : List Int := (List.range n).map fun j => if j ∈ L then (ixOf L j : Int) else 0
theorem numZ_length (n L) : (numZ n L).length = n := by simp [numZ]
theorem numZ_get {n L j} (h : j < n) : (numZ n L)[j]? = some (if j ∈ L then (ixOf L j : Int) else 0) := by simp [numZ, h]
theorem numZ_set {n : Nat} {L : List Nat} {x : Nat} (hx : x ∉ L) : (numZ n L).set x (L.length : Int) = numZ n (L ++ [x]) := by
  refine List.ext_getElem (by simp [numZ]) fun j h1 h2 => ?_
  simp only [numZ, ixOf, List.getElem_set, List.getElem_map, List.getElem_range, List.mem_append, List.mem_singleton, List.idxOf_append]
  by_cases e : x = j
  · subst e; simp [hx]
  · have e' : ¬ j = x := fun k => e k.symm
    rw [if_neg e]
    by_cases hj : j ∈ L
    · simp [hj]
    · simp [hj, e']
/-- The place of a pair's number is the pair's. -/
theorem nums_ix {d e : Den} {M : List Pr} {t : Pr} (hM : ∀ p ∈ M, p = stP ∨ okS d e p) (ht : t = stP ∨ okS d e t) : (gN e.accept.length t ∈ M.map (gN e.accept.length) ↔ t ∈ M) ∧ ixOf (M.map (gN e.accept.length)) (gN e.accept.length t) = ixOf M t := by
  constructor
  · constructor
    · intro h
      obtain ⟨y, hy, e1⟩ := List.mem_map.1 h
      exact gN_inj (hM y hy) ht e1 ▸ hy
    · exact fun h => List.mem_map.2 ⟨t, h, rfl⟩
  · exact idxOf_map (gN e.accept.length) fun y hy e1 => gN_inj (hM y hy) ht e1

end Tab

/- prod.Not. -/
namespace Tab
open Go Go.Proofs
set_option maxRecDepth 10000
set_option linter.unusedVariables false
set_option linter.unusedSimpArgs false
set_option linter.unusedSectionVars false

def notS (a _b : Bool) : Bool := !a
theorem pf_congr {d e d' e' : Den} (h1 : d'.rows = d.rows) (h2 : e'.rows = e.rows) (h3 : d'.tracks.length = d.tracks.length) : pf d' e' = pf d e := by
  funext p; rw [pf, pf, h1, h2, h3]
theorem prdR_congr {d e d' e' : Den} (h1 : d'.rows = d.rows) (h2 : e'.rows = e.rows) (h3 : d'.tracks.length = d.tracks.length) : prdR d' e' = prdR d e := by
  rw [prdR, prdR, pf_congr h1 h2 h3]
theorem widenD_rows (d names) : (widenD d names).rows = d.rows.map (ovRow names.length (placesOf d.tracks names)) := by
  simp [widenD, Den.rows, Function.comp_def]
theorem widenD_own {d : Den} (h : rightS d = true) : widenE d d.tracks = 0 ∧ (widenD d d.tracks).rows = d.rows ∧ rightS (widenD d d.tracks) = true := by
  obtain ⟨h1, h2⟩ := widen_self h
  have hr : (widenD d d.tracks).rows = d.rows := by
    have k3 := (widenE_of_ok h1).2.1
    rw [widenD_rows, places_self (strict_nodup (rises_strict k3)), rows_id h]
  refine ⟨h1, hr, ?_⟩
  obtain ⟨g1, g2, g3⟩ := rightS_parts h
  have g4 : ∀ r ∈ (widenD d d.tracks).next, rowOk d.tracks.length d.accept.length r.2 = true := fun r hr' => by
    have : r.2 ∈ (widenD d d.tracks).rows := List.mem_map.2 ⟨r, hr', rfl⟩
    rw [hr] at this
    obtain ⟨x, hx, e⟩ := List.mem_map.1 this
    rw [← e]; exact g3 x hx
  have g5 : (widenD d d.tracks).next.length = d.accept.length := by rw [← g2]; simp [widenD, Den.rows]
  simp only [rightS, Bool.and_eq_true, decide_eq_true_eq, List.all_eq_true]
  exact ⟨⟨g1, g5⟩, g4⟩

@[irreducible] def notE (d : Den) : Int := if rightS d = true then prdE d d else 3

end Tab

/- prod.Join. -/
namespace Tab
open Go Go.Proofs
set_option maxRecDepth 10000
set_option linter.unusedVariables false
set_option linter.unusedSimpArgs false
set_option linter.unusedSectionVars false

theorem prod_con1 (a b : Bool) : Pure Try.prog 147 [.bool a, .bool b] (.bool (holdsS 3 a b)) := by
  refine Pure.of_sw 9 Try.func147 rfl Try.ntmps147 (by kernel_rfl) (Nat.le_of_ble_eq_true (by kernel_rfl)) (by simp [closeds, AV.closed, aSs_closed, aIs_closed, aBs_closed, aRs_closed, aDen_closed]) (by simp [AV.closed, closeds, aSs_closed, aIs_closed, aBs_closed, aRs_closed, aDen_closed]) ?_; refine SW.of_vc ?_
  repeat first | refine opsStep ?_ | refine codeStep ?_ | refine drawStep ?_
  refine decB_split (fun h => ?_) (fun h => ?_)
  · subst h
    repeat first | refine opsStep ?_ | refine codeStep ?_ | refine drawStep ?_
    exact finV (v' := .bool b) (by kernel_rfl) (by simp [holdsS])
  · repeat first | refine opsStep ?_ | refine codeStep ?_ | refine drawStep ?_
    exact finV (v' := .bool false) (by kernel_rfl) (by simp [holdsS, h])
theorem prod_con2 (a b : Bool) : Pure Try.prog 148 [.bool a, .bool b] (.bool (holdsS 4 a b)) := by
  refine Pure.of_sw 9 Try.func148 rfl Try.ntmps148 (by kernel_rfl) (Nat.le_of_ble_eq_true (by kernel_rfl)) (by simp [closeds, AV.closed, aSs_closed, aIs_closed, aBs_closed, aRs_closed, aDen_closed]) (by simp [AV.closed, closeds, aSs_closed, aIs_closed, aBs_closed, aRs_closed, aDen_closed]) ?_; refine SW.of_vc ?_
  repeat first | refine opsStep ?_ | refine codeStep ?_ | refine drawStep ?_
  refine decB_split (fun h => ?_) (fun h => ?_)
  · repeat first | refine opsStep ?_ | refine codeStep ?_ | refine drawStep ?_
    exact finV (v' := .bool true) (by kernel_rfl) (by simp [holdsS, h])
  · repeat first | refine opsStep ?_ | refine codeStep ?_ | refine drawStep ?_
    exact finV (v' := .bool b) (by kernel_rfl) (by simp [holdsS, h])
theorem prod_con3 (a b : Bool) : Pure Try.prog 149 [.bool a, .bool b] (.bool (holdsS 5 a b)) := by
  refine Pure.of_sw 10 Try.func149 rfl Try.ntmps149 (by kernel_rfl) (Nat.le_of_ble_eq_true (by kernel_rfl)) (by simp [closeds, AV.closed, aSs_closed, aIs_closed, aBs_closed, aRs_closed, aDen_closed]) (by simp [AV.closed, closeds, aSs_closed, aIs_closed, aBs_closed, aRs_closed, aDen_closed]) ?_; refine SW.of_vc ?_
  repeat first | refine opsStep ?_ | refine codeStep ?_ | refine drawStep ?_
  refine decB_split (fun h => ?_) (fun h => ?_)
  · repeat first | refine opsStep ?_ | refine codeStep ?_ | refine drawStep ?_
    exact finV (v' := .bool true) (by kernel_rfl) (by simp [holdsS, h])
  · repeat first | refine opsStep ?_ | refine codeStep ?_ | refine drawStep ?_
    exact finV (v' := .bool b) (by kernel_rfl) (by simp [holdsS, h])
theorem prod_con4 (a b : Bool) : Pure Try.prog 150 [.bool a, .bool b] (.bool (holdsS 6 a b)) := by
  refine Pure.of_sw 8 Try.func150 rfl Try.ntmps150 (by kernel_rfl) (Nat.le_of_ble_eq_true (by kernel_rfl)) (by simp [closeds, AV.closed, aSs_closed, aIs_closed, aBs_closed, aRs_closed, aDen_closed]) (by simp [AV.closed, closeds, aSs_closed, aIs_closed, aBs_closed, aRs_closed, aDen_closed]) ?_; refine SW.of_vc ?_
  repeat first | refine opsStep ?_ | refine codeStep ?_ | refine drawStep ?_
  exact finV (v' := .bool (a == b)) (by kernel_rfl) rfl

def conF (op : Int) : Option FuncId := if op = 3 then some 147 else if op = 4 then some 148 else if op = 5 then some 149 else if op = 6 then some 150 else none
def conV (op : Int) : AV := match conF op with | some f => .fn (.func f) [] [] | none => .nilf
theorem conF_some {op : Int} (h : 3 ≤ op ∧ op ≤ 6) : ∃ f, conF op = some f ∧ ∀ a b, Pure Try.prog f [.bool a, .bool b] (.bool (holdsS op a b)) := by
  have : op = 3 ∨ op = 4 ∨ op = 5 ∨ op = 6 := by omega
  rcases this with rfl | rfl | rfl | rfl
  · exact ⟨_, rfl, prod_con1⟩
  · exact ⟨_, rfl, prod_con2⟩
  · exact ⟨_, rfl, prod_con3⟩
  · exact ⟨_, rfl, prod_con4⟩
theorem conF_none {op : Int} (h : ¬ (3 ≤ op ∧ op ≤ 6)) : conF op = none := by
  rw [conF, if_neg (by omega), if_neg (by omega), if_neg (by omega), if_neg (by omega)]
@[simp] theorem conV_closed (op : Int) : (conV op).closed := by
  rw [conV]; split <;> simp [AV.closed, closeds]
theorem prod_connective (op : Int) : Pure Try.prog 115 [.int .i64 op] (conV op) := by
  refine Pure.of_sw 12 Try.func115 rfl Try.ntmps115 (by kernel_rfl) (Nat.le_of_ble_eq_true (by kernel_rfl)) (by simp [closeds, AV.closed, aSs_closed, aIs_closed, aBs_closed, aRs_closed, aDen_closed]) (by simp [AV.closed, closeds, aSs_closed, aIs_closed, aBs_closed, aRs_closed, aDen_closed]) ?_; refine SW.of_vc ?_
  repeat first | refine opsStep ?_ | refine codeStep ?_ | refine drawStep ?_
  refine decB_dec (fun h3 => ?_) (fun h3 => ?_)
  · repeat first | refine opsStep ?_ | refine codeStep ?_ | refine drawStep ?_
    exact finV (v' := .fn (.func 147) [] []) (by kernel_rfl) (by rw [conV, conF, if_pos h3])
  repeat first | refine opsStep ?_ | refine codeStep ?_ | refine drawStep ?_
  refine decB_dec (fun h4 => ?_) (fun h4 => ?_)
  · repeat first | refine opsStep ?_ | refine codeStep ?_ | refine drawStep ?_
    exact finV (v' := .fn (.func 148) [] []) (by kernel_rfl) (by rw [conV, conF, if_neg h3, if_pos h4])
  repeat first | refine opsStep ?_ | refine codeStep ?_ | refine drawStep ?_
  refine decB_dec (fun h5 => ?_) (fun h5 => ?_)
  · repeat first | refine opsStep ?_ | refine codeStep ?_ | refine drawStep ?_
    exact finV (v' := .fn (.func 149) [] []) (by kernel_rfl) (by rw [conV, conF, if_neg h3, if_neg h4, if_pos h5])
  repeat first | refine opsStep ?_ | refine codeStep ?_ | refine drawStep ?_
  refine decB_dec (fun h6 => ?_) (fun h6 => ?_)
  · repeat first | refine opsStep ?_ | refine codeStep ?_ | refine drawStep ?_
    exact finV (v' := .fn (.func 150) [] []) (by kernel_rfl) (by rw [conV, conF, if_neg h3, if_neg h4, if_neg h5, if_pos h6])
  repeat first | refine opsStep ?_ | refine codeStep ?_ | refine drawStep ?_
  exact finV (v' := .nilf) (by kernel_rfl) (by rw [conV, conF, if_neg h3, if_neg h4, if_neg h5, if_neg h6])

def unN (d e : Den) : List (List UInt8) := togS (d.tracks ++ e.tracks)
@[irreducible] def joinE (op : Int) (d e : Den) : Int := if (rightS d && rightS e) = true then (if 3 ≤ op ∧ op ≤ 6 then (if (unN d e).length ≤ 6 then prdE (widenD d (unN d e)) (widenD e (unN d e)) else 150) else 2) else 3
theorem joinE_shape {op d e} (h : (rightS d && rightS e) = false) : joinE op d e = 3 := by rw [joinE, h]; rfl
theorem joinE_range {op d e} (h : (rightS d && rightS e) = true) (h2 : ¬ (3 ≤ op ∧ op ≤ 6)) : joinE op d e = 2 := by rw [joinE, if_pos h, if_neg h2]
theorem joinE_wide {op d e} (h : (rightS d && rightS e) = true) (h2 : 3 ≤ op ∧ op ≤ 6) (h3 : ¬ (unN d e).length ≤ 6) : joinE op d e = 150 := by rw [joinE, if_pos h, if_pos h2, if_neg h3]
theorem joinE_made {op d e} (h : (rightS d && rightS e) = true) (h2 : 3 ≤ op ∧ op ≤ 6) (h3 : (unN d e).length ≤ 6) : joinE op d e = prdE (widenD d (unN d e)) (widenD e (unN d e)) := by rw [joinE, if_pos h, if_pos h2, if_pos h3]

theorem unN_rises {d e : Den} (h1 : rightS d = true) (h2 : rightS e = true) : risesS (unN d e) = true := by
  obtain ⟨_, a2, _, _⟩ := tracksS_parts (rightS_parts h1).1
  obtain ⟨_, b2, _, _⟩ := tracksS_parts (rightS_parts h2).1
  refine strict_rises (tog_strict _) fun s hs => ?_
  rcases List.mem_append.1 ((tog_mem _ _).1 hs) with h | h
  · exact rises_names a2 s h
  · exact rises_names b2 s h
theorem unN_in {d e : Den} : inAll d.tracks (unN d e) = true ∧ inAll e.tracks (unN d e) = true :=
  ⟨inAll_iff.2 fun s hs => (tog_mem _ _).2 (List.mem_append_left _ hs), inAll_iff.2 fun s hs => (tog_mem _ _).2 (List.mem_append_right _ hs)⟩
theorem unN_len {d e : Den} (h1 : rightS d = true) (h2 : rightS e = true) : (unN d e).length ≤ 12 := by
  obtain ⟨a1, _, _, _⟩ := tracksS_parts (rightS_parts h1).1
  obtain ⟨b1, _, _, _⟩ := tracksS_parts (rightS_parts h2).1
  have := tog_len (d.tracks ++ e.tracks)
  rw [List.length_append] at this
  rw [unN]; omega
theorem unN_sizes {d e : Den} (hd : DenOk d) (he : DenOk e) : ∀ s ∈ unN d e, s.length ≤ 140737488351232 := fun s hs => by
  rcases List.mem_append.1 ((tog_mem _ _).1 hs) with h | h
  · exact hd.names s h
  · exact he.names s h
theorem widenD_right {d : Den} {names : List (List UInt8)} (h : rightS d = true) (h1 : names.length ≤ 6) (h2 : risesS names = true) : rightS (widenD d names) = true := by
  rw [widenD_ov]; exact ovD_right h h1 h2 (by simp [placesOf])
theorem widenD_den {d : Den} {names : List (List UInt8)} (hd : DenOk d) (hn : names.length * 16 ≤ 140737488351232) (hns : ∀ s ∈ names, s.length ≤ 140737488351232) (w0 : widenE d names = 0) : DenOk (widenD d names) := by
  have := widenR_ok_den (d := d) (names := names) hd hn hns
  rwa [widenR_ok w0] at this

theorem prod_Join (op : Int) (d e : Den) (hd : DenOk d) (he : DenOk e) : ACall Try.prog 79 [.int .i64 op, aDen d, aDen e] [] fun o H' => (joinE op d e ≠ 0 ∧ o = .ret (.tup [aDen den0, .int .i64 (joinE op d e)]) ∧ H' = []) ∨
    (joinE op d e = 0 ∧ (unN d e).length ≤ 6 ∧ ∃ L, prdR (widenD d (unN d e)) (widenD e (unN d e)) = some L ∧ o = .ret (.tup [ndV (unN d e).length L.length, .int .i64 0]) ∧ H' = ndH (unN d e) (L.map (accP (holdsS op) (widenD d (unN d e)) (widenD e (unN d e)))) (L.map (rowX (pf (widenD d (unN d e)) (widenD e (unN d e))) L)) (2 ^ (unN d e).length)) := by
  refine ACall.weak (R := fun o H' => (joinE op d e ≠ 0 ∧ o = .ret (.tup [aDen den0, .int .i64 (joinE op d e)])) ∨ (joinE op d e = 0 ∧ (unN d e).length ≤ 6 ∧ ∃ L, prdR (widenD d (unN d e)) (widenD e (unN d e)) = some L ∧ o = .ret (.tup [.agg [.hs 3 0 0 (unN d e).length 1, .hs 12 L.length 0 L.length 1, .hs 13 L.length 0 L.length 1], .int .i64 0]) ∧
      ∃ b0 b1 b2 b4 b5 b6 b7 b8 b9 b10 b11, H' = [b0, b1, b2, .cells 0 ((unN d e).map .str), b4, b5, b6, b7, b8, b9, b10, b11, .cells L.length ((L.map (accP (holdsS op) (widenD d (unN d e)) (widenD e (unN d e)))).map .bool), .cells L.length (pmHs 14 (2 ^ (unN d e).length) L.length)] ++ pmRows (L.map (rowX (pf (widenD d (unN d e)) (widenD e (unN d e))) L)))) ?_
    (fun H' h => by rcases h with ⟨_, h⟩ | ⟨_, _, L, _, h, _⟩ <;> cases h) ?_
  rotate_left
  · rintro v H' (⟨h, hv⟩ | ⟨h, h6, L, hL, hv, b0, b1, b2, b4, b5, b6, b7, b8, b9, b10, b11, rfl⟩)
    · have hv := Out.ret.inj hv
      subst hv
      exact ⟨.tup [aDen den0, .int .i64 (joinE op d e)], [], Ent.give rfl 0 (by simp [AV.closed, closeds, aDen_closed]) (.refl _), .inl ⟨h, rfl, rfl⟩⟩
    · have hv := Out.ret.inj hv
      subst hv
      refine ⟨_, _, Ent.newDen (a := 3) (b := 12) (c := 13) (base := 14) (N := (unN d e).length) (M := L.length) (names := unN d e) (acc := L.map (accP (holdsS op) (widenD d (unN d e)) (widenD e (unN d e)))) (rows := L.map (rowX (pf (widenD d (unN d e)) (widenD e (unN d e))) L)) 0 rfl rfl rfl ?_ (by simp) (by omega) (by omega) (by omega) (by omega) (by omega) (by omega), .inr ⟨h, h6, L, hL, rfl, rfl⟩⟩
      intro j r hj
      rw [List.getElem?_append_right (by simp)]
      simp only [List.length_cons, List.length_nil, pmRows]
      rw [show 14 + j - (0 + 1 + 1 + 1 + 1 + 1 + 1 + 1 + 1 + 1 + 1 + 1 + 1 + 1 + 1) = j by omega]
      rw [List.getElem?_map, hj]; rfl
  have h1 := hd.tracks
  have h2 := he.tracks
  have hrd := table_Right d hd
  have hre := table_Right e he
  have hbad : (rightS d && rightS e) = false → joinE op d e = 3 := joinE_shape
  refine ACall.of_sw 65 Try.func79 rfl Try.ntmps79 (by kernel_rfl) (Nat.le_of_ble_eq_true (by kernel_rfl)) ?_; refine SW.of_vc ?_
  repeat first | refine opsStep ?_ | refine codeStep ?_ | refine drawStep ?_
  refine callP hrd ?_
  repeat first | refine opsStep ?_ | refine codeStep ?_ | refine drawStep ?_
  refine decB_dec (fun hr1 => ?_) (fun hr1 => ?_)
  · have hr' : rightS d = false := by cases h : rightS d with | true => exact absurd (rightE_ok h) hr1 | false => rfl
    have hb := hbad (by rw [hr']; rfl)
    repeat first | refine opsStep ?_ | refine codeStep ?_ | refine drawStep ?_
    refine finR (l := [(6, .ref 2 0 0), (7, .int .i64 3)]) (H₁ := [.cells 0 d.cells, .cells 0 e.cells, .cells 0 den0.cells]) (v := .tup [aDen den0, .int .i64 3]) ⟨(by kernel_rfl), (by kernel_rfl), trivial⟩ (by kernel_rfl) (Ent.refl _ _ _) (by kernel_rfl) ?_
    rw [hb]
    exact .inl ⟨by decide, rfl⟩
  have hr1' : rightS d = true := by cases h : rightS d with | true => rfl | false => exact absurd (fun e => by rw [rightE_bad h] at e; omega) hr1
  repeat first | refine opsStep ?_ | refine codeStep ?_ | refine drawStep ?_
  refine callP hre ?_
  repeat first | refine opsStep ?_ | refine codeStep ?_ | refine drawStep ?_
  refine decB_dec (fun hr2 => ?_) (fun hr2 => ?_)
  · have hr' : rightS e = false := by cases h : rightS e with | true => exact absurd (rightE_ok h) hr2 | false => rfl
    have hb := hbad (by rw [hr']; simp)
    repeat first | refine opsStep ?_ | refine codeStep ?_ | refine drawStep ?_
    refine finR (l := [(6, .ref 2 0 0), (7, .int .i64 3)]) (H₁ := [.cells 0 d.cells, .cells 0 e.cells, .cells 0 den0.cells]) (v := .tup [aDen den0, .int .i64 3]) ⟨(by kernel_rfl), (by kernel_rfl), trivial⟩ (by kernel_rfl) (Ent.refl _ _ _) (by kernel_rfl) ?_
    rw [hb]
    exact .inl ⟨by decide, rfl⟩
  have hr2' : rightS e = true := by cases h : rightS e with | true => rfl | false => exact absurd (fun e => by rw [rightE_bad h] at e; omega) hr2
  have hrr : (rightS d && rightS e) = true := by rw [hr1', hr2']; rfl
  have hcn := prod_connective op
  repeat first | refine opsStep ?_ | refine codeStep ?_ | refine drawStep ?_
  by_cases hop : 3 ≤ op ∧ op ≤ 6
  rotate_left
  · have hb := joinE_range hrr hop
    rw [conV, conF_none hop] at hcn
    refine callP hcn ?_
    repeat first | refine opsStep ?_ | refine codeStep ?_ | refine drawStep ?_
    refine finR (l := [(6, .ref 2 0 0), (7, .int .i64 2)]) (H₁ := [.cells 0 d.cells, .cells 0 e.cells, .cells 0 den0.cells]) (v := .tup [aDen den0, .int .i64 2]) ⟨(by kernel_rfl), (by kernel_rfl), trivial⟩ (by kernel_rfl) (Ent.refl _ _ _) (by kernel_rfl) ?_
    rw [hb]
    exact .inl ⟨by decide, rfl⟩
  obtain ⟨f, hf, hfp⟩ := conF_some hop
  rw [conV, hf] at hcn
  obtain ⟨jd1, jd2, jd3, jd4⟩ := tracksS_parts (rightS_parts hr1').1
  obtain ⟨je1, je2, je3, je4⟩ := tracksS_parts (rightS_parts hr2').1
  have hun := glyph_Union d.tk e.tk d.tracks e.tracks (by omega) (fun s hs => by have := hd.names s hs; omega) (fun s hs => by have := he.names s hs; omega) jd2 je2
  have hur := unN_rises hr1' hr2'
  obtain ⟨hi1, hi2⟩ := unN_in (d := d) (e := e)
  have hul := unN_len hr1' hr2'
  have hus := unN_sizes hd he
  have hwide := joinE_wide hrr hop
  have hmade := joinE_made hrr hop
  rw [← unN] at hun
  generalize unN d e = names at *
  refine callP hcn ?_
  repeat first | refine opsStep ?_ | refine codeStep ?_ | refine drawStep ?_
  refine callP hun ?_
  have hwd := track_WidenK .any d names hd (by omega) hus
  have hwe := track_Widen_pure .any e names he (by omega) hus
  have hcl : closeds [aDen d, aSs .any names] := by simp [closeds, aDen_closed, aSs_closed]
  by_cases h6 : names.length ≤ 6
  rotate_left
  · have hb := hwide h6
    have hw0 := widenE_wide hr1' hur h6
    repeat first | refine opsStep ?_ | refine codeStep ?_ | refine drawStep ?_
    refine callS hcl hwd (fun X h => by rcases h with ⟨_, h, _⟩ | ⟨_, h, _⟩ <;> cases h) ?_
    rintro v X (⟨hne, hv, rfl⟩ | ⟨h0, hv, rfl⟩)
    · have hv := Out.ret.inj hv
      subst hv
      rw [hw0]
      iterate 7 refine opsStep ?_
      refine VCode.ent (Ent.fr' (l := [(0, .int .i64 op), (4, .ref 0 0 0), (5, .ref 1 0 0), (6, .ref 2 0 0), (10, .int .i64 150)]) (H' := [.cells 0 d.cells, .cells 0 e.cells, .cells 0 den0.cells, .cells 0 den0.cells]) ⟨(by kernel_rfl), (by kernel_rfl), (by kernel_rfl), (by kernel_rfl), (by kernel_rfl), trivial⟩ (by kernel_rfl)) ?_
      repeat first | refine opsStep ?_ | refine codeStep ?_ | refine drawStep ?_
      refine finR (l := [(6, .ref 2 0 0), (7, .int .i64 150)]) (H₁ := [.cells 0 d.cells, .cells 0 e.cells, .cells 0 den0.cells, .cells 0 den0.cells]) (v := .tup [aDen den0, .int .i64 150]) ⟨(by kernel_rfl), (by kernel_rfl), trivial⟩ (by kernel_rfl) (Ent.refl _ _ _) (by kernel_rfl) ?_
      rw [hb]
      exact .inl ⟨by decide, rfl⟩
    · omega
  have hb := hmade h6
  have w0 := widenE_ok hr1' hur h6 hi1
  have v0 := widenE_ok hr2' hur h6 hi2
  have wr := widenD_right hr1' h6 hur
  have vr := widenD_right hr2' h6 hur
  have wk := widenD_den hd (by omega) hus w0
  have vk := widenD_den he (by omega) hus v0
  rw [widenR_ok v0, v0] at hwe
  have hmd := prod_made names (widenD d names) (widenD e names) (aSs (widenD e names).tk (widenD e names).tracks) (holdsS op) f wk vk wr vr rfl (aSs_bel _ _ _) hfp (2 ^ names.length) rfl
  have hma : (widenD d names).ak = .any := rfl
  have hmn : (widenD d names).nk = .any := rfl
  rw [hma, hmn] at hmd
  generalize hgd : widenD d names = wd at *
  generalize hge : widenD e names = we at *
  repeat first | refine opsStep ?_ | refine codeStep ?_ | refine drawStep ?_
  refine callS hcl hwd (fun X h => by rcases h with ⟨_, h, _⟩ | ⟨_, h, _⟩ <;> cases h) ?_
  rintro v X (⟨hne, hv, rfl⟩ | ⟨h0, hv, rfl⟩)
  · exact absurd w0 hne
  have hv := Out.ret.inj hv
  subst hv
  iterate 7 refine opsStep ?_
  refine VCode.ent (Ent.fr' (l := [(0, .int .i64 op), (4, .ref 0 0 0), (5, .ref 1 0 0), (6, .ref 2 0 0), (8, .fn (.func f) [] []), (9, aSs .any names), (10, .int .i64 0), (11, .ref 4 0 0)]) (H' := [.cells 0 d.cells, .cells 0 e.cells, .cells 0 den0.cells, .cells 0 (names.map .str), .cells 0 [.hs 3 0 0 names.length 1, aBs .any wd.accept, aRs .any wd.next]]) ⟨(by kernel_rfl), (by kernel_rfl), (by kernel_rfl), (by kernel_rfl), (by kernel_rfl), (by kernel_rfl), (by kernel_rfl), (by kernel_rfl), trivial⟩ ?_) ?_
  · refine Eq.trans (b := [.cells 0 d.cells, .cells 0 e.cells, .cells 0 den0.cells, Blk.sh 3 (.cells 0 (names.map .str)), .cells 0 [.hs 3 0 0 names.length 1, (aBs .any wd.accept).sh 3, (aRs .any wd.next).sh 3]]) (by kernel_rfl) ?_
    rw [Blk.sh, strs_sh, AV.closed_sh _ (aBs_closed _ _), AV.closed_sh _ (aRs_closed _ _)]
  repeat first | refine opsStep ?_ | refine codeStep ?_ | refine drawStep ?_
  refine callP hwe ?_
  iterate 7 refine opsStep ?_
  refine VCode.ent (Ent.fr' (l := [(6, .ref 2 0 0), (8, .fn (.func f) [] []), (10, .int .i64 0), (11, .ref 4 0 0), (12, .ref 5 0 0)]) (H' := [.cells 0 d.cells, .cells 0 e.cells, .cells 0 den0.cells, .cells 0 (names.map .str), .cells 0 [.hs 3 0 0 names.length 1, aBs .any wd.accept, aRs .any wd.next], .cells 0 [aSs we.tk we.tracks, aBs we.ak we.accept, aRs we.nk we.next]]) ⟨(by kernel_rfl), (by kernel_rfl), (by kernel_rfl), (by kernel_rfl), (by kernel_rfl), trivial⟩ (by kernel_rfl)) ?_
  repeat first | refine opsStep ?_ | refine codeStep ?_ | refine drawStep ?_
  refine callF [3] hmd (by simp) (by intro b hb; simp at hb; subst hb; exact (by decide : 3 < 6)) rfl ?_ ?_ ?_ ?_ ?_
  · show [some (Blk.cells 0 (names.map .str))] = [some (Blk.cells 0 (rns _ (names.map .str)))]
    rw [strs_rn]
  · simp [bels, AV.bel, aBs_bel, aRs_bel, aSs_bel]
  · simp [blksBel, Blk.bel, bels_map, AV.bel]
  · show [AV.agg [.hs 3 0 0 names.length 1, aBs .any wd.accept, aRs .any wd.next], AV.agg [aSs we.tk we.tracks, aBs we.ak we.accept, aRs we.nk we.next], _] = _
    rw [rns, rns, rns, rns, AV.rn, AV.rn, AV.rn, rns, rns, rns, rns, rns, rns, rns, rns, AV.closed_rn _ (aBs_closed _ _), AV.closed_rn _ (aRs_closed _ _), AV.closed_rn _ (aBs_closed _ _), AV.closed_rn _ (aRs_closed _ _), AV.closed_rn _ (aSs_closed _ _)]
    rfl
  · rintro o H' (⟨L, hL, rfl, b1, b2, b3, b4, b5, b6, rfl⟩ | ⟨hL, rfl, X, rfl⟩)
    · have hpe := (prd_some (cn := holdsS op) (names := names) hL).2
      obtain ⟨F, hF⟩ : ∃ F, rnB [3] 6 = F := ⟨_, rfl⟩
      have hF9 : ∀ j, F (9 + j) = 14 + j := fun j => by rw [← hF, rnB_ge (φ := [3]) (show 1 ≤ 9 + j by omega)]; show 6 + (9 + j - 1) = _; omega
      repeat first | refine opsStep ?_ | refine codeStep ?_ | refine drawStep ?_
      refine finR (l := [(6, .ref 2 0 0), (7, .int .i64 0)]) (H₁ := [.cells 0 d.cells, .cells 0 e.cells, .cells 0 [.hs 3 0 0 names.length 1, .hs 12 L.length 0 L.length 1, .hs 13 L.length 0 L.length 1], .cells 0 (rns (rnB [3] 6) (names.map .str)), .cells 0 [.hs 3 0 0 names.length 1, aBs .any wd.accept, aRs .any wd.next], .cells 0 [aSs we.tk we.tracks, aBs we.ak we.accept, aRs we.nk we.next],
        b1.rn (rnB [3] 6), b2.rn (rnB [3] 6), b3.rn (rnB [3] 6), b4.rn (rnB [3] 6), b5.rn (rnB [3] 6), b6.rn (rnB [3] 6), .cells L.length (rns (rnB [3] 6) ((L.map (accP (holdsS op) wd we)).map .bool)), .cells L.length (rns (rnB [3] 6) (pmHs 9 (2 ^ names.length) L.length))] ++ (pmRows (L.map (rowX (pf wd we) L))).map (Blk.rn (rnB [3] 6)))
        (v := .tup [.agg [.hs 3 0 0 names.length 1, .hs 12 L.length 0 L.length 1, .hs 13 L.length 0 L.length 1], .int .i64 0]) ⟨(by kernel_rfl), (by kernel_rfl), trivial⟩ (by kernel_rfl) (Ent.refl _ _ _) (by kernel_rfl) ?_
      rw [hF, strs_rn, bools_rn, pmHs_rn F 9 14 _ hF9, pmRows_rn]
      exact .inr ⟨by rw [hb, hpe], h6, L, hL, rfl, _, _, _, _, _, _, _, _, _, _, _, rfl⟩
    · have hpe := (prd_none (cn := holdsS op) (names := names) hL).2
      repeat first | refine opsStep ?_ | refine codeStep ?_ | refine drawStep ?_
      refine finR (l := [(6, .ref 2 0 0), (7, .int .i64 140)]) (H₁ := place (rnB [3] 6) [3] [.cells 0 d.cells, .cells 0 e.cells, .cells 0 den0.cells, .cells 0 (names.map .str), .cells 0 [.hs 3 0 0 names.length 1, aBs .any wd.accept, aRs .any wd.next], .cells 0 [aSs we.tk we.tracks, aBs we.ak we.accept, aRs we.nk we.next]] (.cells 0 (names.map .str) :: X)) (v := .tup [aDen den0, .int .i64 140]) ⟨(by kernel_rfl), (by kernel_rfl), trivial⟩ (by kernel_rfl) (Ent.refl _ _ _) (by kernel_rfl) ?_
      rw [hb, hpe]
      exact .inl ⟨by decide, rfl⟩

end Tab

/- tabardref16.Not, tabardref16.Join; prod's answers as values. -/
namespace Tab
open Go Go.Proofs
set_option maxRecDepth 10000
set_option linter.unusedVariables false
set_option linter.unusedSimpArgs false
set_option linter.unusedSectionVars false

/-! ### Along the diagonal -/

def oneD : Den := ⟨.nil, [], .any, [false], .any, [(.any, [0])]⟩
theorem oneD_ok : DenOk oneD := ⟨by decide, by simp [oneD], by decide, by decide, by simp [oneD, Den.rows]⟩
theorem oneD_right : rightS oneD = true := by decide

def dgP (p : Pr) : Pr := if p = stP then stP else (p.1, p.1)
theorem dgP_st : dgP stP = stP := if_pos rfl
theorem ok_ne {d e : Den} {p : Pr} (h : okS d e p) : p ≠ stP := fun e => by have := h.1; rw [e] at this; simp at this
theorem dgP_ok {d s : Den} {p : Pr} (h : okS d s p) : dgP p = (p.1, p.1) := if_neg (ok_ne h)

section
variable {d s : Den} (hd : rightS d = true) (hs : rightS s = true) (hk : d.tracks.length = s.tracks.length) (h1 : s.accept.length = 1)
include hd hs hk h1
theorem dg_f (x : Pr) (hx : x = stP ∨ okS d s x) : (pf d s x).map dgP = pf d d (dgP x) := by
  have hst : (pst (dgP x)).1 = (pst x).1 ∧ (pst (dgP x)).2 = (pst x).1 := by
    rcases hx with rfl | hx
    · exact ⟨rfl, rfl⟩
    · rw [dgP_ok hx, pst, pst, if_neg (ok_ne hx), if_neg (by intro e; have := hx.1; simp at e; omega)]
      exact ⟨rfl, rfl⟩
  rw [pf, pf, List.map_map, hst.1, hst.2]
  refine List.map_congr_left fun a ha => ?_
  show dgP _ = _
  rw [dgP, if_neg (by simp)]
theorem dg_inj (x y : Pr) (hx : x = stP ∨ okS d s x) (hy : y = stP ∨ okS d s y) (h : dgP x = dgP y) : x = y := by
  rcases hx with rfl | hx
  · rcases hy with rfl | hy
    · rfl
    · rw [dgP_st, dgP_ok hy] at h
      have := congrArg Prod.fst h; have := hy.1; simp at *; omega
  · rcases hy with rfl | hy
    · rw [dgP_st, dgP_ok hx] at h
      have := congrArg Prod.fst h; have := hx.1; simp at *; omega
    · rw [dgP_ok hx, dgP_ok hy] at h
      have e1 := congrArg Prod.fst h
      obtain ⟨_, _, a, b⟩ := hx
      obtain ⟨_, _, a', b'⟩ := hy
      exact Prod.ext e1 (by omega)
theorem dg_prd : (prdR d s).map (List.map dgP) = prdR d d := by
  rw [prdR, prdR]
  have hQ : ∀ x : Pr, (x = stP ∨ okS d s x) → ∀ t ∈ pf d s x, (t = stP ∨ okS d s t) := fun x hx t ht => .inr (pf_ok hd hs hk hx t ht)
  exact explO_map (f := pf d s) (f' := pf d d) dgP (cap := 256) (Q := fun x => x = stP ∨ okS d s x) hQ (dg_inj hd hs hk h1) (dg_f hd hs hk h1) 300 0 [stP] (by simp)
theorem prd_q {L : List Pr} (h : prdR d s = some L) : ∀ x ∈ L, x = stP ∨ okS d s x :=
  fun x hx => by
    rw [← (explO_some h).1] at hx
    exact expl_all (f := pf d s) (Q := fun x => x = stP ∨ okS d s x) (fun y hy t ht => .inr (pf_ok hd hs hk hy t ht)) 300 0 [stP] (by simp) x hx
theorem dg_eq (names : List (List UInt8)) : prdV (holdsS 2) names d s = prdV notS names d d ∧ prdE d s = prdE d d := by
  have hm := dg_prd hd hs hk h1
  cases h : prdR d s with
  | none =>
    rw [h] at hm
    have hm : prdR d d = none := hm.symm
    obtain ⟨a1, a2⟩ := prd_none (cn := holdsS 2) (names := names) h
    obtain ⟨b1, b2⟩ := prd_none (cn := notS) (names := names) hm
    rw [a1, a2, b1, b2]; exact ⟨rfl, rfl⟩
  | some L =>
    rw [h] at hm
    have hm : prdR d d = some (L.map dgP) := hm.symm
    obtain ⟨a1, a2⟩ := prd_some (cn := holdsS 2) (names := names) h
    obtain ⟨b1, b2⟩ := prd_some (cn := notS) (names := names) hm
    have hq := prd_q hd hs hk h1 h
    rw [a1, a2, b1, b2]
    refine ⟨?_, rfl⟩
    rw [prdM, prdM, List.map_map, List.map_map]
    have e1 : L.map (accP (holdsS 2) d s) = L.map (accP notS d d ∘ dgP) := List.map_congr_left fun p hp => by
      rcases hq p hp with rfl | hx
      · rfl
      · rw [Function.comp_apply, dgP_ok hx, accP, accP, if_neg (ok_ne hx), if_neg (by intro e; have := hx.1; simp at e; omega)]
        rfl
    have e2 : L.map (fun p => (SK.any, rowX (pf d s) L p)) = L.map ((fun p => (SK.any, rowX (pf d d) (L.map dgP) p)) ∘ dgP) := List.map_congr_left fun p hp => by
      rw [Function.comp_apply, rowX_map dgP (dg_f hd hs hk h1 p (hq p hp)) fun x hx y hy e => dg_inj hd hs hk h1 _ _ (hq y hy) (.inr (pf_ok hd hs hk (hq p hp) x hx)) e]
    rw [e1, e2]
end

/-! ### As values -/

@[irreducible] def notV (d : Den) : Den := if rightS d = true then prdV notS d.tracks d d else den0
@[irreducible] def joinV (op : Int) (d e : Den) : Den := if (rightS d && rightS e) = true then (if 3 ≤ op ∧ op ≤ 6 then (if (unN d e).length ≤ 6 then prdV (holdsS op) (unN d e) (widenD d (unN d e)) (widenD e (unN d e)) else den0) else den0) else den0

theorem prd_zero {d e : Den} (h : prdE d e = 0) : ∃ L, prdR d e = some L := by
  cases hR : prdR d e with
  | some L => exact ⟨L, rfl⟩
  | none => have := (prd_none (cn := notS) (names := []) hR).2; omega
theorem notV_bad {d : Den} (h : notE d ≠ 0) : notV d = den0 := by
  rw [notV]
  split
  · rename_i hr
    rw [notE, if_pos hr] at h
    cases hR : prdR d d with
    | some L => exact absurd (prd_some (cn := notS) (names := d.tracks) hR).2 h
    | none => exact (prd_none (cn := notS) (names := d.tracks) hR).1
  · rfl
theorem notV_ok {d : Den} {L} (h : notE d = 0) (hL : prdR d d = some L) : notV d = prdM notS d.tracks d d L := by
  have hr : rightS d = true := by
    cases hr : rightS d with
    | true => rfl
    | false => rw [notE, hr] at h; exact absurd h (by simp)
  rw [notV, if_pos hr]
  exact (prd_some hL).1
theorem joinV_bad {op d e} (h : joinE op d e ≠ 0) : joinV op d e = den0 := by
  rw [joinV]
  split
  · rename_i hr
    split
    · rename_i ho
      split
      · rename_i h6
        rw [joinE_made hr ho h6] at h
        cases hR : prdR (widenD d (unN d e)) (widenD e (unN d e)) with
        | some L => exact absurd (prd_some (cn := notS) (names := d.tracks) hR).2 h
        | none => exact (prd_none hR).1
      · rfl
    · rfl
  · rfl
theorem joinE_ok {op d e} (h : joinE op d e = 0) : (rightS d && rightS e) = true ∧ (3 ≤ op ∧ op ≤ 6) ∧ (unN d e).length ≤ 6 := by
  by_cases h1 : (rightS d && rightS e) = true
  · by_cases h2 : 3 ≤ op ∧ op ≤ 6
    · by_cases h3 : (unN d e).length ≤ 6
      · exact ⟨h1, h2, h3⟩
      · rw [joinE_wide h1 h2 h3] at h; omega
    · rw [joinE_range h1 h2] at h; omega
  · rw [joinE_shape (by simpa using h1)] at h; omega
theorem joinV_ok {op d e L} (h : joinE op d e = 0) (hL : prdR (widenD d (unN d e)) (widenD e (unN d e)) = some L) : joinV op d e = prdM (holdsS op) (unN d e) (widenD d (unN d e)) (widenD e (unN d e)) L := by
  obtain ⟨h1, h2, h3⟩ := joinE_ok h
  rw [joinV, if_pos h1, if_pos h2, if_pos h3]
  exact (prd_some hL).1

theorem prd_read {N : Nat} (cn : Bool → Bool → Bool) (names : List (List UInt8)) (d e : Den) (L : List Pr) (hN : N = names.length) :
    Rd (ndH names (L.map (accP cn d e)) (L.map (rowX (pf d e) L)) (2 ^ d.tracks.length)) (ndV N L.length) (aDen (prdM cn names d e L)) := by
  have := ndH_read (N := N) (K := 2 ^ d.tracks.length) (names := names) (acc := L.map (accP cn d e)) (rows := L.map (rowX (pf d e) L)) hN (by simp) (fun r hr => by
    obtain ⟨p, _, rfl⟩ := List.mem_map.1 hr
    simp [rowX, pf_length])
  rw [List.length_map, List.map_map] at this
  exact this

theorem prod_JoinV (op : Int) (d e : Den) (hd : DenOk d) (he : DenOk e) : Pure Try.prog 79 [.int .i64 op, aDen d, aDen e] (.tup [aDen (joinV op d e), .int .i64 (joinE op d e)]) := by
  refine Pure.of_read (by simp [AV.closed, closeds, aDen_closed]) (by simp [AV.closed, closeds, aDen_closed]) (prod_Join op d e hd he) ?_
  rintro o H' (⟨h, rfl, rfl⟩ | ⟨h, h6, L, hL, rfl, rfl⟩)
  · exact ⟨_, rfl, by rw [joinV_bad h]; exact .refl _⟩
  · refine ⟨_, rfl, ?_⟩
    rw [joinV_ok h hL, h]
    exact Rd.tup (.cons (prd_read (holdsS op) (unN d e) (widenD d (unN d e)) (widenD e (unN d e)) L rfl) (.cons (.refl _) .nil))

end Tab

/- tabardlaw16: even, fixed, spoil. -/
namespace Tab
open Go Go.Proofs
set_option maxRecDepth 10000
set_option linter.unusedVariables false
set_option linter.unusedSimpArgs false
set_option linter.unusedSectionVars false

def RowsOf (n kk : Nat) (rb : List Blk) : Prop := rb.length = kk ∧ ∀ (j : Nat) (h : j < rb.length), ∃ r, rb[j] = .cells 0 r ∧ r.length = n
theorem RowsOf.set {n kk j : Nat} {rb : List Blk} {r : List AV} (h : RowsOf n kk rb) (hr : r.length = n) : RowsOf n kk (rb.set j (.cells 0 r)) := by
  refine ⟨by rw [List.length_set]; exact h.1, fun i hi => ?_⟩
  rw [List.getElem_set]
  split
  · exact ⟨r, rfl, hr⟩
  · exact h.2 i (by simpa using hi)
theorem over_len {cs xs : List AV} {o : Nat} (h : o + xs.length ≤ cs.length) : (over cs o xs).length = cs.length := by simp [over]; omega
theorem rowsOf_pm {n : Nat} {rows : List (List Int)} (h : ∀ r ∈ rows, r.length = n) : RowsOf n rows.length (pmRows rows) :=
  ⟨by simp [pmRows], fun j hj => ⟨(rows[j]'(by simpa [pmRows] using hj)).map (.int .i64), by simp [pmRows], by rw [List.length_map]; exact h _ (List.getElem_mem _)⟩⟩

/-- The machine that is written over, behind it the copy of its headers. -/
def slB (tr : List AV) (acc : List Bool) (M K : Nat) : List Blk := [.cells 0 tr, .cells M (acc.map .bool), .cells M (pmHs 3 K M)]
def slH (tr : List AV) (acc : List Bool) (M K : Nat) (rb : List Blk) : List Blk := slB tr acc M K ++ rb
theorem sl_get {tr acc M K rb z} {j : Nat} (h : j < rb.length) : (slH tr acc M K rb ++ [z])[3 + j]? = some rb[j] := by
  rw [slH, slB, List.append_assoc, List.getElem?_append_right (by simp)]
  simp only [List.length_cons, List.length_nil]
  rw [show 3 + j - (0 + 1 + 1 + 1) = j by omega, List.getElem?_append_left h, List.getElem?_eq_getElem h]
theorem sl_set {tr acc M K rb z y} {j : Nat} (h : j < rb.length) : (slH tr acc M K rb ++ [z]).set (3 + j) y = slH tr acc M K (rb.set j y) ++ [z] := by
  rw [slH, slH, slB, List.append_assoc, List.append_assoc, List.set_append_right _ _ (by simp)]
  simp only [List.length_cons, List.length_nil]
  rw [show 3 + j - (0 + 1 + 1 + 1) = j by omega, List.set_append_left _ _ h]
theorem slH_length (tr acc M K rb) : (slH tr acc M K rb).length = 3 + rb.length := by simp [slH, slB]; omega
theorem sl_last {tr acc M K rb x} (h : rb.length = M) : (slH tr acc M K rb ++ [x])[3 + M]? = some x := by rw [← h, ← slH_length tr acc M K rb]; exact get_last _ _

end Tab

/- tabardlaw16: even, fixed. -/
namespace Tab
open Go Go.Proofs
set_option maxRecDepth 10000
set_option linter.unusedVariables false
set_option linter.unusedSimpArgs false
set_option linter.unusedSectionVars false

def oddD : Den := ⟨.any, [[120]], .any, [false, false, true], .any, [(.any, [1, 2]), (.any, [1, 1]), (.any, [2, 2])]⟩
theorem oddD_ok : DenOk oddD := ⟨by decide, by decide, by decide, by decide, by decide⟩
theorem evenD_right : rightS evenD = true := by kernel_rfl
theorem even_L : prdR evenD evenD = some [(-1, -1), (1, 1), (2, 2)] := by kernel_rfl
theorem even_notE : notE evenD = 0 := by rw [notE, if_pos evenD_right]; exact (prd_some (cn := notS) (names := []) even_L).2
theorem even_notV : sameD (notV evenD) oddD = true := by
  rw [notV_ok even_notE even_L, sameD_eq]
  kernel_rfl
theorem prdM_ok {cn names d e L} (hn : names.length * 16 ≤ 140737488351232) (hns : ∀ s ∈ names, s.length ≤ 140737488351232) (hL : L.length ≤ 256) (hk : d.tracks.length ≤ 6) : DenOk (prdM cn names d e L) := by
  have hp : 2 ^ d.tracks.length ≤ 2 ^ 6 := Nat.pow_le_pow_right (by omega) hk
  refine ⟨hn, hns, by simp only [prdM, List.length_map]; omega, by simp only [prdM, List.length_map]; omega, fun r hr => ?_⟩
  simp only [prdM, List.mem_map] at hr
  obtain ⟨p, _, rfl⟩ := hr
  simp only [rowX, List.length_map, pf_length]
  omega
theorem prdR_len {d e L} (h : prdR d e = some L) : L.length ≤ 256 := (explO_some h).2 (by simp)
theorem notV_den {d : Den} (hd : DenOk d) : DenOk (notV d) := by
  rw [notV]
  split
  · rename_i hr
    obtain ⟨g1, _, _⟩ := rightS_parts hr
    obtain ⟨j1, _, _, _⟩ := tracksS_parts g1
    cases hR : prdR d d with
    | some L => rw [(prd_some hR).1]; exact prdM_ok hd.tracks hd.names (prdR_len hR) j1
    | none => rw [(prd_none hR).1]; exact den0_ok
  · exact den0_ok
theorem joinV_den {op} {d e : Den} (hd : DenOk d) (he : DenOk e) : DenOk (joinV op d e) := by
  rw [joinV]
  split
  · split
    · split
      · rename_i h6
        cases hR : prdR (widenD d (unN d e)) (widenD e (unN d e)) with
        | some L => rw [(prd_some hR).1]; exact prdM_ok (by omega) (unN_sizes hd he) (prdR_len hR) h6
        | none => rw [(prd_none hR).1]; exact den0_ok
      · exact den0_ok
    · exact den0_ok
  · exact den0_ok

end Tab

/- New machines among other blocks. -/
namespace Tab
open Go Go.Proofs
set_option maxRecDepth 10000
set_option linter.unusedVariables false
set_option linter.unusedSimpArgs false
set_option linter.unusedSectionVars false

theorem ndH_sh {names acc rows K} (b : Nat) : (ndH names acc rows K).map (Blk.sh b) = ndB names acc rows.length K (3 + b) ++ pmRows rows := by
  have e : (pmRows rows).map (Blk.sh b) = pmRows rows := by
    rw [pmRows, List.map_map]
    refine List.map_congr_left fun r _ => ?_
    simp only [Function.comp, Blk.sh]
    rw [closeds_sh]
    exact closeds_iff.2 fun a ha => by obtain ⟨x, _, rfl⟩ := List.mem_map.1 ha; simp only [AV.closed]
  have e2 : shs b (pmHs 3 K rows.length) = pmHs (3 + b) K rows.length := by
    rw [pmHs, pmHs, shs_map, List.map_map]
    exact List.map_congr_left fun j _ => by simp only [Function.comp, AV.sh]; congr 1; omega
  rw [ndH, ndB, List.map_append, e]
  simp only [List.map_cons, List.map_nil, Blk.sh, strs_sh, bools_sh, e2, ndB]
theorem ndB_length (names acc M K b) : (ndB names acc M K b).length = 3 := rfl
theorem ndB_bel {names acc M K b n} (h : b + M ≤ n) : blksBel n (ndB names acc M K b) := by
  have := pmHs_bel (K := K) h
  simp only [ndB, blksBel, Blk.bel, bels_map, AV.bel, implies_true, this, and_self]
theorem ndB_rn {names acc M K b c} {f : Nat → Nat} (h : ∀ j, j < M → f (b + j) = c + j) : (ndB names acc M K b).map (Blk.rn f) = ndB names acc M K c := by
  simp only [ndB, List.map_cons, List.map_nil, Blk.rn, strs_rn, bools_rn, pmHs_rn' f b c K M h]

/-- A block made behind the machine is moved ahead of it. -/
theorem Ent.ndIn {nt : Fr} {s : Slots} {H : List Blk} {l : List (Nat × AV)} (pre : List Blk) (x : Blk) {b : Nat} {names : List (List UInt8)} {acc : List Bool} {M K : Nat} {rows : List (List Int)} (hb : pre.length = b) (hk : nt.k ≤ b) (hM : rows.length = M)
    (hs : frOk s (l.map fun q => (q.1, q.2.rn (insF b (M + 3))))) (hH : H = pre.map (Blk.rn (insF b (M + 3))) ++ (ndB names acc M K (b + 3) ++ pmRows rows) ++ [x.rn (insF b (M + 3))])
    (bl : frBel (b + (M + 3) + 1) l) (bp : blksBel (b + (M + 3) + 1) pre) (bx : x.bel (b + (M + 3) + 1)) : Ent nt s H (Tab.fr l) (pre ++ x :: (ndB names acc M K (b + 4) ++ pmRows rows)) := by
  have hq : (ndB names acc M K (b + 4) ++ pmRows rows).length = M + 3 := by simp [ndB_length, pmRows, hM]; omega
  refine Ent.insMid pre (ndB names acc M K (b + 4) ++ pmRows rows) x (by omega) (by rw [hb, hq]; exact frOk_rn hs) ?_ (by rw [hb, hq]; exact bl) ?_
  · rw [hb, hq, hH, List.map_append, pmRows_rn, ndB_rn (c := b + 3) fun j hj => ?_]
    rw [insF, if_neg (by omega), if_neg (by omega)]; omega
  · rw [hb, hq, blksBel_append]
    exact ⟨bp, bx, blksBel_append.2 ⟨ndB_bel (by omega), pmRows_bel _ _⟩⟩

theorem place_take {f} {φ : List Nat} {H H₁ : List Blk} {n : Nat} (hn : n ≤ H.length) (h : ∀ b ∈ φ, n ≤ b) : ∃ Y, place f φ H H₁ = H.take n ++ Y := by
  refine ⟨(place f φ H H₁).drop n, ?_⟩
  have : (place f φ H H₁).take n = H.take n := by
    refine List.ext_getElem? fun i => ?_
    rw [List.getElem?_take, List.getElem?_take]
    split
    · rename_i hi
      exact place_out (by omega) fun hm => by have := h i hm; omega
    · rfl
  rw [← this, List.take_append_drop]

/-- A function that is handed the machine, and of which only the end is known. -/
theorem callNd {P : Program} {f : FuncId} {u : AV} {X : Out → List Blk → Prop} (pre : List Blk) {b : Nat} {names : List (List UInt8)} {acc : List Bool} {M K N : Nat} {rows : List (List Int)} (hb : pre.length = b) (hM : rows.length = M)
    (h : ACall P f [ndV N M] (ndH names acc rows K) fun o _ => o = .ret u) (hu : u.closed) (k : ∀ Y, X (.ret u) (pre ++ Y)) :
    ∃ R : Out → List Blk → Prop, ACall P f [.agg [.hs b 0 0 N 1, .hs (b + 1) M 0 M 1, .hs (b + 2) M 0 M 1]] (pre ++ (ndB names acc M K (b + 3) ++ pmRows rows)) R ∧ ∀ o H', R o H' → X o H' := by
  obtain ⟨W, hW⟩ : ∃ W, pre ++ (ndB names acc M K (b + 3) ++ pmRows rows) = W := ⟨_, rfl⟩
  have hWl : W.length = b + (M + 3) := by rw [← hW]; simp [ndB_length, pmRows, hM, hb]; omega
  have hWg : ∀ j, W[b + j]? = (ndB names acc M K (b + 3) ++ pmRows rows)[j]? := fun j => by
    rw [← hW, List.getElem?_append_right (by omega), hb]; congr 1; omega
  have hWt : W.take b = pre := by rw [← hW, ← hb, List.take_left]
  have hφm : ∀ x ∈ (List.range (M + 3)).map (b + ·), b ≤ x ∧ x < b + (M + 3) := fun x hx => by
    obtain ⟨j, hj, rfl⟩ := List.mem_map.1 hx
    have := List.mem_range.1 hj
    omega
  obtain ⟨F, hF⟩ : ∃ F, rnB ((List.range (M + 3)).map (b + ·)) W.length = F := ⟨_, rfl⟩
  have f1 : ∀ j, j < M + 3 → F j = b + j := fun j hj => by
    rw [← hF]
    refine rnB_lt ?_
    rw [List.getElem?_map, List.getElem?_range hj]; rfl
  have hrn : (ndH names acc rows K).map (Blk.rn F) = ndB names acc M K (b + 3) ++ pmRows rows := by
    rw [ndH, hM, List.map_append, pmRows_rn, ndB_rn (c := b + 3) fun j hj => by rw [f1 _ (by omega)]; omega]
  rw [hW]
  refine callF ((List.range (M + 3)).map (b + ·)) h ?_ ?_ ?_ ?_ ?_ ?_ ?_ ?_
  · exact List.pairwise_map.2 (List.nodup_range.imp fun {x y} h e => h (by omega))
  · intro x hx; have := hφm x hx; omega
  · simp [ndH, ndB_length, pmRows, hM]; omega
  · rw [hF, List.map_map, show (ndH names acc rows K).map (fun x => some (Blk.rn F x)) = ((ndH names acc rows K).map (Blk.rn F)).map some by rw [List.map_map]; rfl, hrn]
    refine List.ext_getElem? fun i => ?_
    rw [List.getElem?_map, List.getElem?_map]
    by_cases hi : i < M + 3
    · rw [List.getElem?_range hi]
      simp only [Option.map_some, Function.comp_apply]
      rw [hWg]
      cases hx : (ndB names acc M K (b + 3) ++ pmRows rows)[i]? with
      | none =>
        have := List.getElem?_eq_none_iff.1 hx
        simp [ndB_length, pmRows, hM] at this
        omega
      | some y => rfl
    · rw [List.getElem?_eq_none (by simp; omega), List.getElem?_eq_none (by simp [ndB_length, pmRows, hM]; omega)]
      rfl
  · simp [ndV, bels, AV.bel]
  · rw [List.length_map, List.length_range, ndH, hM, blksBel_append]
    exact ⟨ndB_bel (by omega), pmRows_bel _ _⟩
  · rw [hF, rns, rns, ndV, AV.rn, rns, rns, rns, rns, AV.rn, AV.rn, AV.rn, f1 0 (by omega), f1 1 (by omega), f1 2 (by omega)]
    rfl
  · rintro o H₁ rfl
    obtain ⟨Y, hY⟩ := place_take (f := rnB ((List.range (M + 3)).map (b + ·)) W.length) (φ := (List.range (M + 3)).map (b + ·)) (H := W) (H₁ := H₁) (n := b) (by omega) fun x hx => (hφm x hx).1
    rw [hY, hWt]
    have := k Y
    rwa [Out.rn, AV.closed_rn _ hu]

end Tab

/- Layer 16: the law ProdNots. -/
namespace Tab
open Go Go.Proofs
set_option maxRecDepth 10000
set_option linter.unusedVariables false
set_option linter.unusedSimpArgs false
set_option linter.unusedSectionVars false

theorem prdM_congr {cn names d e d' e' L} (h1 : d'.rows = d.rows) (h2 : e'.rows = e.rows) (h3 : d'.tracks.length = d.tracks.length) (h4 : d'.accept = d.accept) (h5 : e'.accept = e.accept) : prdM cn names d' e' L = prdM cn names d e L := by
  have : accP cn d' e' = accP cn d e := by funext p; rw [accP, accP, h4, h5]
  rw [prdM, prdM, this, pf_congr h1 h2 h3]
theorem prdV_congr {cn names d e d' e'} (h1 : d'.rows = d.rows) (h2 : e'.rows = e.rows) (h3 : d'.tracks.length = d.tracks.length) (h4 : d'.accept = d.accept) (h5 : e'.accept = e.accept) : prdV cn names d' e' = prdV cn names d e ∧ prdE d' e' = prdE d e := by
  have hR := prdR_congr h1 h2 h3
  cases h : prdR d e with
  | some L =>
    rw [h] at hR
    rw [(prd_some hR).1, (prd_some h).1, (prd_some (cn := cn) (names := names) hR).2, (prd_some (cn := cn) (names := names) h).2, prdM_congr h1 h2 h3 h4 h5]; exact ⟨rfl, rfl⟩
  | none =>
    rw [h] at hR
    rw [(prd_none hR).1, (prd_none h).1, (prd_none (cn := cn) (names := names) hR).2, (prd_none (cn := cn) (names := names) h).2]; exact ⟨rfl, rfl⟩
theorem notV_copy (d : Den) : notV (copyD d) = notV d ∧ notE (copyD d) = notE d := by
  obtain ⟨h1, h2⟩ := prdV_congr (cn := notS) (names := d.tracks) (d := d) (e := d) (d' := copyD d) (e' := copyD d) (copyD_rows d) (copyD_rows d) rfl rfl rfl
  constructor
  · rw [notV, notV, copyD_right, show (copyD d).tracks = d.tracks from rfl, h1]
  · rw [notE, notE, copyD_right, h2]

end Tab

/- The product's language. -/
namespace Tab
open Go Go.Proofs
set_option maxRecDepth 10000
set_option linter.unusedVariables false
set_option linter.unusedSimpArgs false
set_option linter.unusedSectionVars false

theorem ix_lt {α : Type} [DecidableEq α] {l : List α} {x : α} (h : x ∈ l) : ∃ hl : ixOf l x < l.length, l[ixOf l x] = x :=
  ⟨List.idxOf_lt_length_of_mem h, List.getElem_idxOf _⟩
theorem rowX_ix {α : Type} [DecidableEq α] (f : α → List α) (L : List α) (s : α) : rowX f L s = (f s).map fun t => (ixOf L t : Int) := rfl

def prodL (cn : Bool → Bool → Bool) (k : Nat) (K J : Lang) : Lang := fun w => letB k w && (!w.isEmpty && cn (K w) (J w))

section
variable {cn : Bool → Bool → Bool} {names : List (List UInt8)} {d e : Den} {L : List Pr} (hd : rightS d = true) (he : rightS e = true) (hk : d.tracks.length = e.tracks.length) (hn : risesS names = true) (hnk : names.length = d.tracks.length) (hL : prdR d e = some L)
include hd he hk hL
theorem prd_mem : ∀ x ∈ L, x = stP ∨ okS d e x := fun x hx => by
  rw [← (explO_some hL).1] at hx
  exact expl_all (f := pf d e) (Q := fun x => x = stP ∨ okS d e x) (fun y hy t ht => .inr (pf_ok hd he hk hy t ht)) 300 0 [stP] (by simp) x hx
omit hd he hk in
theorem prd_nodup : L.Nodup := by
  rw [← (explO_some hL).1]; exact expl_nodup 300 0 [stP] (by simp)
omit hd he hk in
theorem prd_closed : ∀ s ∈ L, ∀ t ∈ pf d e s, t ∈ L := by
  have h1 := (explO_some hL).1
  have h2 := prdR_len hL
  intro s hs t ht
  have := expl_closed (f := pf d e) 300 0 [stP] (fun i hi => by omega) (by rw [h1]; omega) s (by rw [h1]; exact hs) t ht
  rwa [h1] at this
omit hd he hk in
theorem prd_zero' : L[0]? = some stP := by
  obtain ⟨r, h⟩ := expl_prefix (f := pf d e) 300 0 [stP]
  rw [← (explO_some hL).1, h]; rfl

include hn hnk in
theorem prd_right : rightS (prdM cn names d e L) = true := by
  obtain ⟨k1, k2, k3, k4⟩ := tracksS_parts (rightS_parts hd).1
  have hl := prdR_len hL
  have hpos : 0 < L.length := (List.getElem?_eq_some_iff.1 (prd_zero' hL)).1
  have ha : (prdM cn names d e L).accept.length = L.length := by simp [prdM]
  rw [rightS, show (prdM cn names d e L).tracks = names from rfl, ha, tracksS_mk (by omega) hn (by omega) (by omega), decide_eq_true (by simp [prdM] : (prdM cn names d e L).next.length = L.length)]
  simp only [Bool.true_and, List.all_eq_true]
  intro r hr
  simp only [prdM, List.mem_map] at hr
  obtain ⟨q, hq, rfl⟩ := hr
  rw [rowOk, decide_eq_true (by rw [rowX, List.length_map, pf_length, hnk]), Bool.true_and, List.all_eq_true]
  intro x hx
  rw [rowX_ix] at hx
  obtain ⟨t, ht, rfl⟩ := List.mem_map.1 hx
  obtain ⟨this, _⟩ := ix_lt (prd_closed hL q hq t ht)
  simp
  omega

omit hd he hk in
theorem prd_step {i a : Nat} (hi : i < L.length) (ha : a < 2 ^ d.tracks.length) :
    ∃ h : stepN (prdM cn names d e L).rows i a < L.length, L[stepN (prdM cn names d e L).rows i a] = ((stepN d.rows (pst L[i]).1.toNat a : Int), (stepN e.rows (pst L[i]).2.toNat a : Int)) := by
  have hg := pf_get (d := d) (e := e) (p := L[i]) ha
  have hm := prd_closed hL _ (List.getElem_mem hi) _ (List.mem_of_getElem? hg)
  obtain ⟨hlt, hix⟩ := ix_lt hm
  have e1 : (prdM cn names d e L).rows.getD i [] = rowX (pf d e) L L[i] := by
    simp [prdM, Den.rows, List.getD_eq_getElem?_getD, hi]
  have e : stepN (prdM cn names d e L).rows i a = ixOf L ((stepN d.rows (pst L[i]).1.toNat a : Int), (stepN e.rows (pst L[i]).2.toNat a : Int)) := by
    rw [stepN, e1, rowX_ix, List.getD_eq_getElem?_getD, List.getElem?_map, hg]; rfl
  refine ⟨by rw [e]; exact hlt, ?_⟩
  simp only [e]
  exact hix
omit hd he hk in
theorem prd_run : ∀ (w : List Nat) {i : Nat} (hi : i < L.length), Lets d.tracks.length w →
    ∃ h : runN (prdM cn names d e L).rows i w < L.length, w ≠ [] → L[runN (prdM cn names d e L).rows i w] = ((runN d.rows (pst L[i]).1.toNat w : Int), (runN e.rows (pst L[i]).2.toNat w : Int))
  | [], i, hi, _ => ⟨hi, fun h => absurd rfl h⟩
  | a :: w, i, hi, hw => by
    obtain ⟨h1, h2⟩ := prd_step (cn := cn) (names := names) hL hi (hw a (by simp))
    obtain ⟨h3, h4⟩ := prd_run w h1 fun b hb => hw b (by simp [hb])
    refine ⟨h3, fun _ => ?_⟩
    show L[runN (prdM cn names d e L).rows (stepN (prdM cn names d e L).rows i a) w] = ((runN d.rows (stepN d.rows (pst L[i]).1.toNat a) w : Int), (runN e.rows (stepN e.rows (pst L[i]).2.toNat a) w : Int))
    have hp : pst ((stepN d.rows (pst L[i]).1.toNat a : Int), (stepN e.rows (pst L[i]).2.toNat a : Int)) = ((stepN d.rows (pst L[i]).1.toNat a : Int), (stepN e.rows (pst L[i]).2.toNat a : Int)) := by
      rw [pst, if_neg]; simp
    cases w with
    | nil => exact h2
    | cons b w =>
      have := h4 (by simp)
      rw [h2, hp] at this
      exact this
omit hd he in
include hnk in
theorem prd_lang : lang (prdM cn names d e L) = prodL cn d.tracks.length (lang d) (lang e) := by
  obtain ⟨hz, ez⟩ := List.getElem?_eq_some_iff.1 (prd_zero' hL)
  funext w
  rw [lang, langR, prodL, show (prdM cn names d e L).tracks = names from rfl, hnk]
  cases hw : letB d.tracks.length w with
  | false => rfl
  | true =>
    have hw := letB_iff.1 hw
    rw [Bool.true_and, Bool.true_and]
    obtain ⟨h1, h2⟩ := prd_run (cn := cn) (names := names) hL w hz hw
    have ea : accN (prdM cn names d e L).accept (runN (prdM cn names d e L).rows 0 w) = accP cn d e L[runN (prdM cn names d e L).rows 0 w] := by
      generalize runN (prdM cn names d e L).rows 0 w = i at *
      simp [accN, prdM, List.getD_eq_getElem?_getD, List.getElem?_map, h1]
    rw [ea]
    cases w with
    | nil =>
      have : L[runN (prdM cn names d e L).rows 0 []] = stP := ez
      rw [this]; rfl
    | cons a w =>
      rw [h2 (by simp), ez]
      rw [accP, if_neg (by simp)]
      show cn (accN d.accept (runN d.rows 0 (a :: w))) (accN e.accept (runN e.rows 0 (a :: w))) = (!false && cn (lang d (a :: w)) (lang e (a :: w)))
      rw [lang, lang, langR_let hw, langR_let (by rw [← hk]; exact hw)]; rfl
end

theorem prodL_sound {cn k K J} (hK : SoundL k K) (hJ : SoundL k J) : SoundL k (prodL cn k K J) := by
  refine ⟨by simp [prodL], fun w a hw ha => ?_⟩
  have l1 : letB k (w ++ [a]) = true := letB_iff.2 fun b hb => by
    rcases List.mem_append.1 hb with h | h
    · exact hw b h
    · simp at h; omega
  have l2 : letB k (w ++ [a, a]) = true := letB_iff.2 fun b hb => by
    rcases List.mem_append.1 hb with h | h
    · exact hw b h
    · simp at h; omega
  rw [prodL, prodL, l1, l2, hK.2 w a hw ha, hJ.2 w a hw ha]
  cases w <;> simp

/-! ### Not -/

theorem notE_ok {d : Den} (h : notE d = 0) : rightS d = true ∧ ∃ L, prdR d d = some L ∧ notV d = prdM notS d.tracks d d L := by
  have hr : rightS d = true := by
    cases hr : rightS d with
    | true => rfl
    | false => rw [notE, hr] at h; simp at h
  have h' := h
  rw [notE, if_pos hr] at h'
  obtain ⟨L, hL⟩ := prd_zero h'
  exact ⟨hr, L, hL, notV_ok h hL⟩
theorem notE_right {d : Den} (hr : rightS d = true) (h : notE d ≠ 0) : notE d = 140 := by
  rw [notE, if_pos hr] at h ⊢
  cases hR : prdR d d with
  | some L => exact absurd (prd_some (cn := notS) (names := []) hR).2 h
  | none => exact (prd_none (cn := notS) (names := []) hR).2
theorem not_right {d : Den} (h : notE d = 0) : rightS (notV d) = true ∧ (notV d).tracks = d.tracks ∧ lang (notV d) = prodL notS d.tracks.length (lang d) (lang d) := by
  obtain ⟨hr, L, hL, e⟩ := notE_ok h
  obtain ⟨_, h2, _, _⟩ := tracksS_parts (rightS_parts hr).1
  rw [e]
  exact ⟨prd_right hr hr rfl h2 rfl hL, rfl, prd_lang rfl rfl hL⟩
theorem lang_false {d : Den} {w : List Nat} (h : ¬ Lets d.tracks.length w) : lang d w = false := by
  cases e : letB d.tracks.length w with
  | false => rw [lang, langR, e]; rfl
  | true => exact absurd (letB_iff.1 e) h
theorem lang_nil (d : Den) : lang d [] = accN d.accept 0 := by rw [lang, langR_let (fun a ha => absurd ha (by simp))]; rfl
theorem notL_notL {d : Den} (h : lang d [] = false) : prodL notS d.tracks.length (prodL notS d.tracks.length (lang d) (lang d)) (prodL notS d.tracks.length (lang d) (lang d)) = lang d := by
  funext w
  cases w with
  | nil => rw [h]; rfl
  | cons a w =>
    simp only [prodL, notS]
    cases e : letB d.tracks.length (a :: w) with
    | false => rw [lang_false (fun k => by rw [letB_iff.2 k] at e; simp at e)]; rfl
    | true => simp

theorem not_sound {d : Den} (h : notE d = 0) (hs : soundD d = true) : soundD (notV d) = true := by
  obtain ⟨hr, _⟩ := notE_ok h
  obtain ⟨h1, h2, h3⟩ := not_right h
  rw [soundD_iff hr] at hs
  rw [soundD_iff h1, h2, h3]
  exact prodL_sound hs hs
theorem not_nil {d : Den} (h : notE d = 0) : ∃ l, (notV d).accept = false :: l := by
  obtain ⟨hr, L, hL, e⟩ := notE_ok h
  obtain ⟨r, hr⟩ := expl_prefix (f := pf d d) 300 0 [stP]
  rw [(explO_some hL).1] at hr
  rw [e, prdM, hr]
  exact ⟨_, rfl⟩
theorem not_takes {d : Den} (h : notE d = 0) {w : List Nat} (hw : Lets d.tracks.length w) (hne : w ≠ []) : lang (notV d) w = !lang d w := by
  obtain ⟨_, _, h3⟩ := not_right h
  rw [h3, prodL, letB_iff.2 hw]
  cases w with
  | nil => exact absurd rfl hne
  | cons a w => simp [notS]
theorem lang_copy (d : Den) : lang (copyD d) = lang d := by
  funext w
  rw [lang, lang, langR, langR, copyD_rows]; rfl
theorem not_not {d : Den} (h : notE d = 0) (h2 : notE (notV d) = 0) (hn : lang d [] = false) : sameD (minD (copyD d)) (minD (notV (notV d))) = true := by
  obtain ⟨hr, _⟩ := notE_ok h
  obtain ⟨a1, a2, a3⟩ := not_right h
  obtain ⟨b1, b2, b3⟩ := not_right h2
  refine minD_same (by rw [copyD_right]; exact hr) b1 (by rw [b2, a2]; rfl) ?_
  rw [lang_copy, b3, a2, a3]
  exact (notL_notL hn).symm

end Tab

/- Layer 16: the law ProdJoins. -/
namespace Tab
open Go Go.Proofs
set_option maxRecDepth 10000
set_option linter.unusedVariables false
set_option linter.unusedSimpArgs false
set_option linter.unusedSectionVars false

theorem unN_copy (d e : Den) : unN (copyD d) (copyD e) = unN d e := rfl
theorem widenD_copy (d : Den) (names) : widenD (copyD d) names = widenD d names := by
  rw [widenD, widenD, copyD_rows]; rfl
theorem joinV_copy (op : Int) (d e : Den) : joinV op (copyD d) (copyD e) = joinV op d e ∧ joinE op (copyD d) (copyD e) = joinE op d e := by
  constructor
  · rw [joinV, joinV, copyD_right, copyD_right, unN_copy, widenD_copy, widenD_copy]
  · rw [joinE, joinE, copyD_right, copyD_right, unN_copy, widenD_copy, widenD_copy]

end Tab

/- The language of what Join answers. -/
namespace Tab
open Go Go.Proofs
set_option maxRecDepth 10000
set_option linter.unusedVariables false
set_option linter.unusedSimpArgs false
set_option linter.unusedSectionVars false

theorem join_made {op : Int} {d e : Den} (h : joinE op d e = 0) : rightS d = true ∧ rightS e = true ∧ (3 ≤ op ∧ op ≤ 6) ∧ (unN d e).length ≤ 6 ∧ widenE d (unN d e) = 0 ∧ widenE e (unN d e) = 0 ∧ risesS (unN d e) = true ∧
    rightS (widenD d (unN d e)) = true ∧ rightS (widenD e (unN d e)) = true ∧ ∃ L, prdR (widenD d (unN d e)) (widenD e (unN d e)) = some L ∧ joinV op d e = prdM (holdsS op) (unN d e) (widenD d (unN d e)) (widenD e (unN d e)) L := by
  obtain ⟨h1, h2, h6⟩ := joinE_ok h
  have h' := h
  rw [joinE_made h1 h2 h6] at h'
  obtain ⟨hd, he⟩ := Bool.and_eq_true_iff.1 h1
  obtain ⟨L, hL⟩ := prd_zero h'
  have hu := unN_rises hd he
  obtain ⟨i1, i2⟩ := unN_in (d := d) (e := e)
  exact ⟨hd, he, h2, h6, widenE_ok hd hu h6 i1, widenE_ok he hu h6 i2, hu, widenD_right hd h6 hu, widenD_right he h6 hu, L, hL, joinV_ok h hL⟩
theorem join_right {op : Int} {d e : Den} (h : joinE op d e = 0) : rightS (joinV op d e) = true ∧ (joinV op d e).tracks = unN d e ∧
    lang (joinV op d e) = prodL (holdsS op) (unN d e).length (lang (widenD d (unN d e))) (lang (widenD e (unN d e))) := by
  obtain ⟨hd, he, h2, h6, w0, v0, hu, wr, vr, L, hL, hv⟩ := join_made h
  rw [hv]
  exact ⟨prd_right wr vr rfl hu rfl hL, rfl, prd_lang (hk := rfl) (hnk := rfl) (hL := hL)⟩
theorem join_sound {op : Int} {d e : Den} (h : joinE op d e = 0) (h1 : soundD d = true) (h2 : soundD e = true) : soundD (joinV op d e) = true := by
  obtain ⟨hd, he, _, h6, w0, v0, hu, wr, vr, L, hL, _⟩ := join_made h
  obtain ⟨g1, g2, g3⟩ := join_right h
  have s1 := wid_sound w0
  have s2 := wid_sound v0
  rw [widenR_ok w0, h1] at s1
  rw [widenR_ok v0, h2] at s2
  rw [soundD_iff wr] at s1
  rw [soundD_iff vr] at s2
  rw [soundD_iff g1, g2, g3]
  exact prodL_sound s1 s2
theorem join_nil {op : Int} {d e : Den} (h : joinE op d e = 0) : ∃ l, (joinV op d e).accept = false :: l := by
  obtain ⟨hd, he, _, h6, w0, v0, hu, wr, vr, L, hL, hv⟩ := join_made h
  obtain ⟨r, hr⟩ := expl_prefix (f := pf (widenD d (unN d e)) (widenD e (unN d e))) 300 0 [stP]
  rw [(explO_some hL).1] at hr
  rw [hv, prdM, hr]
  exact ⟨_, rfl⟩
theorem join_takes {op : Int} {d e : Den} (h : joinE op d e = 0) {w : List Nat} (hw : Lets (unN d e).length w) (hne : w ≠ []) : lang (joinV op d e) w = holdsS op (lang (widenD d (unN d e)) w) (lang (widenD e (unN d e)) w) := by
  obtain ⟨_, _, h3⟩ := join_right h
  rw [h3, prodL, letB_iff.2 hw]
  cases w with
  | nil => exact absurd rfl hne
  | cons a w => simp

end Tab

/- compare.opened, Within, Same, Apart. -/
namespace Tab
open Go Go.Proofs
set_option maxRecDepth 10000
set_option linter.unusedVariables false
set_option linter.unusedSimpArgs false
set_option linter.unusedSectionVars false

@[irreducible] def opE (a b : Aut) : Int := if (checkS a && checkS b) = true then (if (unN (unpD a) (unpD b)).length ≤ 6 then 0 else 150) else 3
@[irreducible] def opA (a b : Aut) : Den := if opE a b = 0 then widenD (unpD a) (unN (unpD a) (unpD b)) else den0
@[irreducible] def opB (a b : Aut) : Den := if opE a b = 0 then widenD (unpD b) (unN (unpD a) (unpD b)) else den0
theorem opE_bad {a b : Aut} (h : (checkS a && checkS b) = false) : opE a b = 3 := by rw [opE, h]; rfl
theorem opE_wide {a b : Aut} (h : (checkS a && checkS b) = true) (h2 : ¬ (unN (unpD a) (unpD b)).length ≤ 6) : opE a b = 150 := by rw [opE, if_pos h, if_neg h2]
theorem opE_ok {a b : Aut} (h : (checkS a && checkS b) = true) (h2 : (unN (unpD a) (unpD b)).length ≤ 6) : opE a b = 0 := by rw [opE, if_pos h, if_pos h2]
theorem opE_zero {a b : Aut} (h : opE a b = 0) : checkS a = true ∧ checkS b = true ∧ (unN (unpD a) (unpD b)).length ≤ 6 := by
  cases h1 : checkS a && checkS b with
  | false => rw [opE_bad h1] at h; simp at h
  | true =>
    obtain ⟨g1, g2⟩ := Bool.and_eq_true_iff.1 h1
    by_cases h2 : (unN (unpD a) (unpD b)).length ≤ 6
    · exact ⟨g1, g2, h2⟩
    · rw [opE_wide h1 h2] at h; simp at h
theorem opA_bad {a b : Aut} (h : opE a b ≠ 0) : opA a b = den0 ∧ opB a b = den0 := by rw [opA, opB, if_neg h, if_neg h]; exact ⟨rfl, rfl⟩
theorem opA_ok {a b : Aut} (h : opE a b = 0) : opA a b = widenD (unpD a) (unN (unpD a) (unpD b)) ∧ opB a b = widenD (unpD b) (unN (unpD a) (unpD b)) := by rw [opA, opB, if_pos h, if_pos h]; exact ⟨rfl, rfl⟩
theorem unpD_den {a : Aut} (ha : AutOk a) : DenOk (unpD a) := by
  rw [unpD]
  split
  · rename_i h
    obtain ⟨hr, _, _⟩ := unpD_right h
    rw [unpD_ok h] at hr
    obtain ⟨k6, _, _, k256⟩ := tracksS_parts (rightS_parts hr).1
    have hp : 2 ^ a.tracks.length ≤ 2 ^ 6 := Nat.pow_le_pow_right (by omega) k6
    refine ⟨ha.tracks, ha.names, ha.accept, ?_, fun r hr => ?_⟩
    · simp only [List.length_map, List.length_range]
      have : (a.accept.length : Int) ≤ 256 := k256
      omega
    · simp only [Den.rows, List.map_map, List.mem_map, List.mem_range] at hr
      obtain ⟨q, _, rfl⟩ := hr
      simp only [Function.comp_apply, rowC_length]
      omega
  · exact den0_ok
/-- What is known where both tables are right and the tracks few enough. -/
theorem op_made {a b : Aut} (h : opE a b = 0) : rightS (unpD a) = true ∧ rightS (unpD b) = true ∧ widenE (unpD a) (unN (unpD a) (unpD b)) = 0 ∧ widenE (unpD b) (unN (unpD a) (unpD b)) = 0 ∧ rightS (opA a b) = true ∧ rightS (opB a b) = true ∧ (opA a b).tracks = unN (unpD a) (unpD b) ∧ (opB a b).tracks = unN (unpD a) (unpD b) := by
  obtain ⟨h1, h2, h6⟩ := opE_zero h
  obtain ⟨r1, _, _⟩ := unpD_right h1
  obtain ⟨r2, _, _⟩ := unpD_right h2
  obtain ⟨e1, e2⟩ := opA_ok h
  obtain ⟨i1, i2⟩ := unN_in (d := unpD a) (e := unpD b)
  have hu := unN_rises r1 r2
  rw [e1, e2]
  exact ⟨r1, r2, widenE_ok r1 hu h6 i1, widenE_ok r2 hu h6 i2, widenD_right r1 h6 hu, widenD_right r2 h6 hu, rfl, rfl⟩

@[simp] theorem two_closed (d e : Den) : closeds (d.cells ++ e.cells) := by simp [closeds, Den.cells, aSs_closed, aBs_closed, aRs_closed]
theorem cmp_opened (a b : Aut) (ha : AutOk a) (hb : AutOk b) : Pure Try.prog 58 [aAut a, aAut b] (.tup [.agg ((opA a b).cells ++ (opB a b).cells), .int .i64 (opE a b)]) := by
  have hua := table_Unpack a ha
  have hub := table_Unpack b hb
  have oka := unpD_den ha
  have okb := unpD_den hb
  cases h1 : checkS a with
  | false =>
    have he := opE_bad (a := a) (b := b) (by rw [h1]; rfl)
    obtain ⟨e1, e2⟩ := opA_bad (a := a) (b := b) (by rw [he]; decide)
    rw [he, e1, e2]
    rw [unpE_bad h1, unpD_bad h1] at hua
    refine Pure.of_sw 62 Try.func58 rfl Try.ntmps58 (by kernel_rfl) (Nat.le_of_ble_eq_true (by kernel_rfl)) (by simp [closeds, AV.closed, aSs_closed, aIs_closed, aBs_closed, aRs_closed, aDen_closed, aCs_closed, aAut_closed]) (by simp [AV.closed, closeds, aSs_closed, aIs_closed, aBs_closed, aRs_closed, aDen_closed, aCs_closed, aAut_closed]) ?_; refine SW.of_vc ?_
    repeat first | refine opsStep ?_ | refine codeStep ?_ | refine drawStep ?_
    refine callP hua ?_
    repeat first | refine opsStep ?_ | refine codeStep ?_ | refine drawStep ?_
    exact finV (v' := .tup [.agg (den0.cells ++ den0.cells), .int .i64 3]) (by kernel_rfl) rfl
  | true =>
  cases h2 : checkS b with
  | false =>
    have he := opE_bad (a := a) (b := b) (by rw [h1, h2]; rfl)
    obtain ⟨e1, e2⟩ := opA_bad (a := a) (b := b) (by rw [he]; decide)
    rw [he, e1, e2]
    rw [unpE_zero.2 h1] at hua
    rw [unpE_bad h2, unpD_bad h2] at hub
    generalize unpD a = d at *
    refine Pure.of_sw 62 Try.func58 rfl Try.ntmps58 (by kernel_rfl) (Nat.le_of_ble_eq_true (by kernel_rfl)) (by simp [closeds, AV.closed, aSs_closed, aIs_closed, aBs_closed, aRs_closed, aDen_closed, aCs_closed, aAut_closed]) (by simp [AV.closed, closeds, aSs_closed, aIs_closed, aBs_closed, aRs_closed, aDen_closed, aCs_closed, aAut_closed]) ?_; refine SW.of_vc ?_
    repeat first | refine opsStep ?_ | refine codeStep ?_ | refine drawStep ?_
    refine callP hua ?_
    repeat first | refine opsStep ?_ | refine codeStep ?_ | refine drawStep ?_
    refine callP hub ?_
    repeat first | refine opsStep ?_ | refine codeStep ?_ | refine drawStep ?_
    exact finV (v' := .tup [.agg (den0.cells ++ den0.cells), .int .i64 3]) (by kernel_rfl) rfl
  | true =>
  rw [unpE_zero.2 h1] at hua
  rw [unpE_zero.2 h2] at hub
  obtain ⟨r1, _, _⟩ := unpD_right h1
  obtain ⟨r2, _, _⟩ := unpD_right h2
  have hwide := opE_wide (a := a) (b := b) (by rw [h1, h2]; rfl)
  have hgood := opE_ok (a := a) (b := b) (by rw [h1, h2]; rfl)
  have hbad := opA_bad (a := a) (b := b)
  have hok := opA_ok (a := a) (b := b)
  obtain ⟨i1, i2⟩ := unN_in (d := unpD a) (e := unpD b)
  have hu := unN_rises r1 r2
  have hul := unN_len r1 r2
  have hus := unN_sizes oka okb
  obtain ⟨jd1, jd2, jd3, jd4⟩ := tracksS_parts (rightS_parts r1).1
  obtain ⟨je1, je2, je3, je4⟩ := tracksS_parts (rightS_parts r2).1
  have hd1 := oka.tracks
  have he1 := okb.tracks
  have hun := glyph_Union (unpD a).tk (unpD b).tk (unpD a).tracks (unpD b).tracks (by omega) (fun s hs => by have := oka.names s hs; omega) (fun s hs => by have := okb.names s hs; omega) jd2 je2
  rw [← unN] at hun
  have hwa := track_Widen_pure .any (unpD a) (unN (unpD a) (unpD b)) oka (by omega) hus
  have hwb := track_Widen_pure .any (unpD b) (unN (unpD a) (unpD b)) okb (by omega) hus
  by_cases h6 : (unN (unpD a) (unpD b)).length ≤ 6
  · have he := hgood h6
    obtain ⟨e1, e2⟩ := hok he
    have w0 := widenE_ok r1 hu h6 i1
    have v0 := widenE_ok r2 hu h6 i2
    rw [widenR_ok w0, w0] at hwa
    rw [widenR_ok v0, v0] at hwb
    rw [he, e1, e2]
    generalize widenD (unpD a) (unN (unpD a) (unpD b)) = wa at *
    generalize widenD (unpD b) (unN (unpD a) (unpD b)) = wb at *
    generalize unN (unpD a) (unpD b) = names at *
    generalize unpD a = d at *
    generalize unpD b = e at *
    refine Pure.of_sw 62 Try.func58 rfl Try.ntmps58 (by kernel_rfl) (Nat.le_of_ble_eq_true (by kernel_rfl)) (by simp [closeds, AV.closed, aSs_closed, aIs_closed, aBs_closed, aRs_closed, aDen_closed, aCs_closed, aAut_closed]) (by simp [AV.closed, closeds, aSs_closed, aIs_closed, aBs_closed, aRs_closed, aDen_closed, aCs_closed, aAut_closed]) ?_; refine SW.of_vc ?_
    repeat first | refine opsStep ?_ | refine codeStep ?_ | refine drawStep ?_
    refine callP hua ?_
    repeat first | refine opsStep ?_ | refine codeStep ?_ | refine drawStep ?_
    refine callP hub ?_
    repeat first | refine opsStep ?_ | refine codeStep ?_ | refine drawStep ?_
    refine callP hun ?_
    iterate 6 refine opsStep ?_
    refine VCode.ent (Ent.fr' (l := [(2, .ref 0 0 0), (3, .ref 1 0 0), (4, .ref 2 0 0), (6, .ref 3 0 0), (7, .int .i64 0), (8, .ref 4 0 0), (9, aSs .any names)]) (H' := [.cells 0 a.cells, .cells 0 b.cells, .cells 0 (den0.cells ++ den0.cells), .cells 0 d.cells, .cells 0 e.cells]) ⟨(by kernel_rfl), (by kernel_rfl), (by kernel_rfl), (by kernel_rfl), (by kernel_rfl), (by kernel_rfl), (by kernel_rfl), trivial⟩ (by kernel_rfl)) ?_
    repeat first | refine opsStep ?_ | refine codeStep ?_ | refine drawStep ?_
    refine callP hwa ?_
    repeat first | refine opsStep ?_ | refine codeStep ?_ | refine drawStep ?_
    refine callP hwb ?_
    repeat first | refine opsStep ?_ | refine codeStep ?_ | refine drawStep ?_
    exact finV (v' := .tup [.agg (wa.cells ++ wb.cells), .int .i64 0]) (by kernel_rfl) rfl
  · have he := hwide h6
    obtain ⟨e1, e2⟩ := hbad (by rw [he]; decide)
    have w0 := widenE_wide r1 hu h6
    rw [widenR_bad (by rw [w0]; decide), w0] at hwa
    rw [he, e1, e2]
    generalize unN (unpD a) (unpD b) = names at *
    generalize unpD a = d at *
    generalize unpD b = e at *
    refine Pure.of_sw 62 Try.func58 rfl Try.ntmps58 (by kernel_rfl) (Nat.le_of_ble_eq_true (by kernel_rfl)) (by simp [closeds, AV.closed, aSs_closed, aIs_closed, aBs_closed, aRs_closed, aDen_closed, aCs_closed, aAut_closed]) (by simp [AV.closed, closeds, aSs_closed, aIs_closed, aBs_closed, aRs_closed, aDen_closed, aCs_closed, aAut_closed]) ?_; refine SW.of_vc ?_
    repeat first | refine opsStep ?_ | refine codeStep ?_ | refine drawStep ?_
    refine callP hua ?_
    repeat first | refine opsStep ?_ | refine codeStep ?_ | refine drawStep ?_
    refine callP hub ?_
    repeat first | refine opsStep ?_ | refine codeStep ?_ | refine drawStep ?_
    refine callP hun ?_
    iterate 6 refine opsStep ?_
    refine VCode.ent (Ent.fr' (l := [(2, .ref 0 0 0), (3, .ref 1 0 0), (4, .ref 2 0 0), (6, .ref 3 0 0), (7, .int .i64 0), (8, .ref 4 0 0), (9, aSs .any names)]) (H' := [.cells 0 a.cells, .cells 0 b.cells, .cells 0 (den0.cells ++ den0.cells), .cells 0 d.cells, .cells 0 e.cells]) ⟨(by kernel_rfl), (by kernel_rfl), (by kernel_rfl), (by kernel_rfl), (by kernel_rfl), (by kernel_rfl), (by kernel_rfl), trivial⟩ (by kernel_rfl)) ?_
    repeat first | refine opsStep ?_ | refine codeStep ?_ | refine drawStep ?_
    refine callP hwa ?_
    repeat first | refine opsStep ?_ | refine codeStep ?_ | refine drawStep ?_
    exact finV (v' := .tup [.agg (den0.cells ++ den0.cells), .int .i64 150]) (by kernel_rfl) rfl

end Tab

/- compare.Within, Same, Apart, as values. -/
namespace Tab
open Go Go.Proofs
set_option maxRecDepth 10000
set_option linter.unusedVariables false
set_option linter.unusedSimpArgs false
set_option linter.unusedSectionVars false

def qW (a b : Bool) : Bool := a && !b
def qS (a b : Bool) : Bool := a != b
theorem cmp_W1 (a b : Bool) : Pure Try.prog 60 [.bool a, .bool b] (.bool (qW a b)) := by
  cases a with
  | false =>
    refine Pure.of_sw 10 Try.func60 rfl Try.ntmps60 (by kernel_rfl) (Nat.le_of_ble_eq_true (by kernel_rfl)) (by simp [closeds, AV.closed, aSs_closed, aIs_closed, aBs_closed, aRs_closed, aDen_closed]) (by simp [AV.closed, closeds, aSs_closed, aIs_closed, aBs_closed, aRs_closed, aDen_closed]) ?_; refine SW.of_vc ?_
    repeat first | refine opsStep ?_ | refine codeStep ?_ | refine drawStep ?_
    exact finB (b' := false) (by kernel_rfl) rfl
  | true =>
    refine Pure.of_sw 10 Try.func60 rfl Try.ntmps60 (by kernel_rfl) (Nat.le_of_ble_eq_true (by kernel_rfl)) (by simp [closeds, AV.closed, aSs_closed, aIs_closed, aBs_closed, aRs_closed, aDen_closed]) (by simp [AV.closed, closeds, aSs_closed, aIs_closed, aBs_closed, aRs_closed, aDen_closed]) ?_; refine SW.of_vc ?_
    repeat first | refine opsStep ?_ | refine codeStep ?_ | refine drawStep ?_
    exact finB (b' := !b) (by kernel_rfl) rfl
theorem cmp_S1 (a b : Bool) : Pure Try.prog 61 [.bool a, .bool b] (.bool (qS a b)) := by
  refine Pure.of_sw 8 Try.func61 rfl Try.ntmps61 (by kernel_rfl) (Nat.le_of_ble_eq_true (by kernel_rfl)) (by simp [closeds, AV.closed, aSs_closed, aIs_closed, aBs_closed, aRs_closed, aDen_closed]) (by simp [AV.closed, closeds, aSs_closed, aIs_closed, aBs_closed, aRs_closed, aDen_closed]) ?_; refine SW.of_vc ?_
  repeat first | refine opsStep ?_ | refine codeStep ?_ | refine drawStep ?_
  exact finB (b' := a != b) (by kernel_rfl) rfl
theorem cmp_A1 (a b : Bool) : Pure Try.prog 62 [.bool a, .bool b] (.bool (qS a b)) := by
  refine Pure.of_sw 8 Try.func62 rfl Try.ntmps62 (by kernel_rfl) (Nat.le_of_ble_eq_true (by kernel_rfl)) (by simp [closeds, AV.closed, aSs_closed, aIs_closed, aBs_closed, aRs_closed, aDen_closed]) (by simp [AV.closed, closeds, aSs_closed, aIs_closed, aBs_closed, aRs_closed, aDen_closed]) ?_; refine SW.of_vc ?_
  repeat first | refine opsStep ?_ | refine codeStep ?_ | refine drawStep ?_
  exact finB (b' := a != b) (by kernel_rfl) rfl

noncomputable def tellO (q : Bool → Bool → Bool) (a b : Aut) : Option (List Nat) := if opE a b = 0 then cmpO (opA a b) (opB a b) q else none
noncomputable def noneB (q : Bool → Bool → Bool) (a b : Aut) : Bool := decide (opE a b = 0) && (tellO q a b).isNone
theorem tellO_ok {q a b} (h : opE a b = 0) : tellO q a b = cmpO (opA a b) (opB a b) q := by rw [tellO, if_pos h]
theorem noneB_bad {q a b} (h : opE a b ≠ 0) : noneB q a b = false := by rw [noneB, decide_eq_false h]; rfl
theorem noneB_ok {q a b} (h : opE a b = 0) : noneB q a b = (cmpO (opA a b) (opB a b) q).isNone := by rw [noneB, decide_eq_true h, tellO_ok h]; rfl

theorem cmp_Within (a b : Aut) (ha : AutOk a) (hb : AutOk b) : Pure Try.prog 23 [aAut a, aAut b] (.tup [.bool (noneB qW a b), .int .i64 (opE a b)]) := by
  have ho := cmp_opened a b ha hb
  have hm := fun h => op_made (a := a) (b := b) h
  have hbd := fun h => noneB_bad (q := qW) (a := a) (b := b) h
  have hgd := fun h => noneB_ok (q := qW) (a := a) (b := b) h
  have hfs := fun h1 h2 h3 => cmp_first qW _ cmp_W1 (opA a b) (opB a b) h1 h2 h3
  generalize opA a b = x at *
  generalize opB a b = y at *
  generalize opE a b = z at *
  generalize noneB qW a b = v at *
  refine Pure.of_sw 26 Try.func23 rfl Try.ntmps23 (by kernel_rfl) (Nat.le_of_ble_eq_true (by kernel_rfl)) (by simp [closeds, AV.closed, aSs_closed, aIs_closed, aBs_closed, aRs_closed, aDen_closed, aCs_closed, aAut_closed]) (by simp [AV.closed, closeds, aSs_closed, aIs_closed, aBs_closed, aRs_closed, aDen_closed, aCs_closed, aAut_closed]) ?_; refine SW.of_vc ?_
  repeat first | refine opsStep ?_ | refine codeStep ?_ | refine drawStep ?_
  refine callP ho ?_
  repeat first | refine opsStep ?_ | refine codeStep ?_ | refine drawStep ?_
  refine decB_dec (fun hz => ?_) (fun hz => ?_)
  · have hz : ¬ z = 0 := hz
    repeat first | refine opsStep ?_ | refine codeStep ?_ | refine drawStep ?_
    exact finV (v' := .tup [.bool false, .int .i64 z]) (by kernel_rfl) (by rw [hbd hz])
  have hz : z = 0 := Decidable.of_not_not hz
  obtain ⟨_, _, _, _, r1, r2, t1, t2⟩ := hm hz
  have hfs := hfs r1 r2 (by rw [t1, t2])
  have hgd := hgd hz
  cases ho' : cmpO x y qW with
  | none =>
    rw [ho'] at hfs hgd
    repeat first | refine opsStep ?_ | refine codeStep ?_ | refine drawStep ?_
    refine callP hfs ?_
    repeat first | refine opsStep ?_ | refine codeStep ?_ | refine drawStep ?_
    exact finV (v' := .tup [.bool true, .int .i64 0]) (by kernel_rfl) (by rw [hgd, hz]; rfl)
  | some w =>
    rw [ho'] at hfs hgd
    repeat first | refine opsStep ?_ | refine codeStep ?_ | refine drawStep ?_
    refine callP hfs ?_
    repeat first | refine opsStep ?_ | refine codeStep ?_ | refine drawStep ?_
    exact finV (v' := .tup [.bool false, .int .i64 0]) (by kernel_rfl) (by rw [hgd, hz]; rfl)
theorem cmp_Same (a b : Aut) (ha : AutOk a) (hb : AutOk b) : Pure Try.prog 24 [aAut a, aAut b] (.tup [.bool (noneB qS a b), .int .i64 (opE a b)]) := by
  have ho := cmp_opened a b ha hb
  have hm := fun h => op_made (a := a) (b := b) h
  have hbd := fun h => noneB_bad (q := qS) (a := a) (b := b) h
  have hgd := fun h => noneB_ok (q := qS) (a := a) (b := b) h
  have hfs := fun h1 h2 h3 => cmp_first qS _ cmp_S1 (opA a b) (opB a b) h1 h2 h3
  generalize opA a b = x at *
  generalize opB a b = y at *
  generalize opE a b = z at *
  generalize noneB qS a b = v at *
  refine Pure.of_sw 26 Try.func24 rfl Try.ntmps24 (by kernel_rfl) (Nat.le_of_ble_eq_true (by kernel_rfl)) (by simp [closeds, AV.closed, aSs_closed, aIs_closed, aBs_closed, aRs_closed, aDen_closed, aCs_closed, aAut_closed]) (by simp [AV.closed, closeds, aSs_closed, aIs_closed, aBs_closed, aRs_closed, aDen_closed, aCs_closed, aAut_closed]) ?_; refine SW.of_vc ?_
  repeat first | refine opsStep ?_ | refine codeStep ?_ | refine drawStep ?_
  refine callP ho ?_
  repeat first | refine opsStep ?_ | refine codeStep ?_ | refine drawStep ?_
  refine decB_dec (fun hz => ?_) (fun hz => ?_)
  · have hz : ¬ z = 0 := hz
    repeat first | refine opsStep ?_ | refine codeStep ?_ | refine drawStep ?_
    exact finV (v' := .tup [.bool false, .int .i64 z]) (by kernel_rfl) (by rw [hbd hz])
  have hz : z = 0 := Decidable.of_not_not hz
  obtain ⟨_, _, _, _, r1, r2, t1, t2⟩ := hm hz
  have hfs := hfs r1 r2 (by rw [t1, t2])
  have hgd := hgd hz
  cases ho' : cmpO x y qS with
  | none =>
    rw [ho'] at hfs hgd
    repeat first | refine opsStep ?_ | refine codeStep ?_ | refine drawStep ?_
    refine callP hfs ?_
    repeat first | refine opsStep ?_ | refine codeStep ?_ | refine drawStep ?_
    exact finV (v' := .tup [.bool true, .int .i64 0]) (by kernel_rfl) (by rw [hgd, hz]; rfl)
  | some w =>
    rw [ho'] at hfs hgd
    repeat first | refine opsStep ?_ | refine codeStep ?_ | refine drawStep ?_
    refine callP hfs ?_
    repeat first | refine opsStep ?_ | refine codeStep ?_ | refine drawStep ?_
    exact finV (v' := .tup [.bool false, .int .i64 0]) (by kernel_rfl) (by rw [hgd, hz]; rfl)

noncomputable def apV (a b : Aut) : AV := if opE a b = 0 then (match tellO qS a b with | none => .tup [.sl .nil 0 [], .sl .nil 0 [], .int .i64 4] | some w => .tup [aSs .any (unN (unpD a) (unpD b)), .sl .any w.length (iW w), .int .i64 0]) else .tup [.sl .nil 0 [], .sl .nil 0 [], .int .i64 (opE a b)]
theorem cmp_Apart (a b : Aut) (ha : AutOk a) (hb : AutOk b) : Pure Try.prog 25 [aAut a, aAut b] (apV a b) := by
  have ho := cmp_opened a b ha hb
  have hm := fun h => op_made (a := a) (b := b) h
  have hxt := fun h => (opA_ok (a := a) (b := b) h).1
  have hbd : ∀ h : opE a b ≠ 0, apV a b = .tup [.sl .nil 0 [], .sl .nil 0 [], .int .i64 (opE a b)] := fun h => by rw [apV, if_neg h]
  have hnn : ∀ h : opE a b = 0, cmpO (opA a b) (opB a b) qS = none → apV a b = .tup [.sl .nil 0 [], .sl .nil 0 [], .int .i64 4] := fun h h2 => by rw [apV, if_pos h, tellO_ok h, h2]
  have hss : ∀ (h : opE a b = 0) w, cmpO (opA a b) (opB a b) qS = some w → apV a b = .tup [aSs .any (unN (unpD a) (unpD b)), .sl .any w.length (iW w), .int .i64 0] := fun h w h2 => by rw [apV, if_pos h, tellO_ok h, h2]
  have hcl : (apV a b).closed := by
    rw [apV]
    split
    · split <;> simp [AV.closed, closeds, aSs_closed, iW_closed]
    · simp [AV.closed, closeds]
  have hfs := fun h1 h2 h3 => cmp_first qS _ cmp_A1 (opA a b) (opB a b) h1 h2 h3
  have htk : ∀ h : opE a b = 0, (opA a b).tk = .any := fun h => by rw [hxt h]; rfl
  generalize apV a b = v at *
  generalize opA a b = x at *
  generalize opB a b = y at *
  generalize opE a b = z at *
  refine Pure.of_sw 31 Try.func25 rfl Try.ntmps25 (by kernel_rfl) (Nat.le_of_ble_eq_true (by kernel_rfl)) (by simp [closeds, aAut_closed]) hcl ?_; refine SW.of_vc ?_
  repeat first | refine opsStep ?_ | refine codeStep ?_ | refine drawStep ?_
  refine callP ho ?_
  repeat first | refine opsStep ?_ | refine codeStep ?_ | refine drawStep ?_
  refine decB_dec (fun hz => ?_) (fun hz => ?_)
  · have hz : ¬ z = 0 := hz
    repeat first | refine opsStep ?_ | refine codeStep ?_ | refine drawStep ?_
    exact finV (v' := .tup [.sl .nil 0 [], .sl .nil 0 [], .int .i64 z]) (by kernel_rfl) (by rw [hbd hz])
  have hz : z = 0 := Decidable.of_not_not hz
  obtain ⟨_, _, _, _, r1, r2, t1, t2⟩ := hm hz
  have hfs := hfs r1 r2 (by rw [t1, t2])
  have hnn := hnn hz
  have hss := hss hz
  have htk := htk hz
  cases ho' : cmpO x y qS with
  | none =>
    rw [ho'] at hfs
    repeat first | refine opsStep ?_ | refine codeStep ?_ | refine drawStep ?_
    refine callP hfs ?_
    repeat first | refine opsStep ?_ | refine codeStep ?_ | refine drawStep ?_
    exact finV (v' := .tup [.sl .nil 0 [], .sl .nil 0 [], .int .i64 4]) (by kernel_rfl) (by rw [hnn ho'])
  | some w =>
    rw [ho'] at hfs
    repeat first | refine opsStep ?_ | refine codeStep ?_ | refine drawStep ?_
    refine callP hfs ?_
    repeat first | refine opsStep ?_ | refine codeStep ?_ | refine drawStep ?_
    exact finV (v' := .tup [aSs x.tk x.tracks, .sl .any w.length (iW w), .int .i64 0]) (by kernel_rfl) (by rw [hss w ho', htk, t1])

end Tab

/- tabardlaw21: table, fixed. -/
namespace Tab
open Go Go.Proofs
set_option maxRecDepth 10000
set_option linter.unusedVariables false
set_option linter.unusedSimpArgs false
set_option linter.unusedSectionVars false

def dF : Den := ⟨.any, [[120]], .any, [false, false, false, false, true], .any, [(.any, [1, 2]), (.any, [2, 3]), (.any, [2, 2]), (.any, [4, 2]), (.any, [4, 2])]⟩
def dT : Den := ⟨.any, [[120]], .any, [false, true], .any, [(.any, [1, 1]), (.any, [1, 1])]⟩
def tbF : Aut := packA dF
def tbT : Aut := packA dT
theorem dF_ok : DenOk dF := ⟨by decide, by decide, by decide, by decide, by decide⟩
theorem dT_ok : DenOk dT := ⟨by decide, by decide, by decide, by decide, by decide⟩
theorem dF_right : rightS dF = true := by kernel_rfl
theorem dT_right : rightS dT = true := by kernel_rfl
theorem pk_F : Pure Try.prog 91 [aDen dF] (.tup [aAut tbF, .int .i64 0]) := r12_Pack dF dF_ok dF_right fun r _ => by
  have := (cubR_len dF.tracks.length r 0 0).1
  have e : 2 ^ dF.tracks.length = 2 := rfl
  omega
theorem pk_T : Pure Try.prog 91 [aDen dT] (.tup [aAut tbT, .int .i64 0]) := r12_Pack dT dT_ok dT_right fun r _ => by
  have := (cubR_len dT.tracks.length r 0 0).1
  have e : 2 ^ dT.tracks.length = 2 := rfl
  omega
theorem tbF_check : checkS tbF = true := by kernel_rfl
theorem tbT_check : checkS tbT = true := by kernel_rfl
theorem tbF_den : unpD tbF = dF := by rw [unpD_ok tbF_check]; kernel_rfl
theorem tbT_den : unpD tbT = dT := by rw [unpD_ok tbT_check]; kernel_rfl
theorem tb_names : unN dF dT = [[120]] := by kernel_rfl
theorem tb_opE : opE tbF tbT = 0 := opE_ok (by rw [tbF_check, tbT_check]; rfl) (by rw [tbF_den, tbT_den, tb_names]; decide)
theorem tb_opA : (opA tbF tbT).rows = [[1, 2], [2, 3], [2, 2], [4, 2], [4, 2]] ∧ (opA tbF tbT).accept = [false, false, false, false, true] ∧ (opA tbF tbT).tracks.length = 1 := by
  rw [(opA_ok tb_opE).1, tbF_den, tbT_den]
  exact ⟨by kernel_rfl, by kernel_rfl, by kernel_rfl⟩
theorem tb_opB : (opB tbF tbT).rows = [[1, 1], [1, 1]] ∧ (opB tbF tbT).accept = [false, true] := by
  rw [(opA_ok tb_opE).2, tbF_den, tbT_den]
  exact ⟨by kernel_rfl, by kernel_rfl⟩
theorem tb_one : ∀ (v : List Nat), (∀ x ∈ v, x < 2) → runN [[1, 1], [1, 1]] 1 v = 1
  | [], _ => rfl
  | a :: v, h => by
    have ha := h a (by simp)
    have : stepN [[1, 1], [1, 1]] 1 a = 1 := by
      have : a = 0 ∨ a = 1 := by omega
      rcases this with rfl | rfl <;> rfl
    show runN _ (stepN [[1, 1], [1, 1]] 1 a) v = 1
    rw [this]
    exact tb_one v fun x hx => h x (by simp [hx])
theorem tb_all (v : List Nat) (hne : v ≠ []) (h : ∀ x ∈ v, x < 2) : accN (opB tbF tbT).accept (runN (opB tbF tbT).rows 0 v) = true := by
  rw [tb_opB.1, tb_opB.2]
  cases v with
  | nil => exact absurd rfl hne
  | cons a v =>
    have ha := h a (by simp)
    have : stepN [[1, 1], [1, 1]] 0 a = 1 := by
      have : a = 0 ∨ a = 1 := by omega
      rcases this with rfl | rfl <;> rfl
    show accN _ (runN _ (stepN [[1, 1], [1, 1]] 0 a) v) = true
    rw [this, tb_one v fun x hx => h x (by simp [hx])]
    rfl
theorem tb_within : noneB qW tbF tbT = true := by
  rw [noneB_ok tb_opE, cmpO, firstO_eq (o := none) ?_]
  · rfl
  · intro v hne hv
    rw [tb_opA.2.2] at hv
    rw [askT_eq, tb_all v hne hv, qW]; simp
theorem tb_apart : apV tbF tbT = .tup [aSs .any [[120]], .sl .any 1 (iW [0]), .int .i64 0] := by
  have h : tellO qS tbF tbT = some [0] := by
    rw [tellO_ok tb_opE, cmpO]
    refine firstO_eq ⟨by simp, ?_, ?_, ?_⟩
    · rw [tb_opA.2.2]; simp
    · rw [askT_eq, tb_opA.1, tb_opA.2.1, tb_opB.1, tb_opB.2]; rfl
    · intro v hne _ _
      match v, hne with
      | [0], _ => exact .inr rfl
      | [a + 1], _ => exact .inl (.inr ⟨rfl, rfl⟩)
      | a :: b :: v, _ => exact .inl (.inl (by simp))
  rw [apV, if_pos tb_opE, h, tbF_den, tbT_den, tb_names]; rfl
theorem pack_ok {d : Den} (hd : DenOk d) (hl : d.next.length ≤ 1000) (ho : ∀ r ∈ d.rows, ∀ x ∈ r, okI x) (h6 : d.tracks.length ≤ 6) (h32 : ∀ r ∈ d.rows, (cubR d.tracks.length r 0 0).length ≤ 32) : AutOk (packA d) where
  tracks := hd.tracks
  names := hd.names
  accept := hd.accept
  starts := by show (packS d d.next.length).length * 8 ≤ _; rw [packS_length]; omega
  arena := by show (packC d d.next.length).length * 24 ≤ _; have := packC_len h32 d.next.length; omega
  cubes := by
    intro c hc
    obtain ⟨r, hr, hc⟩ := List.mem_flatMap.1 hc
    exact cubR_ok _ h6 r 0 0 (ho r (List.mem_of_mem_take hr)) (by omega) (by omega) c hc
theorem tbF_ok : AutOk tbF := pack_ok dF_ok (by decide) (by unfold okI; decide) (by decide) fun r _ => by
  have := (cubR_len dF.tracks.length r 0 0).1
  have e : 2 ^ dF.tracks.length = 2 := rfl
  omega
theorem tbT_ok : AutOk tbT := pack_ok dT_ok (by decide) (by unfold okI; decide) (by decide) fun r _ => by
  have := (cubR_len dT.tracks.length r 0 0).1
  have e : 2 ^ dT.tracks.length = 2 := rfl
  omega

end Tab

/- tabardlaw21: table, fixed, walked. -/
namespace Tab
open Go Go.Proofs
set_option maxRecDepth 10000
set_option linter.unusedVariables false
set_option linter.unusedSimpArgs false
set_option linter.unusedSectionVars false

theorem law21_tableF : Pure Try.prog 57 [.bool false] (aAut tbF) := by
  have hp := pk_F
  have e : aAut tbF = .agg [aSs tbF.tk tbF.tracks, aBs tbF.ak tbF.accept, aIs tbF.sk tbF.starts, aCs tbF.ck tbF.arena] := rfl
  have c1 := aSs_closed tbF.tk tbF.tracks
  have c2 := aBs_closed tbF.ak tbF.accept
  have c3 := aIs_closed tbF.sk tbF.starts
  have c4 := aCs_closed tbF.ck tbF.arena
  rw [e] at hp ⊢
  generalize aSs tbF.tk tbF.tracks = x1 at *
  generalize aBs tbF.ak tbF.accept = x2 at *
  generalize aIs tbF.sk tbF.starts = x3 at *
  generalize aCs tbF.ck tbF.arena = x4 at *
  refine Pure.of_sw 28 Try.func57 rfl Try.ntmps57 (by kernel_rfl) (Nat.le_of_ble_eq_true (by kernel_rfl)) (by simp [closeds, AV.closed]) (by simp [closeds, AV.closed, c1, c2, c3, c4]) ?_; refine SW.of_vc ?_
  repeat first | refine opsStep ?_ | refine codeStep ?_ | refine drawStep ?_
  refine optX_of (c := [.bool false, .bool false, .bool false, .bool false, .bool true]) (by kernel_rfl) ?_
  repeat first | refine opsStep ?_ | refine codeStep ?_ | refine drawStep ?_
  refine optX_of (c := [.int .i64 1, .int .i64 2]) (by kernel_rfl) ?_
  repeat first | refine opsStep ?_ | refine codeStep ?_ | refine drawStep ?_
  refine optX_of (c := [.int .i64 2, .int .i64 3]) (by kernel_rfl) ?_
  repeat first | refine opsStep ?_ | refine codeStep ?_ | refine drawStep ?_
  refine optX_of (c := [.int .i64 2, .int .i64 2]) (by kernel_rfl) ?_
  repeat first | refine opsStep ?_ | refine codeStep ?_ | refine drawStep ?_
  refine optX_of (c := [.int .i64 4, .int .i64 2]) (by kernel_rfl) ?_
  repeat first | refine opsStep ?_ | refine codeStep ?_ | refine drawStep ?_
  refine optX_of (c := [.int .i64 4, .int .i64 2]) (by kernel_rfl) ?_
  repeat first | refine opsStep ?_ | refine codeStep ?_ | refine drawStep ?_
  refine optX_of (c := [.hs 3 0 0 2 1, .hs 4 0 0 2 1, .hs 5 0 0 2 1, .hs 6 0 0 2 1, .hs 7 0 0 2 1]) (by kernel_rfl) ?_
  repeat first | refine opsStep ?_ | refine codeStep ?_ | refine drawStep ?_
  refine callF [1, 2, 3, 4, 5, 6, 7, 8] (hp.lend (H := [.cells 0 [.str [120]], .cells 0 [.bool false, .bool false, .bool false, .bool false, .bool true], .cells 0 [.int .i64 1, .int .i64 2], .cells 0 [.int .i64 2, .int .i64 3], .cells 0 [.int .i64 2, .int .i64 2], .cells 0 [.int .i64 4, .int .i64 2], .cells 0 [.int .i64 4, .int .i64 2], .cells 0 [.hs 2 0 0 2 1, .hs 3 0 0 2 1, .hs 4 0 0 2 1, .hs 5 0 0 2 1, .hs 6 0 0 2 1]]) («as» := [.agg [.hs 0 0 0 1 1, .hs 1 0 0 5 1, .hs 7 0 0 5 1]])
    (.cons (.agg (.cons (Rd.whole (g := 0) (by kernel_rfl) (by kernel_rfl)) (.cons (Rd.whole (g := 0) (by kernel_rfl) (by kernel_rfl)) (.cons (.hs (blk := .cells 0 [.hs 2 0 0 2 1, .hs 3 0 0 2 1, .hs 4 0 0 2 1, .hs 5 0 0 2 1, .hs 6 0 0 2 1]) (g := 0) (cs := [.hs 2 0 0 2 1, .hs 3 0 0 2 1, .hs 4 0 0 2 1, .hs 5 0 0 2 1, .hs 6 0 0 2 1]) (by kernel_rfl) (by kernel_rfl) (Nat.le_refl 5) (.cons (Rd.whole (g := 0) (by kernel_rfl) (by kernel_rfl)) (.cons (Rd.whole (g := 0) (by kernel_rfl) (by kernel_rfl)) (.cons (Rd.whole (g := 0) (by kernel_rfl) (by kernel_rfl)) (.cons (Rd.whole (g := 0) (by kernel_rfl) (by kernel_rfl)) (.cons (Rd.whole (g := 0) (by kernel_rfl) (by kernel_rfl)) .nil)))))) .nil)))) .nil)) (by decide) (by intro b hb; simp at hb; show b < 10; omega) rfl ?_ ?_ ?_ ?_ ?_
  · rfl
  · simp [bels, AV.bel]
  · simp [blksBel, Blk.bel, bels, AV.bel]
  · rfl
  · rintro o H' ⟨rfl, rfl⟩
    repeat first | refine opsStep ?_ | refine codeStep ?_ | refine drawStep ?_
    exact finV (v' := .agg [x1.rn (rnB [1, 2, 3, 4, 5, 6, 7, 8] 10), x2.rn (rnB [1, 2, 3, 4, 5, 6, 7, 8] 10), x3.rn (rnB [1, 2, 3, 4, 5, 6, 7, 8] 10), x4.rn (rnB [1, 2, 3, 4, 5, 6, 7, 8] 10)]) (by kernel_rfl) (by rw [AV.closed_rn _ c1, AV.closed_rn _ c2, AV.closed_rn _ c3, AV.closed_rn _ c4])

theorem law21_tableT : Pure Try.prog 57 [.bool true] (aAut tbT) := by
  have hp := pk_T
  have e : aAut tbT = .agg [aSs tbT.tk tbT.tracks, aBs tbT.ak tbT.accept, aIs tbT.sk tbT.starts, aCs tbT.ck tbT.arena] := rfl
  have c1 := aSs_closed tbT.tk tbT.tracks
  have c2 := aBs_closed tbT.ak tbT.accept
  have c3 := aIs_closed tbT.sk tbT.starts
  have c4 := aCs_closed tbT.ck tbT.arena
  rw [e] at hp ⊢
  generalize aSs tbT.tk tbT.tracks = x1 at *
  generalize aBs tbT.ak tbT.accept = x2 at *
  generalize aIs tbT.sk tbT.starts = x3 at *
  generalize aCs tbT.ck tbT.arena = x4 at *
  refine Pure.of_sw 28 Try.func57 rfl Try.ntmps57 (by kernel_rfl) (Nat.le_of_ble_eq_true (by kernel_rfl)) (by simp [closeds, AV.closed]) (by simp [closeds, AV.closed, c1, c2, c3, c4]) ?_; refine SW.of_vc ?_
  repeat first | refine opsStep ?_ | refine codeStep ?_ | refine drawStep ?_
  refine optX_of (c := [.bool false, .bool false, .bool false, .bool false, .bool true]) (by kernel_rfl) ?_
  repeat first | refine opsStep ?_ | refine codeStep ?_ | refine drawStep ?_
  refine optX_of (c := [.int .i64 1, .int .i64 2]) (by kernel_rfl) ?_
  repeat first | refine opsStep ?_ | refine codeStep ?_ | refine drawStep ?_
  refine optX_of (c := [.int .i64 2, .int .i64 3]) (by kernel_rfl) ?_
  repeat first | refine opsStep ?_ | refine codeStep ?_ | refine drawStep ?_
  refine optX_of (c := [.int .i64 2, .int .i64 2]) (by kernel_rfl) ?_
  repeat first | refine opsStep ?_ | refine codeStep ?_ | refine drawStep ?_
  refine optX_of (c := [.int .i64 4, .int .i64 2]) (by kernel_rfl) ?_
  repeat first | refine opsStep ?_ | refine codeStep ?_ | refine drawStep ?_
  refine optX_of (c := [.int .i64 4, .int .i64 2]) (by kernel_rfl) ?_
  repeat first | refine opsStep ?_ | refine codeStep ?_ | refine drawStep ?_
  refine optX_of (c := [.hs 3 0 0 2 1, .hs 4 0 0 2 1, .hs 5 0 0 2 1, .hs 6 0 0 2 1, .hs 7 0 0 2 1]) (by kernel_rfl) ?_
  repeat first | refine opsStep ?_ | refine codeStep ?_ | refine drawStep ?_
  refine optX_of (c := [.bool false, .bool true]) (by kernel_rfl) ?_
  repeat first | refine opsStep ?_ | refine codeStep ?_ | refine drawStep ?_
  refine optX_of (c := [.int .i64 1, .int .i64 1]) (by kernel_rfl) ?_
  repeat first | refine opsStep ?_ | refine codeStep ?_ | refine drawStep ?_
  refine optX_of (c := [.int .i64 1, .int .i64 1]) (by kernel_rfl) ?_
  repeat first | refine opsStep ?_ | refine codeStep ?_ | refine drawStep ?_
  refine optX_of (c := [.hs 12 0 0 2 1, .hs 13 0 0 2 1]) (by kernel_rfl) ?_
  repeat first | refine opsStep ?_ | refine codeStep ?_ | refine drawStep ?_
  refine callF [10, 11, 12, 13, 14] (hp.lend (H := [.cells 0 [.str [120]], .cells 0 [.bool false, .bool true], .cells 0 [.int .i64 1, .int .i64 1], .cells 0 [.int .i64 1, .int .i64 1], .cells 0 [.hs 2 0 0 2 1, .hs 3 0 0 2 1]]) («as» := [.agg [.hs 0 0 0 1 1, .hs 1 0 0 2 1, .hs 4 0 0 2 1]])
    (.cons (.agg (.cons (Rd.whole (g := 0) (by kernel_rfl) (by kernel_rfl)) (.cons (Rd.whole (g := 0) (by kernel_rfl) (by kernel_rfl)) (.cons (.hs (blk := .cells 0 [.hs 2 0 0 2 1, .hs 3 0 0 2 1]) (g := 0) (cs := [.hs 2 0 0 2 1, .hs 3 0 0 2 1]) (by kernel_rfl) (by kernel_rfl) (Nat.le_refl 2) (.cons (Rd.whole (g := 0) (by kernel_rfl) (by kernel_rfl)) (.cons (Rd.whole (g := 0) (by kernel_rfl) (by kernel_rfl)) .nil))) .nil)))) .nil)) (by decide) (by intro b hb; simp at hb; show b < 15; omega) rfl ?_ ?_ ?_ ?_ ?_
  · rfl
  · simp [bels, AV.bel]
  · simp [blksBel, Blk.bel, bels, AV.bel]
  · rfl
  · rintro o H' ⟨rfl, rfl⟩
    repeat first | refine opsStep ?_ | refine codeStep ?_ | refine drawStep ?_
    exact finV (v' := .agg [x1.rn (rnB [10, 11, 12, 13, 14] 15), x2.rn (rnB [10, 11, 12, 13, 14] 15), x3.rn (rnB [10, 11, 12, 13, 14] 15), x4.rn (rnB [10, 11, 12, 13, 14] 15)]) (by kernel_rfl) (by rw [AV.closed_rn _ c1, AV.closed_rn _ c2, AV.closed_rn _ c3, AV.closed_rn _ c4])

theorem law21_fixed : Pure Try.prog 22 [] (.bool true) := by
  have h1 := law21_tableF
  have h2 := law21_tableT
  have hw := cmp_Within tbF tbT tbF_ok tbT_ok
  have ha := cmp_Apart tbF tbT tbF_ok tbT_ok
  rw [tb_within, tb_opE] at hw
  rw [tb_apart] at ha
  generalize tbF = a at *
  generalize tbT = b at *
  refine Pure.of_sw 50 Try.func22 rfl Try.ntmps22 (by kernel_rfl) (Nat.le_of_ble_eq_true (by kernel_rfl)) (by simp [closeds, AV.closed, aSs_closed, aIs_closed, aBs_closed, aRs_closed, aDen_closed]) (by simp [AV.closed, closeds, aSs_closed, aIs_closed, aBs_closed, aRs_closed, aDen_closed]) ?_; refine SW.of_vc ?_
  repeat first | refine opsStep ?_ | refine codeStep ?_ | refine drawStep ?_
  refine callP h1 ?_
  repeat first | refine opsStep ?_ | refine codeStep ?_ | refine drawStep ?_
  refine callP h2 ?_
  repeat first | refine opsStep ?_ | refine codeStep ?_ | refine drawStep ?_
  refine callP hw ?_
  repeat first | refine opsStep ?_ | refine codeStep ?_ | refine drawStep ?_
  refine callP h1 ?_
  repeat first | refine opsStep ?_ | refine codeStep ?_ | refine drawStep ?_
  refine callP h2 ?_
  repeat first | refine opsStep ?_ | refine codeStep ?_ | refine drawStep ?_
  refine callP ha ?_
  repeat first | refine opsStep ?_ | refine codeStep ?_ | refine drawStep ?_
  exact finB (b' := true) (by kernel_rfl) rfl

end Tab

/- What Within and Same say, by words over any greater tracks: plain. -/
namespace Tab
open Go
set_option maxRecDepth 10000
set_option linter.unusedVariables false
set_option linter.unusedSimpArgs false
set_option linter.unusedSectionVars false

/-- What a table takes of words over greater tracks. -/
def extT (a : Aut) (T : List (List UInt8)) (y : List Nat) : Bool := lang (unpD a) (y.map fun x => gatN x (placesOf (unpD a).tracks T))
theorem gat_places {A U T : List (List UInt8)} (h1 : ∀ s ∈ A, s ∈ U) (x : Nat) : gatN (gatN x (placesOf U T)) (placesOf A U) = gatN x (placesOf A T) := by
  rw [gat_comp]
  · congr 1
    refine List.ext_getElem (by simp [placesOf]) fun i q1 q2 => ?_
    have hi : i < A.length := by simpa [placesOf] using q2
    have hm := List.idxOf_lt_length_of_mem (h1 _ (List.getElem_mem hi))
    simp only [placesOf, List.getElem_map, List.getD_eq_getElem?_getD, List.getElem?_map, List.getElem?_eq_getElem hm, Option.map_some, Option.getD_some]
    rw [List.getElem_idxOf hm]
  · intro b hb
    obtain ⟨s, hs, rfl⟩ := List.mem_map.1 hb
    simp only [placesOf, List.length_map]
    exact List.idxOf_lt_length_of_mem (h1 s hs)
theorem op_lang {a b : Aut} (h : opE a b = 0) {v : List Nat} (hv : Lets (unN (unpD a) (unpD b)).length v) : lang (opA a b) v = extT a (unN (unpD a) (unpD b)) v ∧ lang (opB a b) v = extT b (unN (unpD a) (unpD b)) v := by
  obtain ⟨_, _, w0, v0, _⟩ := op_made h
  have h1 := wid_lang w0 hv
  have h2 := wid_lang v0 hv
  rw [widenR_ok w0] at h1
  rw [widenR_ok v0] at h2
  rw [(opA_ok h).1, (opA_ok h).2]
  exact ⟨h1, h2⟩
theorem ask_lang {a b : Aut} (h : opE a b = 0) (q : Bool → Bool → Bool) {v : List Nat} (hv : Lets (unN (unpD a) (unpD b)).length v) : askT (opA a b) (opB a b) q v = q (extT a (unN (unpD a) (unpD b)) v) (extT b (unN (unpD a) (unpD b)) v) := by
  obtain ⟨_, _, _, _, _, _, t1, t2⟩ := op_made h
  obtain ⟨e1, e2⟩ := op_lang h hv
  rw [askT_eq, ← e1, ← e2, lang, lang, langR_let (by rw [t1]; exact hv), langR_let (by rw [t2]; exact hv)]
/-- The first word, or none: over the two tables' own tracks. -/
theorem cmpO_spec (d e : Den) (q : Bool → Bool → Bool) (hd : rightS d = true) (he : rightS e = true) (hk : d.tracks.length = e.tracks.length) : FirstW (2 ^ d.tracks.length) (askT d e q) (cmpO d e q) := by
  classical
  by_cases h : ∃ w, FirstW (2 ^ d.tracks.length) (askT d e q) (some w)
  · obtain ⟨w, hw⟩ := h
    rw [cmpO, firstO_eq hw]; exact hw
  · have hn : FirstW (2 ^ d.tracks.length) (askT d e q) none := by
      intro v h1 h2
      refine Bool.eq_false_iff.2 fun h3 => h ?_
      have key : ∀ (n : Nat) (v : List Nat), v.length = n → v ≠ [] → (∀ x ∈ v, x < 2 ^ d.tracks.length) → askT d e q v = true → ∃ w, FirstW (2 ^ d.tracks.length) (askT d e q) (some w) := by
        intro n
        induction n using Nat.strongRecOn with
        | _ n ih =>
          intro v hn hne hv ht
          by_cases hs : ∃ u, u.length < n ∧ u ≠ [] ∧ (∀ x ∈ u, x < 2 ^ d.tracks.length) ∧ askT d e q u = true
          · obtain ⟨u, u1, u2, u3, u4⟩ := hs
            exact ih u.length u1 u rfl u2 u3 u4
          · have hn0 : n ≠ 0 := by rw [← hn]; exact fun e => hne (List.length_eq_zero_iff.1 e)
            have lem : ∀ (m : Nat) (v : List Nat), v.length = n → (∀ x ∈ v, x < 2 ^ d.tracks.length) → askT d e q v = true → (v.foldl (fun s x => s * 2 ^ d.tracks.length + x) 0) = m → ∃ w, FirstW (2 ^ d.tracks.length) (askT d e q) (some w) := by
              intro m
              induction m using Nat.strongRecOn with
              | _ m ihm =>
                intro v hn hv ht hm
                by_cases hl : ∃ u, u.length = n ∧ (∀ x ∈ u, x < 2 ^ d.tracks.length) ∧ askT d e q u = true ∧ lexL u v = true
                · obtain ⟨u, u1, u2, u3, u4⟩ := hl
                  refine ihm _ ?_ u u1 u2 u3 rfl
                  rw [← hm]
                  have num : ∀ (u v : List Nat) (s t : Nat), u.length = v.length → (∀ x ∈ u, x < 2 ^ d.tracks.length) → (∀ x ∈ v, x < 2 ^ d.tracks.length) → s < t → u.foldl (fun s x => s * 2 ^ d.tracks.length + x) s < v.foldl (fun s x => s * 2 ^ d.tracks.length + x) t := by
                    intro u
                    induction u with
                    | nil => intro v s t hl _ _ hst; cases v with
                      | nil => exact hst
                      | cons _ _ => simp at hl
                    | cons a u ihu =>
                      intro v s t hl hu hv hst
                      cases v with
                      | nil => simp at hl
                      | cons b v =>
                        refine ihu v _ _ (by simpa using hl) (fun x hx => hu x (by simp [hx])) (fun x hx => hv x (by simp [hx])) ?_
                        have ha := hu a (by simp)
                        have : (s + 1) * 2 ^ d.tracks.length ≤ t * 2 ^ d.tracks.length := Nat.mul_le_mul_right _ hst
                        rw [Nat.add_mul, Nat.one_mul] at this
                        show s * 2 ^ d.tracks.length + a < t * 2 ^ d.tracks.length + b
                        omega
                  have num2 : ∀ (u v : List Nat) (s : Nat), u.length = v.length → (∀ x ∈ u, x < 2 ^ d.tracks.length) → (∀ x ∈ v, x < 2 ^ d.tracks.length) → lexL u v = true → u.foldl (fun s x => s * 2 ^ d.tracks.length + x) s < v.foldl (fun s x => s * 2 ^ d.tracks.length + x) s := by
                    intro u
                    induction u with
                    | nil => intro v s _ _ _ h; simp [lexL] at h
                    | cons a u ihu =>
                      intro v s hl hu hv h
                      cases v with
                      | nil => simp [lexL] at h
                      | cons b v =>
                        simp only [lexL, Bool.or_eq_true, Bool.and_eq_true, decide_eq_true_eq] at h
                        rcases h with h | ⟨rfl, h⟩
                        · exact num u v _ _ (by simpa using hl) (fun x hx => hu x (by simp [hx])) (fun x hx => hv x (by simp [hx])) (show s * 2 ^ d.tracks.length + a < s * 2 ^ d.tracks.length + b by omega)
                        · exact ihu v _ (by simpa using hl) (fun x hx => hu x (by simp [hx])) (fun x hx => hv x (by simp [hx])) h
                  exact num2 u v 0 (by omega) u2 hv u4
                · have hne : v ≠ [] := by
                    intro e0
                    subst e0
                    exact hn0 hn.symm
                  refine ⟨v, hne, hv, ht, fun u u1 u2 u3 => ?_⟩
                  refine sle_of_not fun hlt => ?_
                  rcases hlt with hlt | ⟨h1, h2⟩
                  · exact hs ⟨u, by omega, u1, u2, u3⟩
                  · exact hl ⟨u, by omega, u2, u3, h2⟩
            exact lem _ v hn hv ht rfl
      exact key _ v rfl h1 h2 h3
    rw [cmpO, firstO_eq hn]; exact hn

theorem none_iff {a b : Aut} {q : Bool → Bool → Bool} (h : opE a b = 0) : noneB q a b = true ↔ ∀ v, v ≠ [] → Lets (unN (unpD a) (unpD b)).length v → q (extT a (unN (unpD a) (unpD b)) v) (extT b (unN (unpD a) (unpD b)) v) = false := by
  obtain ⟨_, _, _, _, r1, r2, t1, t2⟩ := op_made h
  have hs := cmpO_spec (opA a b) (opB a b) q r1 r2 (by rw [t1, t2])
  rw [t1] at hs
  rw [noneB_ok h]
  cases ho : cmpO (opA a b) (opB a b) q with
  | none =>
    rw [ho] at hs
    exact ⟨fun _ v h1 h2 => by rw [← ask_lang h q h2]; exact hs v h1 h2, fun _ => rfl⟩
  | some w =>
    rw [ho] at hs
    obtain ⟨w1, w2, w3, _⟩ := hs
    refine ⟨fun h => by simp at h, fun hh => ?_⟩
    have := hh w w1 w2
    rw [← ask_lang h q w2, w3] at this
    simp at this
/-- Likewise over any greater tracks. -/
theorem none_over {a b : Aut} {q : Bool → Bool → Bool} (h : opE a b = 0) {T : List (List UInt8)} (hT : T.Nodup) (hs : ∀ s ∈ unN (unpD a) (unpD b), s ∈ T) : noneB q a b = true ↔ ∀ y, y ≠ [] → Lets T.length y → q (extT a T y) (extT b T y) = false := by
  rw [none_iff h]
  obtain ⟨i1, i2⟩ := unN_in (d := unpD a) (e := unpD b)
  have i1 := inAll_iff.1 i1
  have i2 := inAll_iff.1 i2
  have hUn : (unN (unpD a) (unpD b)).Nodup := strict_nodup (tog_strict _)
  generalize unN (unpD a) (unpD b) = U at *
  have hlen : (placesOf U T).length = U.length := by simp [placesOf]
  have hc : ∀ (x : Aut) (y : List Nat), (∀ s ∈ (unpD x).tracks, s ∈ U) → extT x U (y.map fun z => gatN z (placesOf U T)) = extT x T y := fun x y hx => by
    rw [extT, extT, List.map_map]
    congr 1
    exact List.map_congr_left fun z _ => gat_places hx z
  have hnd : (placesOf U T).Nodup := by
    refine List.pairwise_iff_getElem.2 fun i j hi hj hij e => ?_
    have hi' : i < U.length := by simpa [placesOf] using hi
    have hj' : j < U.length := by simpa [placesOf] using hj
    simp only [placesOf, List.getElem_map] at e
    have := idx_inj' (hs _ (List.getElem_mem hi')) (hs _ (List.getElem_mem hj')) e
    exact List.pairwise_iff_getElem.1 hUn i j hi' hj' hij this
  have hlt : ∀ p ∈ placesOf U T, p < T.length := by
    intro p hp
    obtain ⟨s, hs', rfl⟩ := List.mem_map.1 hp
    exact List.idxOf_lt_length_of_mem (hs s hs')
  constructor
  · intro hh y hy hyl
    have hv := lets_gat (n := T.length) (P := placesOf U T) y
    rw [hlen] at hv
    have := hh _ (by simpa using hy) hv
    rwa [hc a y i1, hc b y i2] at this
  · intro hh v hv hvl
    rw [← hlen] at hvl
    obtain ⟨y, y1, y2⟩ := gat_onto_word (n := T.length) hnd hlt v hvl
    have hy : y ≠ [] := by intro e; subst e; simp at y2; exact hv y2
    have := hh y hy y1
    rw [← hc a y i1, ← hc b y i2, y2] at this
    exact this

theorem within_self {a : Aut} (h : opE a a = 0) : noneB qW a a = true := (none_iff h).2 fun v _ _ => by rw [qW]; cases extT a (unN (unpD a) (unpD a)) v <;> rfl
theorem opE_self {a : Aut} (h : opE a a ≠ 0) : opE a a = 3 := by
  cases hc : checkS a with
  | false => exact opE_bad (by rw [hc]; rfl)
  | true =>
    obtain ⟨r, _, _⟩ := unpD_right hc
    obtain ⟨k6, hs, _, _⟩ := tracksS_parts (rightS_parts r).1
    have hu : unN (unpD a) (unpD a) = (unpD a).tracks := by
      rw [unN]; exact strict_eq (tog_strict _) (rises_strict hs) fun x => by rw [tog_mem, List.mem_append, or_self]
    exact absurd (opE_ok (a := a) (b := a) (by rw [hc]; rfl) (by rw [hu]; omega)) h
theorem within_trans {a b c : Aut} (h1 : opE a b = 0) (h2 : opE b c = 0) (h3 : opE a c = 0) (n1 : noneB qW a b = true) (n2 : noneB qW b c = true) : noneB qW a c = true := by
  obtain ⟨T, hT, hTn⟩ : ∃ T : List (List UInt8), T.Nodup ∧ ∀ s, s ∈ T ↔ s ∈ (unpD a).tracks ++ (unpD b).tracks ++ (unpD c).tracks :=
    ⟨togS ((unpD a).tracks ++ (unpD b).tracks ++ (unpD c).tracks), strict_nodup (tog_strict _), fun s => tog_mem _ s⟩
  have sub : ∀ {x y : Aut}, (∀ s ∈ (unpD x).tracks, s ∈ T) → (∀ s ∈ (unpD y).tracks, s ∈ T) → ∀ s ∈ unN (unpD x) (unpD y), s ∈ T := fun {x y} hx hy s hs => by
    rcases List.mem_append.1 ((tog_mem _ _).1 hs) with h | h
    · exact hx s h
    · exact hy s h
  have ta : ∀ s ∈ (unpD a).tracks, s ∈ T := fun s h => (hTn s).2 (by simp [h])
  have tb : ∀ s ∈ (unpD b).tracks, s ∈ T := fun s h => (hTn s).2 (by simp [h])
  have tc : ∀ s ∈ (unpD c).tracks, s ∈ T := fun s h => (hTn s).2 (by simp [h])
  have g1 := (none_over h1 hT (sub ta tb)).1 n1
  have g2 := (none_over h2 hT (sub tb tc)).1 n2
  refine (none_over h3 hT (sub ta tc)).2 fun y hy hyl => ?_
  have k1 := g1 y hy hyl
  have k2 := g2 y hy hyl
  revert k1 k2
  cases extT a T y <;> cases extT b T y <;> cases extT c T y <;> simp [qW]

end Tab

/- tabardref12.Copy; tabardlaw21.wide. -/
namespace Tab
open Go Go.Proofs
set_option maxRecDepth 10000
set_option linter.unusedVariables false
set_option linter.unusedSimpArgs false
set_option linter.unusedSectionVars false

def copyA (a : Aut) : Aut := ⟨.any, a.tracks, .any, a.accept, .any, a.starts, .any, a.arena⟩
theorem copyA_ok {a : Aut} (h : AutOk a) : AutOk (copyA a) := ⟨h.1, h.2, h.3, h.4, h.5, h.6⟩
theorem copyA_check (a : Aut) : checkS (copyA a) = checkS a := rfl
theorem copyA_unp (a : Aut) : unpD (copyA a) = unpD a ∧ unpE (copyA a) = unpE a := by
  constructor
  · rw [unpD, unpD]; rfl
  · rw [unpE, unpE]; rfl
set_option maxHeartbeats 1000000 in
theorem r12_Copy (a : Aut) (ha : AutOk a) : Pure Try.prog 11 [aAut a] (aAut (copyA a)) := by
  have d1 := ha.tracks
  have d2 := ha.accept
  have d3 := ha.starts
  have d4 := ha.arena
  have hcc := cc3_length a.arena
  refine Pure.of_read (by simp [closeds, aAut_closed]) (aAut_closed _) (R := fun o H' => o = .ret (.agg [.hs 2 1 0 a.tracks.length 1, .hs 3 1 0 a.accept.length 1, .hs 4 1 0 a.starts.length 1, .hs 5 1 0 a.arena.length 3]) ∧ ∃ b0 b1, H' = [b0, b1, .cells 1 (a.tracks.map .str), .cells 1 (a.accept.map .bool), .cells 1 (a.starts.map (.int .i64)), .cells 1 (cc3 a.arena)]) ?_ ?_
  rotate_left
  · rintro o H' ⟨rfl, b0, b1, rfl⟩
    exact ⟨_, rfl, .agg (.cons (Rd.whole rfl (by simp [copyA])) (.cons (Rd.whole rfl (by simp [copyA])) (.cons (Rd.whole rfl (by simp [copyA])) (.cons (Rd.whole rfl hcc.symm) .nil))))⟩
  refine ACall.of_sw 20 Try.func11 rfl Try.ntmps11 (by kernel_rfl) (Nat.le_of_ble_eq_true (by kernel_rfl)) ?_; refine SW.of_vc ?_
  repeat first | refine opsStep ?_ | refine codeStep ?_ | refine drawStep ?_
  refine SW.drawn rfl (by kernel_rfl) ?_
  repeat first | refine opsStep ?_ | refine codeStep ?_ | refine drawStep ?_
  refine guardE_of (by simp [Value.cells]) ?_
  refine guardE_of ⟨by omega, by show (0 + a.tracks.length) * 16 ≤ 140737488355328; omega⟩ ?_
  repeat first | refine opsStep ?_ | refine codeStep ?_ | refine drawStep ?_
  refine guardE_of (by simp [Value.cells]) ?_
  refine guardE_of ⟨by omega, by show (0 + a.accept.length) * 1 ≤ 140737488355328; omega⟩ ?_
  repeat first | refine opsStep ?_ | refine codeStep ?_ | refine drawStep ?_
  refine guardE_of (by simp [Value.cells]) ?_
  refine guardE_of ⟨by omega, by show (0 + a.starts.length) * 8 ≤ 140737488355328; omega⟩ ?_
  repeat first | refine opsStep ?_ | refine codeStep ?_ | refine drawStep ?_
  refine guardE_of (by show (cc3 a.arena).length = a.arena.length * 3; exact hcc) ?_
  refine guardE_of ⟨by omega, by show (0 + a.arena.length) * 24 ≤ 140737488355328; omega⟩ ?_
  repeat first | refine opsStep ?_ | refine codeStep ?_ | refine drawStep ?_
  refine ⟨by kernel_rfl, ?_⟩
  repeat first | refine opsStep ?_ | refine codeStep ?_ | refine drawStep ?_
  exact finR (l := [(2, .ref 1 0 0)]) (H₁ := [.cells 0 a.cells, .cells 0 [.hs 2 1 0 a.tracks.length 1, .hs 3 1 0 a.accept.length 1, .hs 4 1 0 a.starts.length 1, .hs 5 1 0 a.arena.length 3], .cells 1 (a.tracks.map .str), .cells 1 (a.accept.map .bool), .cells 1 (a.starts.map (.int .i64)), .cells 1 (cc3 a.arena)]) (v := .agg [.hs 2 1 0 a.tracks.length 1, .hs 3 1 0 a.accept.length 1, .hs 4 1 0 a.starts.length 1, .hs 5 1 0 a.arena.length 3]) ⟨(by kernel_rfl), trivial⟩ (Eq.trans (b := [.cells 0 a.cells, .cells 0 [.hs 2 1 0 (0 + a.tracks.length) 1, .hs 3 1 0 (0 + a.accept.length) 1, .hs 4 1 0 (0 + a.starts.length) 1, .hs 5 1 0 (0 + a.arena.length) 3], .cells 1 (a.tracks.map .str), .cells 1 (a.accept.map .bool), .cells 1 (a.starts.map (.int .i64)), .cells 1 (cc3 a.arena)]) (by kernel_rfl) (by simp only [Nat.zero_add])) (Ent.refl _ _ _) (by kernel_rfl) ⟨rfl, _, _, rfl⟩

theorem law21_wide (a : Aut) (names : List (List UInt8)) (ha : AutOk a) (hc : checkS a = true) (hns : ∀ s ∈ names, s.length ≤ 140737488351232) (hn : names.length ≤ 6) (hw0 : widenE (unpD a) names = 0) :
    Pure Try.prog 27 [aAut a, aSs .any names] (.tup [aDen (widenD (unpD a) names), .bool true]) := by
  have hcp := r12_Copy a ha
  have hu := table_Unpack (copyA a) (copyA_ok ha)
  obtain ⟨e1, e2⟩ := copyA_unp a
  rw [e1, e2, unpE_zero.2 hc] at hu
  have hwd := track_Widen_pure .any (unpD a) names (unpD_den ha) (by omega) hns
  rw [widenR_ok hw0, hw0] at hwd
  have hok := widenD_den (unpD_den ha) (by omega) hns hw0
  have hR := r12_Right (widenD (unpD a) names) hok
  obtain ⟨hr, h2, h3, h4⟩ := widenE_of_ok hw0
  rw [widenD_right hr h3 h2] at hR
  have ht : (widenD (unpD a) names).tracks = names := rfl
  generalize widenD (unpD a) names = w at *
  generalize unpD a = d at *
  generalize copyA a = c at *
  rw [sl0] at hwd
  refine Pure.of_sw 41 Try.func27 rfl Try.ntmps27 (by kernel_rfl) (Nat.le_of_ble_eq_true (by kernel_rfl)) (by simp [closeds, AV.closed, aSs_closed, aIs_closed, aBs_closed, aRs_closed, aDen_closed, aCs_closed, aAut_closed]) (by simp [AV.closed, closeds, aSs_closed, aIs_closed, aBs_closed, aRs_closed, aDen_closed, aCs_closed, aAut_closed]) ?_; refine SW.of_vc ?_
  repeat first | refine opsStep ?_ | refine codeStep ?_ | refine drawStep ?_
  refine callP hcp ?_
  repeat first | refine opsStep ?_ | refine codeStep ?_ | refine drawStep ?_
  refine callP hu ?_
  repeat first | refine opsStep ?_ | refine codeStep ?_ | refine drawStep ?_
  refine SW.drawn rfl (by kernel_rfl) ?_
  iterate 3 refine drawStep ?_
  refine drawFrz ?_
  refine guardE_of (by simp [Value.cells]) ?_
  refine guardE_of ⟨by omega, by show (0 + names.length) * 16 ≤ 140737488355328; omega⟩ ?_
  refine ⟨rfl, rfl, (by show (0 + names.length) * 1 = (names.map AV.str).length; simp), ?_⟩
  repeat first | refine opsStep ?_ | refine codeStep ?_ | refine drawStep ?_
  refine .inl ⟨_, _, [], hwd, RdsN_refl _, .inr rfl, none_need, ?_⟩
  repeat first | refine opsStep ?_ | refine codeStep ?_ | refine drawStep ?_
  refine ⟨by kernel_rfl, ?_⟩
  refine VCode.ent (Ent.fr' (l := [(1, aSs .any names), (4, .ref 1 0 0), (7, .int .i64 0), (8, .ref 4 0 0)]) (H' := [.cells 0 a.cells, .cells 0 den0.cells, .cells 0 d.cells, .fro 1 (names.map .str), .cells 0 w.cells]) ⟨(by kernel_rfl), (by kernel_rfl), (by kernel_rfl), (by kernel_rfl), trivial⟩ (by kernel_rfl)) ?_
  repeat first | refine opsStep ?_ | refine codeStep ?_ | refine drawStep ?_
  refine SW.drawn rfl (by kernel_rfl) ?_
  repeat first | refine opsStep ?_ | refine codeStep ?_ | refine drawStep ?_
  refine .inl ⟨_, _, [], hR, RdsN_refl _, .inr rfl, none_need, ?_⟩
  repeat first | refine opsStep ?_ | refine codeStep ?_ | refine drawStep ?_
  refine ⟨by kernel_rfl, ?_⟩
  repeat first | refine opsStep ?_ | refine codeStep ?_ | refine drawStep ?_
  exact finV (v' := .tup [aDen w, .bool (decide ((w.tracks.length : Int) = (names.length : Int)))]) (by kernel_rfl) (by rw [ht]; simp)

end Tab
