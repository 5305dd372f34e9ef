/- Lemmas for this claim: part 14. No condition. -/
import Derived.Test.YtgadapklmphliaaZ0
import Derived.Test.YtgadapklmphliaaZ9
import Derived.Test.YtgadapklmphliaaZ11
import Derived.Test.YtgadapklmphliaaZ13
/- canon.Minimal. -/
namespace Tab
open Go Go.Proofs
set_option maxRecDepth 10000
set_option linter.unusedVariables false
set_option linter.unusedSimpArgs false
set_option linter.unusedSectionVars false

def lstN (d : Den) (q : Nat) : Nat := ((lstD d).getD q 0).toNat
theorem lst_cast {d : Den} {q : Nat} (h : q < (clsD d).length) : (lstD d).getD q 0 = (lstN d q : Int) ∧ lstN d q < (clsD d).length := by
  have e : (lstD d).getD q 0 = ((clsD d).idxOf (clsD d)[q] : Int) := by simp [lstD, List.getD_eq_getElem?_getD, h]
  have := List.idxOf_lt_length_of_mem (List.getElem_mem h)
  constructor
  · rw [lstN, e]; simp
  · rw [lstN, e]; simpa using this
/-- Where a state leads, letter by letter, in classes. -/
def minF (d : Den) (q : Nat) : List Nat := (List.range (2 ^ d.tracks.length)).map fun a => lstN d (stepN d.rows q a)
theorem minF_length (d q) : (minF d q).length = 2 ^ d.tracks.length := by simp [minF]
def minR (d : Den) : List Nat := expl (minF d) 300 0 [0]
def minD (d : Den) : Den := ⟨.any, d.tracks, .any, (minR d).map (accN d.accept), .any, (minR d).map fun q => (.any, rowX (minF d) (minR d) q)⟩

def numL (n : Nat) (L : List Nat) : List Int := (List.range n).map fun j => if j ∈ L then (L.idxOf j : Int) else -1
theorem numL_length (n L) : (numL n L).length = n := by simp [numL]
theorem numL_get {n L j} (h : j < n) : (numL n L)[j]'(by rw [numL_length]; exact h) = if j ∈ L then (L.idxOf j : Int) else -1 := by simp [numL]
theorem numL_set {n : Nat} {L : List Nat} {x : Nat} (hx : x ∉ L) : (numL n L).set x (L.length : Int) = numL n (L ++ [x]) := by
  refine List.ext_getElem (by simp [numL]) fun j h1 h2 => ?_
  simp only [numL, List.getElem_set, List.getElem_map, List.getElem_range, List.mem_append, List.mem_singleton, List.idxOf_append]
  by_cases e : x = j
  · subst e; simp [hx]
  · have e' : ¬ j = x := fun k => e k.symm
    rw [if_neg e]
    by_cases hj : j ∈ L
    · simp [hj]
    · simp [hj, e']
theorem numL_nil (n : Nat) : numL n [] = List.replicate n (-1) := by
  refine List.ext_getElem (by simp [numL]) fun j h1 h2 => ?_
  simp [numL]

set_option maxHeartbeats 1000000 in
theorem canon_Minimal (d : Den) (hd : DenOk d) (hr : rightS d = true) : Pure Try.prog 32 [aDen d] (.tup [aDen (minD d), .int .i64 0]) := by
  have hC := canon_Classes d hd hr
  have hll := lstD_length hr
  have hcl := (clsD_ner hr).len
  have hpos := right_pos hr
  have h256 := (tracksS_parts (rightS_parts hr).1).2.2.2
  have hk6 := (tracksS_parts (rightS_parts hr).1).1
  have hK : 2 ^ d.tracks.length ≤ 64 := by have : 2 ^ d.tracks.length ≤ 2 ^ 6 := Nat.pow_le_pow_right (by omega) hk6; omega
  have h1 := hd.tracks
  have hlc := fun q (h : q < d.accept.length) => lst_cast (d := d) (q := q) (by omega)
  have hfl := fun q => minF_length d q
  have hfq := fun (q a : Nat) (hq : q < d.accept.length) (ha : a < 2 ^ d.tracks.length) => show (minF d q).getD a 0 = lstN d (stepN d.rows q a) by
    rw [List.getD_eq_getElem?_getD, minF, List.getElem?_map, List.getElem?_range ha]; rfl
  refine Pure.of_read (by simp [closeds, aDen_closed]) (by simp [AV.closed, closeds, aDen_closed])
    (R := fun o H' => o = .ret (.tup [.agg [aSs .any d.tracks, .hs 5 (minR d).length 0 (minR d).length 1, .hs 6 (minR d).length 0 (minR d).length 1], .int .i64 0]) ∧
      ∃ b0 b1 b2 b3 b4, H' = [b0, b1, b2, b3, b4, .cells (minR d).length (((minR d).map (accN d.accept)).map .bool), .cells (minR d).length (((minR d).map (rowX (minF d) (minR d))).map (aIs .any))]) ?_ ?_
  rotate_left
  · rintro o H' ⟨rfl, b0, b1, b2, b3, b4, rfl⟩
    refine ⟨_, rfl, .tup (.cons (.agg (.cons (.refl _) (.cons ?_ (.cons ?_ .nil)))) (.cons (.refl _) .nil))⟩
    · show Rd _ _ (aBs .any ((minR d).map (accN d.accept)))
      rw [aBs, List.length_map]
      exact Rd.whole rfl (by simp)
    · have e : aRs .any (minD d).next = .sl .any (minR d).length (((minR d).map (rowX (minF d) (minR d))).map (aIs .any)) := by simp [aRs, minD, Function.comp_def]
      show Rd _ _ (aRs .any (minD d).next)
      rw [e]
      exact Rd.whole rfl (by simp)
  have hRe : expl (minF d) (300 - 0) 0 [0] = minR d := rfl
  generalize minR d = R at *
  refine ACall.of_sw 114 Try.func32 rfl Try.ntmps32 (by kernel_rfl) (Nat.le_of_ble_eq_true (by kernel_rfl)) ?_; refine SW.of_vc ?_
  repeat first | refine opsStep ?_ | refine codeStep ?_ | refine drawStep ?_
  refine callP hC ?_
  repeat first | refine opsStep ?_ | refine codeStep ?_ | refine drawStep ?_
  refine guardE_of ⟨by omega, by omega, by show (8 : Int) * ((lstD d).length : Int) ≤ 281474976710656; omega, by omega⟩ ?_
  repeat first | refine opsStep ?_ | refine codeStep ?_ | refine drawStep ?_
  refine loopE_of (ι := {q : Nat // q ≤ d.accept.length})
    (fun q => (fr [(1, .ref 0 0 0), (2, .ref 1 0 0), (4, aIs .any (lstD d)), (6, .hs 2 0 0 d.accept.length 1), (28, .int .i64 d.accept.length), (29, .int .i64 q.1)], [Blk.cells 0 d.cells, .cells 0 [.sl .nil 0 [], .sl .nil 0 [], .sl .nil 0 []], Blk.cells 0 ((partL (fun _ => -1) d.accept.length q.1).map (.int .i64))]))
    (fun q => d.accept.length - q.1) ⟨0, by omega⟩ (Ent.fr' ⟨(by kernel_rfl), (by kernel_rfl), (by kernel_rfl), ?_, ?_, (by kernel_rfl), trivial⟩ ?_) ?_
  · rw [← hll]; kernel_rfl
  · rw [← hll]; kernel_rfl
  · refine Eq.trans (b := [Blk.cells 0 d.cells, .cells 0 [.sl .nil 0 [], .sl .nil 0 [], .sl .nil 0 []], Blk.cells 0 (reps [.int .i64 0] (lstD d).length)]) (by kernel_rfl) ?_
    rw [reps_one, partL_zero, hll]; simp
  rintro ⟨q, hq⟩
  have hpl := partL_length (fun _ => -1) d.accept.length q
  repeat first | refine opsStep ?_ | refine codeStep ?_ | refine drawStep ?_
  refine decB_dec (fun h => ?_) (fun h => ?_)
  · have hqn : q < d.accept.length := by have := h; simp at this; omega
    repeat first | refine opsStep ?_ | refine codeStep ?_ | refine drawStep ?_
    refine guardE_of (by simp; omega) ?_
    repeat first | refine opsStep ?_ | refine codeStep ?_ | refine drawStep ?_
    refine guardE_of ⟨rfl, by decide, by show 0 + q * 1 + 1 ≤ ((partL (fun _ => -1) d.accept.length q).map (AV.int .i64)).length; rw [List.length_map, hpl]; omega⟩ ?_
    repeat first | refine opsStep ?_ | refine codeStep ?_ | refine drawStep ?_
    refine ⟨⟨q + 1, by omega⟩, (by show d.accept.length - (q + 1) < d.accept.length - q; omega), Ent.fr' ⟨(by kernel_rfl), (by kernel_rfl), (by kernel_rfl), (by kernel_rfl), (by kernel_rfl), inc_slot (i := q) (by omega), trivial⟩ ?_⟩
    refine Eq.trans (b := [Blk.cells 0 d.cells, .cells 0 [.sl .nil 0 [], .sl .nil 0 [], .sl .nil 0 []], Blk.cells 0 (over ((partL (fun _ => -1) d.accept.length q).map (AV.int .i64)) (0 + q * 1) [.int .i64 (-1)])]) (by kernel_rfl) ?_
    rw [Nat.zero_add, Nat.mul_one, over_one (by rw [List.length_map, hpl]; omega)]
    show _ = [Blk.cells 0 d.cells, .cells 0 [.sl .nil 0 [], .sl .nil 0 [], .sl .nil 0 []], Blk.cells 0 ((partL (fun _ => -1) d.accept.length (q + 1)).map (.int .i64))]
    rw [← partL_step, List.map_set]
  have hqn : q = d.accept.length := by have := h; simp at this; omega
  subst hqn
  have e0 : partL (fun _ => -1) d.accept.length d.accept.length = numL d.accept.length [] := by
    rw [partL_full, numL_nil]; exact List.ext_getElem (by simp) (by simp)
  rw [e0]
  repeat first | refine opsStep ?_ | refine codeStep ?_ | refine drawStep ?_
  refine guardE_of (by simp; omega) ?_
  repeat first | refine opsStep ?_ | refine codeStep ?_ | refine drawStep ?_
  refine guardE_of ⟨rfl, by decide, by show 0 + 0 * 1 + 1 ≤ ((numL d.accept.length []).map (AV.int .i64)).length; rw [List.length_map, numL_length]; omega⟩ ?_
  repeat first | refine opsStep ?_ | refine codeStep ?_ | refine drawStep ?_
  refine callP (slices_Clone_S d.tk d.tracks (by omega)) ?_
  repeat first | refine opsStep ?_ | refine codeStep ?_ | refine drawStep ?_
  refine loopE_of (ι := {x : Nat × List Nat × Nat // x.1 ≤ x.2.1.length ∧ expl (minF d) (300 - x.1) x.1 x.2.1 = R ∧ x.2.1.Nodup ∧ (∀ y ∈ x.2.1, y < d.accept.length) ∧ (∀ j, j < x.1 → ∀ s, x.2.1[j]? = some s → ∀ t ∈ minF d s, t ∈ x.2.1)})
    (fun x => (fr [(1, .ref 0 0 0), (2, .ref 1 0 0), (4, aIs .any (lstD d)), (6, .hs 2 0 0 d.accept.length 1), (8, .hs 3 (x.1.2.2) 0 (x.1.2.1).length 1), (9, .ref 4 0 0), (10, .int .i64 (x.1.1))], [Blk.cells 0 d.cells, .cells 0 [.sl .nil 0 [], .sl .nil 0 [], .sl .nil 0 []], .cells 0 (((numL d.accept.length x.1.2.1)).map (.int .i64)), .cells (x.1.2.2) ((x.1.2.1).map fun x : Nat => .int .i64 (x : Int)), .cells 0 [aSs .any d.tracks, .hs 5 (x.1.1) 0 (x.1.1) 1, .hs 6 (x.1.1) 0 (x.1.1) 1], .cells (x.1.1) ((((x.1.2.1.take x.1.1).map (accN d.accept))).map .bool), .cells (x.1.1) ((((x.1.2.1.take x.1.1).map (rowX (minF d) x.1.2.1))).map (aIs .any))]))
    (fun x => 300 - x.1.1) ⟨(0, [0], 0), by simp, hRe, by simp, by simpa using hpos, by simp⟩
    (((Ent.fr' (l := [(1, .ref 0 0 0), (2, .ref 1 0 0), (4, aIs .any (lstD d)), (6, .hs 2 0 0 d.accept.length 1), (8, .hs 3 (0) 0 ([0]).length 1), (9, .ref 4 0 0), (10, .int .i64 ((0 : Nat)))])
      (H' := [.cells 0 d.cells, .cells 0 [.sl .nil 0 [], .sl .nil 0 [], .sl .nil 0 []], .cells 0 ((numL d.accept.length [0]).map (.int .i64)), .cells 0 [.int .i64 (0 : Nat)], .cells 0 [aSs .any d.tracks, .sl .nil 0 [], .sl .nil 0 []]]) ⟨(by kernel_rfl), (by kernel_rfl), (by kernel_rfl), (by kernel_rfl), (by kernel_rfl), (by kernel_rfl), (by kernel_rfl), trivial⟩ ?_).trans (Ent.nilCell 4 1 1 rfl rfl)).trans (Ent.nilCell 4 2 1 rfl rfl) |>.to rfl) ?_
  · refine Eq.trans (b := [.cells 0 d.cells, .cells 0 [.sl .nil 0 [], .sl .nil 0 [], .sl .nil 0 []], .cells 0 (over ((numL d.accept.length []).map (AV.int .i64)) (0 + 0 * 1) [.int .i64 0]), .cells 0 [.int .i64 (0 : Nat)], .cells 0 [aSs .any d.tracks, .sl .nil 0 [], .sl .nil 0 []]]) (by kernel_rfl) ?_
    rw [Nat.zero_add, Nat.mul_one, over_one (by rw [List.length_map, numL_length]; omega)]
    have := numL_set (n := d.accept.length) (L := []) (x := 0) (by simp)
    rw [show [0] = [] ++ [0] from rfl, ← this, List.map_set]
    rfl
  rintro ⟨⟨i, L, g⟩, hi, hex, hnd, hlt, hcz⟩
  simp only at hi hex hnd hlt hcz
  have hLn := nodup_le hnd hlt
  repeat first | refine opsStep ?_ | refine codeStep ?_ | refine drawStep ?_
  refine decB_dec (fun h => ?_) (fun h => ?_)
  · have hiL : i < L.length := by have := h; simp at this; omega
    obtain ⟨q, hqe⟩ : ∃ q, L[i] = q := ⟨_, rfl⟩
    have hqn : q < d.accept.length := hqe ▸ hlt _ (List.getElem_mem hiL)
    have hgq : L[i]? = some q := by rw [List.getElem?_eq_getElem hiL, hqe]
    obtain ⟨_, hnx, hrows⟩ := rightS_parts hr
    have hqx : q < d.next.length := by omega
    obtain ⟨l1, l2⟩ := rowOk_parts (hrows _ (List.getElem_mem hqx))
    have hst := fun a (ha : a < 2 ^ d.tracks.length) => stepN_ok hr hqn ha
    have hrowq : d.next[q]? = some d.next[q] := List.getElem?_eq_getElem hqx
    rw [show 300 - i = (300 - (i + 1)) + 1 by omega, expl_some hgq] at hex
    have hacc : d.accept[q]? = some (accN d.accept q) := by simp [accN, List.getD_eq_getElem?_getD, hqn]
    have haccn : (L.take (i + 1)).map (accN d.accept) = (L.take i).map (accN d.accept) ++ [accN d.accept q] := by
      rw [List.take_succ_eq_append_getElem hiL, List.map_append, hqe]; rfl
    have hrown : (L.take (i + 1)).map (rowX (minF d) (metL L (minF d q))) = (L.take i).map (rowX (minF d) L) ++ [rowX (minF d) (metL L (minF d q)) q] := by
      rw [List.take_succ_eq_append_getElem hiL, List.map_append, hqe]
      congr 1
      refine List.map_congr_left fun s hs => ?_
      obtain ⟨j, hj, rfl⟩ := List.getElem_of_mem hs
      have hji : j < i := by simp at hj; omega
      obtain ⟨r, hrr⟩ := metL_prefix (minF d q) L
      rw [hrr]
      exact rowX_grow (hcz j hji _ (by simp [List.getElem?_eq_getElem (show j < L.length by omega)]))
    have hall : (List.range (2 ^ d.tracks.length)).map (fun j => ((metL L (minF d q)).idxOf ((minF d q).getD j 0) : Int)) = rowX (minF d) (metL L (minF d q)) q := by
      rw [rowX]
      refine List.ext_getElem (by simp [hfl]) fun j h1 h2 => ?_
      have : j < (minF d q).length := by simpa using h2
      simp [List.getD_eq_getElem?_getD, this]
    have hal : ((L.take i).map (accN d.accept)).length = i := by simp; omega
    have hrwl : ((L.take i).map (rowX (minF d) L)).length = i := by simp; omega
    generalize (L.take i).map (accN d.accept) = acs at *
    generalize (L.take i).map (rowX (minF d) L) = rws at *
    generalize hre : d.next[q] = r at *
    obtain ⟨rk, rl⟩ := r
    simp only at l1 l2 hst
    repeat first | refine opsStep ?_ | refine codeStep ?_ | refine drawStep ?_
    refine guardE_of (by simp; omega) ?_
    repeat first | refine opsStep ?_ | refine codeStep ?_ | refine drawStep ?_
    refine guardE_of rfl ?_
    refine optE_of rfl ?_
    refine optE_of (c := .int .i64 (q : Nat)) (by simp [Value.cells, hgq]) ?_
    repeat first | refine opsStep ?_ | refine codeStep ?_ | refine drawStep ?_
    refine guardE_of (by simp; omega) ?_
    repeat first | refine opsStep ?_ | refine codeStep ?_ | refine drawStep ?_
    refine optE_of (c := aIs rk rl) (by simp [Value.cells, hrowq]) ?_
    repeat first | refine opsStep ?_ | refine codeStep ?_ | refine drawStep ?_
    refine guardE_of ⟨by omega, by omega, by show (8 : Int) * (rl.length : Int) ≤ 281474976710656; omega, by omega⟩ ?_
    repeat first | refine opsStep ?_ | refine codeStep ?_ | refine drawStep ?_
    refine guardE_of (by simp; omega) ?_
    repeat first | refine opsStep ?_ | refine codeStep ?_ | refine drawStep ?_
    refine optE_of (c := aIs rk rl) (by simp [Value.cells, hrowq]) ?_
    repeat first | refine opsStep ?_ | refine codeStep ?_ | refine drawStep ?_
    refine loopE_of (ι := {y : Nat × Nat // y.1 ≤ rl.length})
      (fun y => (fr [(1, .ref 0 0 0), (2, .ref 1 0 0), (4, aIs .any (lstD d)), (6, .hs 2 0 0 d.accept.length 1), (8, .hs 3 (y.1.2) 0 ((metL L ((minF d q).take y.1.1))).length 1), (9, .ref 4 0 0), (10, .int .i64 (i)), (11, .int .i64 (q : Nat)), (12, .hs 7 0 0 rl.length 1), (64, aIs rk rl), (65, .int .i64 rl.length), (66, .int .i64 y.1.1)],
        [Blk.cells 0 d.cells, .cells 0 [.sl .nil 0 [], .sl .nil 0 [], .sl .nil 0 []], .cells 0 (((numL d.accept.length (metL L ((minF d q).take y.1.1)))).map (.int .i64)), .cells (y.1.2) (((metL L ((minF d q).take y.1.1))).map fun x : Nat => .int .i64 (x : Int)), .cells 0 [aSs .any d.tracks, .hs 5 (i) 0 (i) 1, .hs 6 (i) 0 (i) 1], .cells (i) ((acs).map .bool), .cells (i) ((rws).map (aIs .any))] ++ [.cells 0 ((partL (fun j => ((metL L (minF d q)).idxOf ((minF d q).getD j 0) : Int)) rl.length y.1.1).map (.int .i64))]))
      (fun y => rl.length - y.1.1) ⟨(0, g), by simp⟩ (Ent.fr' ⟨(by kernel_rfl), (by kernel_rfl), (by kernel_rfl), (by kernel_rfl), (by kernel_rfl), (by kernel_rfl), (by kernel_rfl), (by kernel_rfl), (by kernel_rfl), (by kernel_rfl), (by kernel_rfl), (by kernel_rfl), trivial⟩ ?_) ?_
    · refine Eq.trans (b := [Blk.cells 0 d.cells, .cells 0 [.sl .nil 0 [], .sl .nil 0 [], .sl .nil 0 []], .cells 0 (((numL d.accept.length L)).map (.int .i64)), .cells (g) ((L).map fun x : Nat => .int .i64 (x : Int)), .cells 0 [aSs .any d.tracks, .hs 5 (i) 0 (i) 1, .hs 6 (i) 0 (i) 1], .cells (i) ((acs).map .bool), .cells (i) ((rws).map (aIs .any))] ++ [.cells 0 (reps [.int .i64 0] rl.length)]) (by kernel_rfl) ?_
      rw [reps_one, partL_zero]; simp [metL]
    rintro ⟨⟨a, g⟩, ha⟩
    have ha : a ≤ rl.length := ha
    have hpl := partL_length (fun j => ((metL L (minF d q)).idxOf ((minF d q).getD j 0) : Int)) rl.length a
    have hLa : ∀ y ∈ metL L ((minF d q).take a), y < d.accept.length := fun y hy => by
      rcases (metL_mem _ _ _).1 hy with hy | hy
      · exact hlt y hy
      · obtain ⟨b, hb, rfl⟩ := List.mem_map.1 (List.mem_of_mem_take hy)
        have hb := List.mem_range.1 hb
        have := (hlc _ (hst b hb).2.2.2).2
        omega
    have hLan := metL_nodup ((minF d q).take a) L hnd
    have hLal := nodup_le hLan hLa
    refine VCode.ent (Ent.fr' (l := [(1, .ref 0 0 0), (2, .ref 1 0 0), (4, aIs .any (lstD d)), (6, .hs 2 0 0 d.accept.length 1), (8, .hs 3 (g) 0 ((metL L ((minF d q).take a))).length 1), (9, .ref 4 0 0), (10, .int .i64 (i)), (11, .int .i64 (q : Nat)), (12, .hs 7 0 0 rl.length 1), (64, aIs rk rl), (65, .int .i64 rl.length), (66, .int .i64 (a : Nat))])
        (H' := [Blk.cells 0 d.cells, .cells 0 [.sl .nil 0 [], .sl .nil 0 [], .sl .nil 0 []], .cells 0 (((numL d.accept.length (metL L ((minF d q).take a)))).map (.int .i64)), .cells (g) (((metL L ((minF d q).take a))).map fun x : Nat => .int .i64 (x : Int)), .cells 0 [aSs .any d.tracks, .hs 5 (i) 0 (i) 1, .hs 6 (i) 0 (i) 1], .cells (i) ((acs).map .bool), .cells (i) ((rws).map (aIs .any))] ++ [.cells 0 ((partL (fun j => ((metL L (minF d q)).idxOf ((minF d q).getD j 0) : Int)) rl.length (a)).map (.int .i64))]) ⟨(by kernel_rfl), (by kernel_rfl), (by kernel_rfl), (by kernel_rfl), (by kernel_rfl), (by kernel_rfl), (by kernel_rfl), (by kernel_rfl), (by kernel_rfl), (by kernel_rfl), (by kernel_rfl), (by kernel_rfl), trivial⟩ (by kernel_rfl)) ?_
    repeat first | refine opsStep ?_ | refine codeStep ?_ | refine drawStep ?_
    refine decB_dec (fun hg => ?_) (fun hg => ?_)
    · have hal : a < rl.length := by have := hg; simp at this; omega
      have haK : a < 2 ^ d.tracks.length := by omega
      obtain ⟨s1, s2, s3, s4⟩ := hst a haK
      obtain ⟨c1, c2⟩ := hlc _ s4
      have s3 : rl[a] = (stepN d.rows q a : Int) := by
        have : (d.next[q]).2[a]? = some (stepN d.rows q a : Int) := by rw [List.getElem?_eq_getElem s2, s3]
        rw [hre] at this
        exact (List.getElem?_eq_some_iff.1 this).2
      have hfa : a < (minF d q).length := by rw [hfl]; exact haK
      have hfe : (minF d q)[a] = lstN d (stepN d.rows q a) := by
        have := hfq q a hqn haK
        simpa [List.getD_eq_getElem?_getD, hfa] using this
      have hit := metL_at_hit (acc := L) hfa
      have miss := metL_at_miss (acc := L) hfa
      have hgd : (minF d q).getD a 0 = lstN d (stepN d.rows q a) := hfq q a hqn haK
      rw [hfe] at hit miss
      simp only [ixOf] at hit miss
      rw [hcl] at c2
      generalize hMe : metL L ((minF d q).take a) = M at *
      generalize stepN d.rows q a = to at *
      generalize lstN d to = tl at *
      have hng := numL_get (n := d.accept.length) (L := M) c2
      repeat first | refine opsStep ?_ | refine codeStep ?_ | refine drawStep ?_
      refine guardE_of (by simp; omega) ?_
      repeat first | refine opsStep ?_ | refine codeStep ?_ | refine drawStep ?_
      refine optE_of (c := .int .i64 (to : Nat)) (by simp [Value.cells, hal, s3]) ?_
      repeat first | refine opsStep ?_ | refine codeStep ?_ | refine drawStep ?_
      refine guardE_of (by simp; omega) ?_
      repeat first | refine opsStep ?_ | refine codeStep ?_ | refine drawStep ?_
      refine optE_of (c := .int .i64 (tl : Nat)) (by simp [Value.cells, ← c1, List.getD_eq_getElem?_getD, show to < (lstD d).length by omega]) ?_
      repeat first | refine opsStep ?_ | refine codeStep ?_ | refine drawStep ?_
      refine guardE_of (by simp; omega) ?_
      repeat first | refine opsStep ?_ | refine codeStep ?_ | refine drawStep ?_
      refine optE_of (c := .int .i64 ((numL d.accept.length M)[tl]'(by rw [numL_length]; exact c2))) (by simp [Value.cells, numL_length, c2]) ?_
      rw [hng]
      by_cases hm : tl ∈ M
      · obtain ⟨k1, k2⟩ := hit hm
        rw [if_pos hm]
        repeat first | refine opsStep ?_ | refine codeStep ?_ | refine drawStep ?_
        refine guardE_of (by simp; omega) ?_
        repeat first | refine opsStep ?_ | refine codeStep ?_ | refine drawStep ?_
        refine optE_of (c := .int .i64 (M.idxOf tl : Nat)) (by simp [Value.cells, numL_length, c2, hng, hm]) ?_
        repeat first | refine opsStep ?_ | refine codeStep ?_ | refine drawStep ?_
        refine guardE_of (by simp; omega) ?_
        repeat first | refine opsStep ?_ | refine codeStep ?_ | refine drawStep ?_
        refine guardE_of ⟨rfl, by decide, by show 0 + a * 1 + 1 ≤ ((partL (fun j => ((metL L (minF d q)).idxOf ((minF d q).getD j 0) : Int)) rl.length (a)).map (AV.int .i64)).length; rw [List.length_map, hpl]; omega⟩ ?_
        repeat first | refine opsStep ?_ | refine codeStep ?_ | refine drawStep ?_
        refine ⟨⟨(a + 1, g), by omega⟩, (by show rl.length - (a + 1) < rl.length - a; omega), Ent.fr' ⟨(by kernel_rfl), (by kernel_rfl), (by kernel_rfl), (by kernel_rfl), ?_, (by kernel_rfl), (by kernel_rfl), (by kernel_rfl), (by kernel_rfl), (by kernel_rfl), (by kernel_rfl), inc_slot (i := a) (by omega), trivial⟩ ?_⟩
        · refine Eq.trans (b := .hs 3 g 0 M.length 1) (by kernel_rfl) ?_
          show _ = AV.hs 3 g 0 (metL L ((minF d q).take (a + 1))).length 1
          rw [k1]
        · refine Eq.trans (b := [Blk.cells 0 d.cells, .cells 0 [.sl .nil 0 [], .sl .nil 0 [], .sl .nil 0 []], .cells 0 (((numL d.accept.length M)).map (.int .i64)), .cells (g) ((M).map fun x : Nat => .int .i64 (x : Int)), .cells 0 [aSs .any d.tracks, .hs 5 (i) 0 (i) 1, .hs 6 (i) 0 (i) 1], .cells (i) ((acs).map .bool), .cells (i) ((rws).map (aIs .any))] ++ [.cells 0 (over ((partL (fun j => ((metL L (minF d q)).idxOf ((minF d q).getD j 0) : Int)) rl.length (a)).map (AV.int .i64)) (0 + a * 1) [.int .i64 (M.idxOf tl : Nat)])]) (by kernel_rfl) ?_
          rw [Nat.zero_add, Nat.mul_one, over_one (by rw [List.length_map, hpl]; omega)]
          show _ = [Blk.cells 0 d.cells, .cells 0 [.sl .nil 0 [], .sl .nil 0 [], .sl .nil 0 []], .cells 0 (((numL d.accept.length (metL L ((minF d q).take (a + 1))))).map (.int .i64)), .cells (g) (((metL L ((minF d q).take (a + 1)))).map fun x : Nat => .int .i64 (x : Int)), .cells 0 [aSs .any d.tracks, .hs 5 (i) 0 (i) 1, .hs 6 (i) 0 (i) 1], .cells (i) ((acs).map .bool), .cells (i) ((rws).map (aIs .any))] ++ [.cells 0 ((partL (fun j => ((metL L (minF d q)).idxOf ((minF d q).getD j 0) : Int)) rl.length (a + 1)).map (.int .i64))]
          rw [k1, ← partL_step, hgd, k2, List.map_set]
      · obtain ⟨k1, k2⟩ := miss hm
        rw [if_neg hm]
        repeat first | refine opsStep ?_ | refine codeStep ?_ | refine drawStep ?_
        refine guardE_of (by simp; omega) ?_
        repeat first | refine opsStep ?_ | refine codeStep ?_ | refine drawStep ?_
        refine guardE_of ⟨rfl, by decide, by show 0 + tl * 1 + 1 ≤ ((numL d.accept.length M).map (AV.int .i64)).length; rw [List.length_map, numL_length]; omega⟩ ?_
        repeat first | refine opsStep ?_ | refine codeStep ?_ | refine drawStep ?_
        refine guardE_of ⟨rfl, by simp⟩ ?_
        refine guardE_of rfl ?_
        refine guardE_of ⟨by omega, by show (M.length + 1) * 8 ≤ 140737488355328; omega⟩ ?_
        repeat first | refine opsStep ?_ | refine codeStep ?_ | refine drawStep ?_
        refine guardE_of (by simp; omega) ?_
        repeat first | refine opsStep ?_ | refine codeStep ?_ | refine drawStep ?_
        refine optE_of (c := .int .i64 (M.length : Nat)) (by show (over ((numL d.accept.length M).map (AV.int .i64)) (0 + tl * 1) [.int .i64 (M.length : Nat)])[0 + tl * 1]? = _; rw [Nat.zero_add, Nat.mul_one, over_one (by rw [List.length_map, numL_length]; omega)]; simp [numL_length, c2]) ?_
        repeat first | refine opsStep ?_ | refine codeStep ?_ | refine drawStep ?_
        refine guardE_of (by simp; omega) ?_
        repeat first | refine opsStep ?_ | refine codeStep ?_ | refine drawStep ?_
        refine guardE_of ⟨rfl, by decide, by show 0 + a * 1 + 1 ≤ ((partL (fun j => ((metL L (minF d q)).idxOf ((minF d q).getD j 0) : Int)) rl.length (a)).map (AV.int .i64)).length; rw [List.length_map, hpl]; omega⟩ ?_
        repeat first | refine opsStep ?_ | refine codeStep ?_ | refine drawStep ?_
        refine ⟨⟨(a + 1, g + 1), by omega⟩, (by show rl.length - (a + 1) < rl.length - a; omega), Ent.to (Ent.frD (l := [(1, .ref 0 0 0), (2, .ref 1 0 0), (4, aIs .any (lstD d)), (6, .hs 2 0 0 d.accept.length 1), (8, .hs 3 ((g + 1)) 0 (metL L ((minF d q).take (a + 1))).length 1), (9, .ref 4 0 0), (10, .int .i64 (i)), (11, .int .i64 (q : Nat)), (12, .hs 7 0 0 rl.length 1), (64, aIs rk rl), (65, .int .i64 rl.length), (66, .int .i64 (a + 1 : Nat))]) (X := [.cells 0 [.int .i64 (tl : Nat)]])
          (H' := [Blk.cells 0 d.cells, .cells 0 [.sl .nil 0 [], .sl .nil 0 [], .sl .nil 0 []], .cells 0 (over ((numL d.accept.length M).map (AV.int .i64)) (0 + tl * 1) [.int .i64 (M.length : Nat)]),
            .cells (g + 1) (((M.map fun x : Nat => AV.int .i64 (x : Int)).drop 0).take (M.length * 1) ++ [.int .i64 (tl : Nat)]), .cells 0 [aSs .any d.tracks, .hs 5 i 0 i 1, .hs 6 i 0 i 1], .cells i (acs.map .bool), .cells i (rws.map (aIs .any)),
            .cells 0 (over ((partL (fun j => ((metL L (minF d q)).idxOf ((minF d q).getD j 0) : Int)) rl.length (a)).map (AV.int .i64)) (0 + a * 1) [.int .i64 (M.length : Nat)])])
          ⟨(by kernel_rfl), (by kernel_rfl), (by kernel_rfl), (by kernel_rfl), ?_, (by kernel_rfl), (by kernel_rfl), (by kernel_rfl), (by kernel_rfl), (by kernel_rfl), (by kernel_rfl), inc_slot (i := a) (by omega), trivial⟩ (by kernel_rfl) (Nat.zero_le _) (by first | (simp [frBel, blksBel, Blk.bel, AV.bel, bels, bels_append, bels_map, aSs_bel, aIs_bel, aBs_bel, aRs_bel, aDen_bel, cells_bel]; done) | (simp only [List.drop_zero, ← List.map_take, ← List.map_drop, List.map_map, frBel, blksBel, Blk.bel, AV.bel, bels, bels_append, bels_map, aSs_bel, aIs_bel, aBs_bel, aRs_bel, aDen_bel, cells_bel]; simp [AV.bel, aSs_bel, aIs_bel, aBs_bel, aRs_bel, aDen_bel, cells_bel])) ?_) ?_⟩
        · refine Eq.trans (b := .hs 3 (g + 1) 0 (M.length + 1) 1) (by kernel_rfl) ?_
          rw [k1, List.length_append]; rfl
        · rw [over_one (by rw [List.length_map, numL_length]; omega), over_one (by rw [List.length_map, hpl]; omega), td_all (by simp)]
          simp only [blksBel, Blk.bel, bels_append, bels_map, bels, AV.bel, cells_bel, aSs_bel, aIs_bel, ← List.map_set, and_true, true_and]
          simp [bels_map, AV.bel, aIs_bel]
        · rw [td_all (by simp), Nat.zero_add, Nat.mul_one, over_one (by rw [List.length_map, numL_length]; omega), Nat.zero_add, Nat.mul_one, over_one (by rw [List.length_map, hpl]; omega)]
          show _ = [Blk.cells 0 d.cells, .cells 0 [.sl .nil 0 [], .sl .nil 0 [], .sl .nil 0 []], .cells 0 (((numL d.accept.length (metL L ((minF d q).take (a + 1))))).map (.int .i64)), .cells ((g + 1)) (((metL L ((minF d q).take (a + 1)))).map fun x : Nat => .int .i64 (x : Int)), .cells 0 [aSs .any d.tracks, .hs 5 (i) 0 (i) 1, .hs 6 (i) 0 (i) 1], .cells (i) ((acs).map .bool), .cells (i) ((rws).map (aIs .any))] ++ [.cells 0 ((partL (fun j => ((metL L (minF d q)).idxOf ((minF d q).getD j 0) : Int)) rl.length (a + 1)).map (.int .i64))]
          rw [k1, ← partL_step, hgd, k2, ← numL_set hm, List.map_set, List.map_set, List.map_append]
          rfl
    · have hae : a = rl.length := by have := hg; simp at this; omega
      have hta : (minF d q).take a = minF d q := List.take_of_length_le (by rw [hfl]; omega)
      rw [hta] at hLa hLan hLal
      have hrxl : (rowX (minF d) (metL L (minF d q)) q).length = 2 ^ d.tracks.length := by rw [rowX, List.length_map, hfl]
      have hcz' : ∀ j, j < i + 1 → ∀ s, (metL L (minF d q))[j]? = some s → ∀ t ∈ minF d s, t ∈ metL L (minF d q) := fun j hj s hs t ht => by
        obtain ⟨r, hrr⟩ := metL_prefix (minF d q) L
        have hs' : L[j]? = some s := by rw [hrr, List.getElem?_append_left (by omega)] at hs; exact hs
        refine (metL_mem t _ _).2 ?_
        by_cases e : j = i
        · subst e
          rw [hgq] at hs'
          cases hs'
          exact .inr ht
        · exact .inl (hcz j (by omega) s hs' t ht)
      have hmore : i + 1 ≤ (metL L (minF d q)).length := by
        obtain ⟨r, hrr⟩ := metL_prefix (minF d q) L
        rw [hrr, List.length_append]; omega
      have htk : (metL L (minF d q)).take (i + 1) = L.take (i + 1) := by
        obtain ⟨r, hrr⟩ := metL_prefix (minF d q) L
        rw [hrr, List.take_append_of_le_length (by omega)]
      rw [← htk] at haccn hrown
      refine VCode.ent (Ent.fr' (l := [(1, .ref 0 0 0), (2, .ref 1 0 0), (4, aIs .any (lstD d)), (6, .hs 2 0 0 d.accept.length 1), (8, .hs 3 (g) 0 ((metL L (minF d q))).length 1), (9, .ref 4 0 0), (10, .int .i64 (i)), (11, .int .i64 (q : Nat)), (12, .hs 7 0 0 (2 ^ d.tracks.length) 1)])
        (H' := [Blk.cells 0 d.cells, .cells 0 [.sl .nil 0 [], .sl .nil 0 [], .sl .nil 0 []], .cells 0 (((numL d.accept.length (metL L (minF d q)))).map (.int .i64)), .cells (g) (((metL L (minF d q))).map fun x : Nat => .int .i64 (x : Int)), .cells 0 [aSs .any d.tracks, .hs 5 (i) 0 (i) 1, .hs 6 (i) 0 (i) 1], .cells (i) ((acs).map .bool), .cells (i) ((rws).map (aIs .any))] ++ [.cells 0 ((rowX (minF d) (metL L (minF d q)) q).map (.int .i64))]) ⟨(by kernel_rfl), (by kernel_rfl), (by kernel_rfl), (by kernel_rfl), ?_, (by kernel_rfl), (by kernel_rfl), (by kernel_rfl), ?_, trivial⟩ ?_) ?_
      · refine Eq.trans (b := .hs 3 g 0 (metL L ((minF d q).take a)).length 1) (by kernel_rfl) ?_
        rw [hta]
      · rw [← l1]; kernel_rfl
      · refine Eq.trans (b := [Blk.cells 0 d.cells, .cells 0 [.sl .nil 0 [], .sl .nil 0 [], .sl .nil 0 []], .cells 0 (((numL d.accept.length (metL L ((minF d q).take a)))).map (.int .i64)), .cells (g) (((metL L ((minF d q).take a))).map fun x : Nat => .int .i64 (x : Int)), .cells 0 [aSs .any d.tracks, .hs 5 (i) 0 (i) 1, .hs 6 (i) 0 (i) 1], .cells (i) ((acs).map .bool), .cells (i) ((rws).map (aIs .any))] ++ [.cells 0 ((partL (fun j => ((metL L (minF d q)).idxOf ((minF d q).getD j 0) : Int)) rl.length (a)).map (.int .i64))]) (by kernel_rfl) ?_
        rw [hta, hae, partL_full, l1, hall]
      generalize rowX (minF d) (metL L (minF d q)) q = rx at *
      generalize metL L (minF d q) = L' at *
      generalize 2 ^ d.tracks.length = K at *
      repeat first | refine opsStep ?_ | refine codeStep ?_ | refine drawStep ?_
      refine SW.drawn rfl (by kernel_rfl) ?_
      repeat first | refine opsStep ?_ | refine codeStep ?_ | refine drawStep ?_
      refine guardE_of (by omega) ?_
      repeat first | refine opsStep ?_ | refine codeStep ?_ | refine drawStep ?_
      refine optE_of (c := .bool (accN d.accept q)) (by simp [Value.cells, hacc]) ?_
      repeat first | refine opsStep ?_ | refine codeStep ?_ | refine drawStep ?_
      refine guardE_of ⟨rfl, by simp [hal]⟩ ?_
      refine guardE_of rfl ?_
      refine guardE_of ⟨by omega, by show (i + 1) * 1 ≤ 140737488355328; omega⟩ ?_
      repeat first | refine opsStep ?_ | refine codeStep ?_ | refine drawStep ?_
      refine ⟨by kernel_rfl, ?_⟩
      repeat first | refine opsStep ?_ | refine codeStep ?_ | refine drawStep ?_
      refine guardE_of ⟨rfl, by simp [hrwl]⟩ ?_
      refine guardE_of rfl ?_
      refine guardE_of ⟨by omega, by show (i + 1) * 24 ≤ 140737488355328; omega⟩ ?_
      repeat first | refine opsStep ?_ | refine codeStep ?_ | refine drawStep ?_
      refine ⟨⟨(i + 1, L', g), hmore, hex, hLan, hLa, hcz'⟩, (by show 300 - (i + 1) < 300 - i; omega), Ent.rowNext [Blk.cells 0 d.cells, .cells 0 [.sl .nil 0 [], .sl .nil 0 [], .sl .nil 0 []], .cells 0 ((numL d.accept.length L').map (.int .i64)), .cells g (L'.map fun x : Nat => .int .i64 (x : Int)), .cells 0 [aSs .any d.tracks, .hs 5 (i + 1) 0 (i + 1) 1, .hs 6 (i + 1) 0 (i + 1) 1],
          .cells (i + 1) (((acs.map AV.bool).drop 0).take (i * 1) ++ [.bool (accN d.accept q)])]
        (n := K) (es := 1) (L := ((rws.map (aIs .any)).drop 0).take (i * 1)) (gb := i + 1) (gr := 0) (cs := rx.map (.int .i64)) ⟨(by kernel_rfl), (by kernel_rfl), (by kernel_rfl), (by kernel_rfl), (by kernel_rfl), (by kernel_rfl), inc_slot (i := i) (by omega), trivial⟩ (by kernel_rfl) (by kernel_rfl) (by kernel_rfl) rfl (by simp [hrxl]) (Nat.le_of_ble_eq_true (by kernel_rfl)) (by first | (simp [frBel, blksBel, Blk.bel, AV.bel, bels, bels_append, bels_map, aSs_bel, aIs_bel, aBs_bel, aRs_bel, aDen_bel, cells_bel]; done) | (simp only [List.drop_zero, ← List.map_take, ← List.map_drop, List.map_map, frBel, blksBel, Blk.bel, AV.bel, bels, bels_append, bels_map, aSs_bel, aIs_bel, aBs_bel, aRs_bel, aDen_bel, cells_bel]; simp [AV.bel, aSs_bel, aIs_bel, aBs_bel, aRs_bel, aDen_bel, cells_bel])) ?_ (bels_td (bels_map.2 fun _ _ => aIs_bel _ _ _)) (by first | (simp [frBel, blksBel, Blk.bel, AV.bel, bels, bels_append, bels_map, aSs_bel, aIs_bel, aBs_bel, aRs_bel, aDen_bel, cells_bel]; done) | (simp only [List.drop_zero, ← List.map_take, ← List.map_drop, List.map_map, frBel, blksBel, Blk.bel, AV.bel, bels, bels_append, bels_map, aSs_bel, aIs_bel, aBs_bel, aRs_bel, aDen_bel, cells_bel]; simp [AV.bel, aSs_bel, aIs_bel, aBs_bel, aRs_bel, aDen_bel, cells_bel])) ?_⟩
      · rw [td_all (by simp [hal])]
        exact (by first | (simp [frBel, blksBel, Blk.bel, AV.bel, bels, bels_append, bels_map, aSs_bel, aIs_bel, aBs_bel, aRs_bel, aDen_bel, cells_bel]; done) | (simp only [List.drop_zero, ← List.map_take, ← List.map_drop, List.map_map, frBel, blksBel, Blk.bel, AV.bel, bels, bels_append, bels_map, aSs_bel, aIs_bel, aBs_bel, aRs_bel, aDen_bel, cells_bel]; simp [AV.bel, aSs_bel, aIs_bel, aBs_bel, aRs_bel, aDen_bel, cells_bel]))
      · rw [td_all (by simp [hal]), td_all (by simp [hrwl])]
        show _ = [Blk.cells 0 d.cells, .cells 0 [.sl .nil 0 [], .sl .nil 0 [], .sl .nil 0 []], .cells 0 (((numL d.accept.length L')).map (.int .i64)), .cells (g) ((L').map fun x : Nat => .int .i64 (x : Int)), .cells 0 [aSs .any d.tracks, .hs 5 (i + 1) 0 (i + 1) 1, .hs 6 (i + 1) 0 (i + 1) 1], .cells (i + 1) ((((L'.take (i + 1)).map (accN d.accept))).map .bool), .cells (i + 1) ((((L'.take (i + 1)).map (rowX (minF d) L'))).map (aIs .any))]
        rw [haccn, hrown, List.map_append, List.map_append]
        simp [aIs, hrxl]
  · have hie : i = L.length := by have := h; simp at this; omega
    rw [expl_none (by omega)] at hex
    subst hex
    have hLt : L.take L.length = L := List.take_length
    refine VCode.ent (Ent.fr' (l := [(1, .ref 0 0 0), (2, .ref 1 0 0), (4, aIs .any (lstD d)), (6, .hs 2 0 0 d.accept.length 1), (8, .hs 3 (g) 0 (L).length 1), (9, .ref 4 0 0), (10, .int .i64 (L.length))])
        (H' := [Blk.cells 0 d.cells, .cells 0 [.sl .nil 0 [], .sl .nil 0 [], .sl .nil 0 []], .cells 0 (((numL d.accept.length L)).map (.int .i64)), .cells (g) ((L).map fun x : Nat => .int .i64 (x : Int)), .cells 0 [aSs .any d.tracks, .hs 5 (L.length) 0 (L.length) 1, .hs 6 (L.length) 0 (L.length) 1], .cells (L.length) (((L.map (accN d.accept))).map .bool), .cells (L.length) (((L.map (rowX (minF d) L))).map (aIs .any))]) ⟨(by kernel_rfl), (by kernel_rfl), (by kernel_rfl), (by kernel_rfl), (by kernel_rfl), (by kernel_rfl), ?_, trivial⟩ ?_) ?_
    · refine Eq.trans (b := .int .i64 (i : Nat)) (by kernel_rfl) ?_
      rw [hie]
    · refine Eq.trans (b := [Blk.cells 0 d.cells, .cells 0 [.sl .nil 0 [], .sl .nil 0 [], .sl .nil 0 []], .cells 0 (((numL d.accept.length L)).map (.int .i64)), .cells (g) ((L).map fun x : Nat => .int .i64 (x : Int)), .cells 0 [aSs .any d.tracks, .hs 5 (i) 0 (i) 1, .hs 6 (i) 0 (i) 1], .cells (i) ((((L.take i).map (accN d.accept))).map .bool), .cells (i) ((((L.take i).map (rowX (minF d) L))).map (aIs .any))]) (by kernel_rfl) ?_
      rw [hie, hLt]
    repeat first | refine opsStep ?_ | refine codeStep ?_ | refine drawStep ?_
    refine finR (l := [(2, .ref 1 0 0), (3, .int .i64 0)]) (H₁ := [Blk.cells 0 d.cells, .cells 0 [aSs .any d.tracks, .hs 5 L.length 0 L.length 1, .hs 6 L.length 0 L.length 1], .cells 0 ((numL d.accept.length L).map (.int .i64)), .cells g (L.map fun x : Nat => .int .i64 (x : Int)), .cells 0 [aSs .any d.tracks, .hs 5 L.length 0 L.length 1, .hs 6 L.length 0 L.length 1], .cells L.length ((L.map (accN d.accept)).map .bool), .cells L.length ((L.map (rowX (minF d) L)).map (aIs .any))])
      (v := .tup [.agg [aSs .any d.tracks, .hs 5 L.length 0 L.length 1, .hs 6 L.length 0 L.length 1], .int .i64 0]) ⟨(by kernel_rfl), (by kernel_rfl), trivial⟩ (by kernel_rfl) (Ent.refl _ _ _) (by kernel_rfl) ?_
    exact ⟨rfl, _, _, _, _, _, rfl⟩

theorem canon_Minimal_bad (d : Den) (hd : DenOk d) (hr : rightS d = false) : Pure Try.prog 32 [aDen d] (.tup [aDen den0, .int .i64 3]) := by
  have hC := canon_Classes_bad d hd hr
  refine Pure.of_sw 114 Try.func32 rfl Try.ntmps32 (by kernel_rfl) (Nat.le_of_ble_eq_true (by kernel_rfl)) (by simp [closeds, AV.closed, aSs_closed, aIs_closed, aBs_closed, aRs_closed, aDen_closed]) (by simp [AV.closed, closeds, aSs_closed, aIs_closed, aBs_closed, aRs_closed, aDen_closed]) ?_; refine SW.of_vc ?_
  repeat first | refine opsStep ?_ | refine codeStep ?_ | refine drawStep ?_
  refine callP hC ?_
  repeat first | refine opsStep ?_ | refine codeStep ?_ | refine drawStep ?_
  exact finV (v' := .tup [aDen den0, .int .i64 3]) (by kernel_rfl) rfl

end Tab

/- What machines take, as languages; the canonical machine out of the language alone. -/
namespace Tab
open Go Go.Proofs
set_option maxRecDepth 10000
set_option linter.unusedVariables false
set_option linter.unusedSimpArgs false
set_option linter.unusedSectionVars false

abbrev Lang := List Nat → Bool
def letB (k : Nat) (w : List Nat) : Bool := w.all fun a => decide (a < 2 ^ k)
theorem letB_iff {k w} : letB k w = true ↔ Lets k w := by simp [letB, Lets]
/-- What is taken from a state on. -/
def langR (d : Den) (p : Nat) : Lang := fun w => letB d.tracks.length w && accN d.accept (runN d.rows p w)
def lang (d : Den) : Lang := langR d 0
theorem langR_let {d p w} (h : Lets d.tracks.length w) : langR d p w = accN d.accept (runN d.rows p w) := by rw [langR, letB_iff.2 h, Bool.true_and]
theorem alike_iff {d : Den} {p q : Nat} : Alike d p q ↔ langR d p = langR d q := by
  constructor
  · intro h
    funext w
    rw [langR, langR]
    cases e : letB d.tracks.length w with
    | false => rfl
    | true => rw [Bool.true_and, Bool.true_and, h w (letB_iff.1 e)]
  · intro h w hw
    rw [← langR_let hw, h, langR_let hw]
theorem langR_cons {d : Den} {p a : Nat} {w : List Nat} (ha : a < 2 ^ d.tracks.length) : langR d p (a :: w) = langR d (stepN d.rows p a) w := by
  simp only [langR, letB, List.all_cons, ha, decide_true, Bool.true_and, runN, List.foldl_cons]
theorem takesB_lang {d : Den} {w : List Nat} (h : Lets d.tracks.length w) : takesB d w = lang d w := by rw [lang, langR_let h]; rfl

section
variable {d : Den} (hr : rightS d = true)
include hr
theorem lst_alike {p : Nat} (hp : p < d.accept.length) : lstN d p < d.accept.length ∧ langR d (lstN d p) = langR d p := by
  have hn := clsD_ner hr
  have hl := hn.len
  obtain ⟨c1, c2⟩ := lst_cast (d := d) (q := p) (by omega)
  refine ⟨by omega, alike_iff.1 ((hn.iff _ _ (by omega) hp).1 ?_)⟩
  have hp' : p < (clsD d).length := by omega
  have e : (lstD d).getD p 0 = ((clsD d).idxOf (clsD d)[p] : Int) := by simp [lstD, List.getD_eq_getElem?_getD, hp']
  have hm := List.idxOf_lt_length_of_mem (List.getElem_mem hp')
  have e2 : lstN d p = (clsD d).idxOf (clsD d)[p] := by omega
  rw [e2, List.getD_eq_getElem?_getD, List.getElem?_eq_getElem hm, List.getElem_idxOf, List.getD_eq_getElem?_getD, List.getElem?_eq_getElem hp']
theorem lst_eq {p q : Nat} (hp : p < d.accept.length) (hq : q < d.accept.length) (h : langR d p = langR d q) : lstN d p = lstN d q := by
  have hn := clsD_ner hr
  have hl := hn.len
  have hc := (hn.iff p q hp hq).2 (alike_iff.2 h)
  have e : ∀ x, x < d.accept.length → lstN d x = (clsD d).idxOf ((clsD d).getD x 0) := fun x hx => by
    have hx' : x < (clsD d).length := by omega
    simp [lstN, lstD, List.getD_eq_getElem?_getD, hx']
  rw [e p hp, e q hq, hc]
theorem lst_zero : lstN d 0 = 0 := by
  have hl := (clsD_ner hr).len
  have hp := right_pos hr
  have hx : 0 < (clsD d).length := by omega
  have e : lstN d 0 = (clsD d).idxOf (clsD d)[0] := by simp [lstN, lstD, List.getD_eq_getElem?_getD, hx]
  rw [e]
  obtain ⟨x, l, h⟩ : ∃ x l, clsD d = x :: l := by
    cases e : clsD d with
    | nil => rw [e] at hx; simp at hx
    | cons x l => exact ⟨x, l, rfl⟩
  simp [h]

/-- Least ones of their classes. -/
def Least (d : Den) (q : Nat) : Prop := q < d.accept.length ∧ lstN d q = q
omit hr in
theorem minF_get {q a : Nat} (ha : a < 2 ^ d.tracks.length) : (minF d q)[a]? = some (lstN d (stepN d.rows q a)) := by
  rw [minF, List.getElem?_map, List.getElem?_range ha]; rfl
omit hr in
theorem minF_mem {q t : Nat} (h : t ∈ minF d q) : ∃ a, a < 2 ^ d.tracks.length ∧ t = lstN d (stepN d.rows q a) := by
  obtain ⟨a, ha, rfl⟩ := List.mem_map.1 h
  exact ⟨a, List.mem_range.1 ha, rfl⟩
theorem least_lst {p : Nat} (hp : p < d.accept.length) : Least d (lstN d p) := by
  obtain ⟨h1, h2⟩ := lst_alike hr hp
  exact ⟨h1, lst_eq hr h1 hp h2⟩
theorem least_step {q : Nat} (h : Least d q) : ∀ t ∈ minF d q, Least d t := fun t ht => by
  obtain ⟨a, ha, rfl⟩ := minF_mem ht
  exact least_lst hr (stepN_ok hr h.1 ha).2.2.2
theorem least_zero : Least d 0 := ⟨right_pos hr, lst_zero hr⟩
theorem least_inj {p q : Nat} (hp : Least d p) (hq : Least d q) (h : langR d p = langR d q) : p = q := by
  rw [← hp.2, ← hq.2]; exact lst_eq hr hp.1 hq.1 h

theorem minR_least : ∀ q ∈ minR d, Least d q := expl_all (fun s hs => least_step hr hs) 300 0 [0] (by simpa using least_zero hr)
omit hr in
theorem minR_nodup : (minR d).Nodup := expl_nodup 300 0 [0] (by simp)
theorem minR_len : (minR d).length ≤ d.accept.length := nodup_le minR_nodup fun q hq => (minR_least hr q hq).1
theorem minR_closed : ∀ s ∈ minR d, ∀ t ∈ minF d s, t ∈ minR d := by
  have h1 := minR_len hr
  have h2 := (tracksS_parts (rightS_parts hr).1).2.2.2
  exact expl_closed 300 0 [0] (fun i hi => by omega) (by show (minR d).length ≤ 0 + 300; omega)
omit hr in
theorem minR_zero : (minR d)[0]? = some 0 := by
  obtain ⟨r, h⟩ := expl_prefix (f := minF d) 300 0 [0]
  rw [minR, h]; rfl

/-! ### The canonical machine of a language -/

omit hr in
def langF (k : Nat) (K : Lang) : List Lang := (List.range (2 ^ k)).map fun a w => K (a :: w)
noncomputable def canL (k : Nat) (K : Lang) : List Lang := @expl Lang (Classical.typeDecidableEq _) (langF k) 300 0 [K]
noncomputable def canRow (k : Nat) (K J : Lang) : List Int := @rowX Lang (Classical.typeDecidableEq _) (langF k) (canL k K) J

theorem minF_lang {q : Nat} (h : Least d q) : (minF d q).map (langR d) = langF d.tracks.length (langR d q) := by
  rw [minF, langF, List.map_map]
  refine List.map_congr_left fun a ha => ?_
  have ha := List.mem_range.1 ha
  rw [Function.comp_apply, (lst_alike hr (stepN_ok hr h.1 ha).2.2.2).2]
  funext w
  exact (langR_cons ha).symm
theorem minR_lang : (minR d).map (langR d) = canL d.tracks.length (lang d) :=
  letI := Classical.typeDecidableEq Lang
  expl_map (f := minF d) (f' := langF d.tracks.length) (langR d) (Q := Least d) (fun s hs => least_step hr hs) (fun x y hx hy h => least_inj hr hx hy h) (fun s hs => minF_lang hr hs) 300 0 [0] (by simpa using least_zero hr)
theorem minD_accept : (minD d).accept = (canL d.tracks.length (lang d)).map fun K => K [] := by
  rw [← minR_lang hr, List.map_map]
  refine List.map_congr_left fun q _ => ?_
  rw [Function.comp_apply, langR_let (fun a ha => absurd ha (by simp))]; rfl
theorem minD_rows : (minD d).rows = (canL d.tracks.length (lang d)).map fun J => canRow d.tracks.length (lang d) J := by
  have e : (minD d).rows = (minR d).map (rowX (minF d) (minR d)) := by simp [minD, Den.rows, Function.comp_def]
  rw [e, ← minR_lang hr, List.map_map]
  refine List.map_congr_left fun q hq => ?_
  have hl := minR_least hr q hq
  have h := @rowX_map _ _ _ (Classical.typeDecidableEq Lang) (minF d) (langF d.tracks.length) (langR d) (minR d) q (minF_lang hr hl) fun x hx y hy e => least_inj hr (minR_least hr y hy) (least_step hr hl x hx) e
  rw [Function.comp_apply, canRow, ← minR_lang hr]
  exact h.symm
end

/-- Machines over the same tracks that take the same have one canonical machine. -/
theorem minD_same {d e : Den} (hd : rightS d = true) (he : rightS e = true) (ht : d.tracks = e.tracks) (h : lang d = lang e) : sameD (minD d) (minD e) = true := by
  rw [sameD_eq, minD_accept hd, minD_accept he, minD_rows hd, minD_rows he, ht, h]
  simp [show (minD d).tracks = (minD e).tracks from ht]

/-! ### The canonical machine takes the same -/

section
variable {d : Den} (hr : rightS d = true)
include hr
theorem min_idx {i a : Nat} (hi : i < (minR d).length) (ha : a < 2 ^ d.tracks.length) :
    ∃ h : stepN (minD d).rows i a < (minR d).length, (minR d)[stepN (minD d).rows i a] = lstN d (stepN d.rows (minR d)[i] a) := by
  have hm := minR_closed hr _ (List.getElem_mem hi) _ (List.mem_of_getElem? (minF_get (q := (minR d)[i]) ha))
  have hlt := List.idxOf_lt_length_of_mem hm
  have e1 : (minD d).rows.getD i [] = rowX (minF d) (minR d) (minR d)[i] := by
    simp [minD, Den.rows, List.getD_eq_getElem?_getD, hi]
  have e : stepN (minD d).rows i a = (minR d).idxOf (lstN d (stepN d.rows (minR d)[i] a)) := by
    rw [stepN, e1, rowX, List.getD_eq_getElem?_getD, List.getElem?_map, minF_get ha]; rfl
  refine ⟨by rw [e]; exact hlt, ?_⟩
  simp only [e]
  exact List.getElem_idxOf hlt
theorem min_right : rightS (minD d) = true := by
  obtain ⟨h1, h2, h3⟩ := rightS_parts hr
  obtain ⟨k1, k2, k3, k4⟩ := tracksS_parts h1
  have hl := minR_len hr
  have hpos : 0 < (minR d).length := by
    have := (List.getElem?_eq_some_iff.1 (minR_zero (d := d))).1; omega
  have ha : (minD d).accept.length = (minR d).length := by simp [minD]
  rw [rightS, show (minD d).tracks = d.tracks from rfl, ha, tracksS_mk k1 k2 (by omega) (by omega), decide_eq_true (by simp [minD] : (minD d).next.length = (minR d).length)]
  simp only [Bool.true_and, List.all_eq_true]
  intro r hrr
  simp only [minD, List.mem_map] at hrr
  obtain ⟨q, hq, rfl⟩ := hrr
  rw [rowOk, decide_eq_true (by rw [rowX, List.length_map, minF_length]), Bool.true_and, List.all_eq_true]
  intro x hx
  obtain ⟨t, ht, rfl⟩ := List.mem_map.1 hx
  have := List.idxOf_lt_length_of_mem (minR_closed hr q hq t ht)
  simp
  omega
theorem min_langR : ∀ (w : List Nat) {i : Nat} (hi : i < (minR d).length), langR (minD d) i w = langR d (minR d)[i] w
  | [], i, hi => by
    rw [langR, langR]
    simp only [letB, List.all_nil, runN, List.foldl_nil, Bool.true_and]
    simp [accN, minD, List.getD_eq_getElem?_getD, hi]
  | a :: w, i, hi => by
    by_cases ha : a < 2 ^ d.tracks.length
    · obtain ⟨h1, h2⟩ := min_idx hr hi ha
      rw [langR_cons (d := minD d) ha, langR_cons ha, min_langR w h1, h2]
      have := (lst_alike hr (stepN_ok hr (minR_least hr _ (List.getElem_mem hi)).1 ha).2.2.2).2
      rw [this]
    · simp [langR, letB, ha, show (minD d).tracks = d.tracks from rfl]
theorem min_lang : lang (minD d) = lang d := by
  obtain ⟨h, e⟩ := List.getElem?_eq_some_iff.1 (minR_zero (d := d))
  funext w
  rw [lang, min_langR hr w h, e]; rfl

/-! ### Sound -/

/-- A language that says a sign again and again alike, and not the empty word. -/
def SoundL (k : Nat) (K : Lang) : Prop := K [] = false ∧ ∀ w a, Lets k w → a < 2 ^ k → K (w ++ [a]) = K (w ++ [a, a])
omit hr in
theorem run_append (rows : List (List Int)) (q : Nat) (u v : List Nat) : runN rows q (u ++ v) = runN rows (runN rows q u) v := by simp [runN]
theorem min_reach : ∀ q ∈ minR d, ∃ w, Lets d.tracks.length w ∧ langR d q = langR d (runN d.rows 0 w) := by
  refine fun q hq => (expl_all (Q := fun q => q < d.accept.length ∧ ∃ w, Lets d.tracks.length w ∧ langR d q = langR d (runN d.rows 0 w)) ?_ 300 0 [0] ?_ q hq).2
  · rintro s ⟨hs, w, hw, e⟩ t ht
    obtain ⟨a, ha, rfl⟩ := minF_mem ht
    have h1 := stepN_ok hr hs ha
    refine ⟨(lst_alike hr h1.2.2.2).1, w ++ [a], fun b hb => ?_, ?_⟩
    · rcases List.mem_append.1 hb with hb | hb
      · exact hw b hb
      · simp at hb; omega
    · rw [(lst_alike hr h1.2.2.2).2, run_append]
      funext v
      show _ = langR d (stepN d.rows (runN d.rows 0 w) a) v
      rw [← langR_cons ha, ← langR_cons ha, e]
  · intro s hs
    simp at hs; subst hs
    exact ⟨right_pos hr, [], fun a ha => absurd ha (by simp), rfl⟩
theorem min_hit : ∀ (w : List Nat), Lets d.tracks.length w → ∃ q ∈ minR d, langR d q = langR d (runN d.rows 0 w) := by
  intro w hw
  have h0 : 0 ∈ minR d := List.mem_of_getElem? minR_zero
  suffices h : ∀ (w : List Nat) (q p : Nat), Lets d.tracks.length w → q ∈ minR d → p < d.accept.length → langR d q = langR d p → ∃ t ∈ minR d, langR d t = langR d (runN d.rows p w) from
    h w 0 0 hw h0 (right_pos hr) rfl
  intro w
  induction w with
  | nil => exact fun q p _ hq _ e => ⟨q, hq, e⟩
  | cons a w ih =>
    intro q p hw hq hp e
    have ha := hw a (by simp)
    have hq1 := stepN_ok hr (minR_least hr q hq).1 ha
    have hp1 := stepN_ok hr hp ha
    refine ih (lstN d (stepN d.rows q a)) (stepN d.rows p a) (fun b hb => hw b (by simp [hb])) (minR_closed hr q hq _ (List.mem_of_getElem? (minF_get ha))) hp1.2.2.2 ?_
    rw [(lst_alike hr hq1.2.2.2).2]
    funext v
    rw [← langR_cons ha, ← langR_cons ha, e]

/-- What the program looks at: no state's letter is told otherwise behind itself. -/
def soundS (m : Den) : Bool := !(accN m.accept 0) && (List.range m.accept.length).all fun i => (List.range (2 ^ m.tracks.length)).all fun a => decide (accN m.accept (stepN m.rows i a) = accN m.accept (stepN m.rows (stepN m.rows i a) a))
theorem sound_iff : soundS (minD d) = true ↔ SoundL d.tracks.length (lang d) := by
  have hm := min_right hr
  obtain ⟨hz, ez⟩ := List.getElem?_eq_some_iff.1 (minR_zero (d := d))
  have hacc : ∀ i (hi : i < (minR d).length), accN (minD d).accept i = langR d (minR d)[i] [] := fun i hi => by
    rw [← min_langR hr [] hi]; simp [langR, letB, runN]
  have hal : (minD d).accept.length = (minR d).length := by simp [minD]
  have hone : ∀ i (hi : i < (minR d).length) a, a < 2 ^ d.tracks.length → accN (minD d).accept (stepN (minD d).rows i a) = langR d (minR d)[i] [a] := fun i hi a ha => by
    rw [← min_langR hr [a] hi, langR_cons (d := minD d) ha]
    obtain ⟨h1, _⟩ := min_idx hr hi ha
    simp [langR, letB, runN]
  have htwo : ∀ i (hi : i < (minR d).length) a, a < 2 ^ d.tracks.length → accN (minD d).accept (stepN (minD d).rows (stepN (minD d).rows i a) a) = langR d (minR d)[i] [a, a] := fun i hi a ha => by
    rw [← min_langR hr [a, a] hi, langR_cons (d := minD d) ha, langR_cons (d := minD d) ha]
    simp [langR, letB, runN]
  have happ : ∀ (q : Nat) (w v : List Nat), Lets d.tracks.length w → langR d (runN d.rows q w) v = langR d q (w ++ v) := by
    intro q w v hw
    simp only [langR, letB, List.all_append, run_append]
    rw [show (w.all fun a => decide (a < 2 ^ d.tracks.length)) = true from letB_iff.2 hw, Bool.true_and]
  simp only [soundS, Bool.and_eq_true, Bool.not_eq_true', List.all_eq_true, List.mem_range, decide_eq_true_eq, hal, show (minD d).tracks = d.tracks from rfl]
  constructor
  · rintro ⟨h1, h2⟩
    refine ⟨?_, fun w a hw ha => ?_⟩
    · rw [hacc 0 hz, ez] at h1; exact h1
    · obtain ⟨q, hq, e⟩ := min_hit hr w hw
      obtain ⟨i, hi, rfl⟩ := List.getElem_of_mem hq
      have := h2 i hi a ha
      rw [hone i hi a ha, htwo i hi a ha, e, happ 0 w [a] hw, happ 0 w [a, a] hw] at this
      exact this
  · rintro ⟨h1, h2⟩
    refine ⟨by rw [hacc 0 hz, ez]; exact h1, fun i hi a ha => ?_⟩
    obtain ⟨w, hw, e⟩ := min_reach hr _ (List.getElem_mem hi)
    rw [hone i hi a ha, htwo i hi a ha, e, happ 0 w [a] hw, happ 0 w [a, a] hw]
    exact h2 w a hw ha
end

end Tab

/- The first word, by length and then by letters, to a place that is told: plain. -/
namespace Tab
open Go
set_option maxRecDepth 10000
set_option linter.unusedVariables false
set_option linter.unusedSimpArgs false
set_option linter.unusedSectionVars false

/-- By letters, of words of one length. -/
def lexL : List Nat → List Nat → Bool
  | a :: u, b :: v => decide (a < b) || (decide (a = b) && lexL u v)
  | _, _ => false
theorem lexL_snoc : ∀ {u v : List Nat} (a b : Nat), u.length = v.length → lexL (u ++ [a]) (v ++ [b]) = (lexL u v || (decide (u = v) && decide (a < b)))
  | [], [], a, b, _ => by simp [lexL]
  | x :: u, y :: v, a, b, h => by
    have ih := lexL_snoc (u := u) (v := v) a b (by simpa using h)
    simp only [List.cons_append, lexL, ih, List.cons.injEq]
    by_cases h1 : x < y <;> by_cases h2 : x = y <;> simp [h1, h2]
theorem lexL_tri : ∀ {u v : List Nat}, u.length = v.length → lexL u v = true ∨ u = v ∨ lexL v u = true
  | [], [], _ => .inr (.inl rfl)
  | x :: u, y :: v, h => by
    simp only [lexL, Bool.or_eq_true, Bool.and_eq_true, decide_eq_true_eq, List.cons.injEq]
    rcases Nat.lt_trichotomy x y with k | k | k
    · exact .inl (.inl k)
    · subst k
      rcases lexL_tri (u := u) (v := v) (by simpa using h) with k | k | k
      · exact .inl (.inr ⟨rfl, k⟩)
      · exact .inr (.inl ⟨rfl, k⟩)
      · exact .inr (.inr (.inr ⟨rfl, k⟩))
    · exact .inr (.inr (.inl k))
theorem lexL_trans : ∀ {u v w : List Nat}, lexL u v = true → lexL v w = true → lexL u w = true
  | a :: u, b :: v, c :: w, h1, h2 => by
    simp only [lexL, Bool.or_eq_true, Bool.and_eq_true, decide_eq_true_eq] at h1 h2 ⊢
    rcases h1 with h1 | ⟨rfl, h1⟩ <;> rcases h2 with h2 | ⟨rfl, h2⟩
    · exact .inl (by omega)
    · exact .inl h1
    · exact .inl h2
    · exact .inr ⟨rfl, lexL_trans h1 h2⟩
  | [], _, _, h, _ => by simp [lexL] at h
  | _ :: _, [], _, h, _ => by simp [lexL] at h
  | _ :: _, _ :: _, [], _, h => by simp [lexL] at h
theorem lexL_irr : ∀ (u : List Nat), lexL u u = false
  | [] => rfl
  | a :: u => by simp [lexL, lexL_irr u]

/-- The shorter ahead, then by letters. -/
def slt (u v : List Nat) : Prop := u.length < v.length ∨ (u.length = v.length ∧ lexL u v = true)
def sle (u v : List Nat) : Prop := slt u v ∨ u = v
theorem slt_irr (u : List Nat) : ¬ slt u u := by rintro (h | ⟨_, h⟩); omega; rw [lexL_irr] at h; simp at h
theorem slt_trans {u v w : List Nat} (h1 : slt u v) (h2 : slt v w) : slt u w := by
  rcases h1 with h1 | ⟨e1, h1⟩ <;> rcases h2 with h2 | ⟨e2, h2⟩
  · exact .inl (by omega)
  · exact .inl (by omega)
  · exact .inl (by omega)
  · exact .inr ⟨by omega, lexL_trans h1 h2⟩
theorem slt_tri (u v : List Nat) : slt u v ∨ u = v ∨ slt v u := by
  rcases Nat.lt_trichotomy u.length v.length with h | h | h
  · exact .inl (.inl h)
  · rcases lexL_tri h with k | k | k
    · exact .inl (.inr ⟨h, k⟩)
    · exact .inr (.inl k)
    · exact .inr (.inr (.inr ⟨h.symm, k⟩))
  · exact .inr (.inr (.inl h))
theorem sle_trans {u v w : List Nat} (h1 : sle u v) (h2 : sle v w) : sle u w := by
  rcases h1 with h1 | rfl
  · rcases h2 with h2 | rfl
    · exact .inl (slt_trans h1 h2)
    · exact .inl h1
  · exact h2
theorem sle_antisymm {u v : List Nat} (h1 : sle u v) (h2 : sle v u) : u = v := by
  rcases h1 with h1 | rfl
  · rcases h2 with h2 | rfl
    · exact absurd (slt_trans h1 h2) (slt_irr _)
    · rfl
  · rfl
theorem sle_of_not {u v : List Nat} (h : ¬ slt v u) : sle u v := by
  rcases slt_tri u v with k | k | k
  · exact .inl k
  · exact .inr k
  · exact absurd k h
theorem slt_snoc {u v : List Nat} (a b : Nat) (h : slt u v) : slt (u ++ [a]) (v ++ [b]) := by
  rcases h with h | ⟨e, h⟩
  · exact .inl (by simpa using h)
  · exact .inr ⟨by simpa using e, by rw [lexL_snoc a b e, h]; rfl⟩
theorem slt_last (u : List Nat) {a b : Nat} (h : a < b) : slt (u ++ [a]) (u ++ [b]) := .inr ⟨by simp, by rw [lexL_snoc a b rfl]; simp [h]⟩
theorem sle_snoc {u v : List Nat} (a : Nat) (h : sle u v) : sle (u ++ [a]) (v ++ [a]) := by
  rcases h with h | rfl
  · exact .inl (slt_snoc a a h)
  · exact .inr rfl
theorem slt_grow (u : List Nat) (a : Nat) : slt u (u ++ [a]) := .inl (by simp)

section
variable {σ : Type} (step : σ → Nat → σ) (s0 : σ) (K : Nat)
def runG (w : List Nat) : σ := w.foldl step s0
theorem runG_snoc (w : List Nat) (a : Nat) : runG step s0 (w ++ [a]) = step (runG step s0 w) a := by simp [runG]

/-- The places that are met, with their first words: the places up to i are done, of place i the letters below a. -/
structure Bf (L : List σ) (W : List (List Nat)) (i a : Nat) : Prop where
  len : W.length = L.length
  zero : W[0]? = some []
  le : a ≤ K
  run : ∀ (j : Nat) (w : List Nat), W[j]? = some w → L[j]? = some (runG step s0 w) ∧ ∀ x ∈ w, x < K
  inc : ∀ (j j' : Nat) (w w' : List Nat), j < j' → W[j]? = some w → W[j']? = some w' → slt w w'
  from' : ∀ (j : Nat) (w : List Nat), 0 < j → W[j]? = some w → ∃ (j0 : Nat) (w0 : List Nat) (a0 : Nat), j0 < j ∧ W[j0]? = some w0 ∧ w = w0 ++ [a0] ∧ a0 < K ∧ (j0 < i ∨ (j0 = i ∧ a0 < a))
  done : ∀ (j0 : Nat) (w0 : List Nat) (a0 : Nat), W[j0]? = some w0 → a0 < K → (j0 < i ∨ (j0 = i ∧ a0 < a)) → ∃ (j : Nat) (w : List Nat), 0 < j ∧ W[j]? = some w ∧ runG step s0 w = step (runG step s0 w0) a0 ∧ sle w (w0 ++ [a0])

theorem Bf.start : Bf step s0 K [s0] [[]] 0 0 where
  len := rfl
  zero := rfl
  le := Nat.zero_le _
  run := by
    intro j w h
    cases j with
    | zero => simp at h; subst h; exact ⟨rfl, by simp⟩
    | succ j => simp at h
  inc := by
    intro j j' w w' hj _ h
    cases j' with
    | zero => omega
    | succ j' => simp at h
  from' := by
    intro j w hj h
    cases j with
    | zero => omega
    | succ j => simp at h
  done := by
    intro j0 w0 a0 _ _ h
    omega

variable {step s0 K}
variable {L : List σ} {W : List (List Nat)} {i a : Nat}
theorem Bf.next (h : Bf step s0 K L W i a) (ha : a = K) : Bf step s0 K L W (i + 1) 0 where
  len := h.len
  zero := h.zero
  le := Nat.zero_le _
  run := h.run
  inc := h.inc
  from' := by
    intro j w hj hw
    obtain ⟨j0, w0, a0, h1, h2, h3, h4, h5⟩ := h.from' j w hj hw
    exact ⟨j0, w0, a0, h1, h2, h3, h4, .inl (by omega)⟩
  done := by
    intro j0 w0 a0 h1 h2 h3
    exact h.done j0 w0 a0 h1 h2 (by omega)
theorem Bf.hit (h : Bf step s0 K L W i a) (ha : a < K) {w : List Nat} (hi : W[i]? = some w) {j : Nat} (hj : 0 < j) (hL : L[j]? = some (step (runG step s0 w) a)) : Bf step s0 K L W i (a + 1) where
  len := h.len
  zero := h.zero
  le := ha
  run := h.run
  inc := h.inc
  from' := by
    intro j w hj hw
    obtain ⟨j0, w0, a0, h1, h2, h3, h4, h5⟩ := h.from' j w hj hw
    exact ⟨j0, w0, a0, h1, h2, h3, h4, by omega⟩
  done := by
    intro j0 w0 a0 h1 h2 h3
    by_cases e : j0 = i ∧ a0 = a
    · obtain ⟨rfl, rfl⟩ := e
      rw [hi, Option.some.injEq] at h1
      subst h1
      have hjl : j < W.length := by rw [h.len]; exact (List.getElem?_eq_some_iff.1 hL).1
      have hw' : W[j]? = some W[j] := List.getElem?_eq_getElem hjl
      obtain ⟨r1, _⟩ := h.run j _ hw'
      rw [hL, Option.some.injEq] at r1
      refine ⟨j, W[j], hj, hw', r1.symm, ?_⟩
      obtain ⟨j1, w1, a1, g1, g2, g3, g4, g5⟩ := h.from' j _ hj hw'
      rw [g3]
      rcases g5 with g5 | ⟨rfl, g5⟩
      · exact .inl (slt_snoc _ _ (h.inc j1 j0 _ _ g5 g2 hi))
      · rw [hi, Option.some.injEq] at g2
        subst g2
        exact .inl (slt_last _ g5)
    · exact h.done j0 w0 a0 h1 h2 (by omega)
theorem Bf.miss (h : Bf step s0 K L W i a) (ha : a < K) {w : List Nat} (hi : W[i]? = some w) : Bf step s0 K (L ++ [step (runG step s0 w) a]) (W ++ [w ++ [a]]) i (a + 1) := by
  have hil := (List.getElem?_eq_some_iff.1 hi).1
  have old : ∀ {j : Nat} {x : List Nat}, (W ++ [w ++ [a]])[j]? = some x → (W[j]? = some x ∧ j < W.length) ∨ (j = W.length ∧ x = w ++ [a]) := fun {j x} hj => by
    by_cases hl : j < W.length
    · rw [List.getElem?_append_left hl] at hj; exact .inl ⟨hj, hl⟩
    · rw [List.getElem?_append_right (by omega)] at hj
      obtain ⟨k1, k2⟩ := List.getElem?_eq_some_iff.1 hj
      simp at k1
      have : j = W.length := by omega
      subst this
      simp at k2
      exact .inr ⟨rfl, k2.symm⟩
  have new : ∀ {j : Nat} {x : List Nat}, W[j]? = some x → (W ++ [w ++ [a]])[j]? = some x := fun {j x} hj => by
    rw [List.getElem?_append_left (List.getElem?_eq_some_iff.1 hj).1]; exact hj
  refine ⟨by simp [h.len], new h.zero, ha, ?_, ?_, ?_, ?_⟩
  · intro j x hx
    rcases old hx with ⟨hx, hl⟩ | ⟨rfl, rfl⟩
    · obtain ⟨r1, r2⟩ := h.run j x hx
      exact ⟨by rw [List.getElem?_append_left (by rw [← h.len]; exact hl)]; exact r1, r2⟩
    · refine ⟨by rw [h.len, List.getElem?_append_right (Nat.le_refl _), runG_snoc]; simp, fun y hy => ?_⟩
      rcases List.mem_append.1 hy with hy | hy
      · exact (h.run i w hi).2 y hy
      · simp at hy; omega
  · intro j j' x x' hj hx hx'
    rcases old hx with ⟨hx, hl⟩ | ⟨rfl, rfl⟩
    · rcases old hx' with ⟨hx', hl'⟩ | ⟨rfl, rfl⟩
      · exact h.inc j j' x x' hj hx hx'
      · by_cases h0 : 0 < j
        · obtain ⟨j0, w0, a0, g1, g2, g3, g4, g5⟩ := h.from' j x h0 hx
          rw [g3]
          rcases g5 with g5 | ⟨rfl, g5⟩
          · exact slt_snoc _ _ (h.inc j0 i _ _ g5 g2 hi)
          · rw [hi, Option.some.injEq] at g2
            subst g2
            exact slt_last _ g5
        · have : j = 0 := by omega
          subst this
          rw [h.zero, Option.some.injEq] at hx
          subst hx
          exact .inl (by simp)
    · rcases old hx' with ⟨hx', hl'⟩ | ⟨rfl, rfl⟩ <;> omega
  · intro j x hj hx
    rcases old hx with ⟨hx, hl⟩ | ⟨rfl, rfl⟩
    · obtain ⟨j0, w0, a0, h1, h2, h3, h4, h5⟩ := h.from' j x hj hx
      exact ⟨j0, w0, a0, h1, new h2, h3, h4, by omega⟩
    · exact ⟨i, w, a, hil, new hi, rfl, ha, .inr ⟨rfl, by omega⟩⟩
  · intro j0 w0 a0 h1 h2 h3
    rcases old h1 with ⟨hw1, hl⟩ | ⟨rfl, rfl⟩
    · by_cases e : j0 = i ∧ a0 = a
      · obtain ⟨rfl, rfl⟩ := e
        rw [hi, Option.some.injEq] at hw1
        subst hw1
        exact ⟨W.length, w ++ [a0], by omega, by simp, runG_snoc _ _ _ _, .inr rfl⟩
      · obtain ⟨j, x, k1, k2, k3, k4⟩ := h.done j0 w0 a0 hw1 h2 (by omega)
        exact ⟨j, x, k1, new k2, k3, k4⟩
    · omega

/-- Each word leads to a place that is met, or isn't ahead of what comes next. -/
theorem Bf.cover (h : Bf step s0 K L W i a) {w : List Nat} (hi : W[i]? = some w) : ∀ (n : Nat) (v : List Nat), v.length = n → v ≠ [] → (∀ x ∈ v, x < K) → (∃ (j : Nat) (x : List Nat), 0 < j ∧ W[j]? = some x ∧ runG step s0 x = runG step s0 v ∧ sle x v) ∨ sle (w ++ [a]) v := by
  intro n
  induction n with
  | zero => intro v hv hne; exact absurd (List.length_eq_zero_iff.1 hv) hne
  | succ n ih =>
    intro v hv hne hx
    obtain ⟨u, c, rfl⟩ : ∃ u c, v = u ++ [c] := ⟨v.dropLast, v.getLast hne, (List.dropLast_concat_getLast hne).symm⟩
    have hc : c < K := hx c (by simp)
    have hu : ∀ x ∈ u, x < K := fun x h => hx x (by simp [h])
    have key : ∀ (j : Nat) (x : List Nat), W[j]? = some x → runG step s0 x = runG step s0 u → sle x u → (∃ (j : Nat) (x : List Nat), 0 < j ∧ W[j]? = some x ∧ runG step s0 x = runG step s0 (u ++ [c]) ∧ sle x (u ++ [c])) ∨ sle (w ++ [a]) (u ++ [c]) := by
      intro j x h1 h2 h3
      by_cases hp : j < i ∨ (j = i ∧ c < a)
      · obtain ⟨j', x', k1, k2, k3, k4⟩ := h.done j x c h1 hc hp
        exact .inl ⟨j', x', k1, k2, by rw [k3, runG_snoc, h2], sle_trans k4 (sle_snoc c h3)⟩
      · refine .inr (sle_trans ?_ (sle_snoc c h3))
        by_cases e : j = i
        · subst e
          rw [hi, Option.some.injEq] at h1
          subst h1
          by_cases e : a = c
          · subst e; exact .inr rfl
          · exact .inl (slt_last _ (by omega))
        · exact .inl (slt_snoc _ _ (h.inc i j _ _ (by omega) hi h1))
    by_cases he : u = []
    · subst he
      exact key 0 [] h.zero rfl (.inr rfl)
    · rcases ih u (by simpa using hv) he hu with ⟨j, x, _, k2, k3, k4⟩ | k
      · exact key j x k2 k3 k4
      · exact .inr (sle_trans k (.inl (slt_grow u c)))
theorem Bf.all (h : Bf step s0 K L W L.length 0) : ∀ (n : Nat) (v : List Nat), v.length = n → v ≠ [] → (∀ x ∈ v, x < K) → ∃ j : Nat, 0 < j ∧ L[j]? = some (runG step s0 v) := by
  have key : ∀ (j : Nat) (x u : List Nat) (c : Nat), W[j]? = some x → runG step s0 x = runG step s0 u → c < K → ∃ j' : Nat, 0 < j' ∧ ∃ x' : List Nat, W[j']? = some x' ∧ runG step s0 x' = runG step s0 (u ++ [c]) := by
    intro j x u c h1 h2 hc
    have hj := (List.getElem?_eq_some_iff.1 h1).1
    have hl := h.len
    obtain ⟨j', x', k1, k2, k3, _⟩ := h.done j x c h1 hc (.inl (by omega))
    exact ⟨j', k1, x', k2, by rw [k3, runG_snoc, h2]⟩
  have main : ∀ (n : Nat) (v : List Nat), v.length = n → v ≠ [] → (∀ x ∈ v, x < K) → ∃ j' : Nat, 0 < j' ∧ ∃ x' : List Nat, W[j']? = some x' ∧ runG step s0 x' = runG step s0 v := by
    intro n
    induction n with
    | zero => intro v hv hne; exact absurd (List.length_eq_zero_iff.1 hv) hne
    | succ n ih =>
      intro v hv hne hx
      obtain ⟨u, c, rfl⟩ : ∃ u c, v = u ++ [c] := ⟨v.dropLast, v.getLast hne, (List.dropLast_concat_getLast hne).symm⟩
      have hc : c < K := hx c (by simp)
      by_cases he : u = []
      · subst he
        exact key 0 [] [] c h.zero rfl hc
      · obtain ⟨j, _, x, k2, k3⟩ := ih u (by simpa using hv) he fun x h => hx x (by simp [h])
        exact key j x u c k2 k3 hc
  intro n v h1 h2 h3
  obtain ⟨j, hj, x, k1, k2⟩ := main n v h1 h2 h3
  exact ⟨j, hj, by rw [← k2]; exact (h.run j x k1).1⟩

/-- The first word that is told of, if there is one. -/
def FirstW (K : Nat) (T : List Nat → Bool) (o : Option (List Nat)) : Prop := match o with
  | none => ∀ v, v ≠ [] → (∀ x ∈ v, x < K) → T v = false
  | some w => w ≠ [] ∧ (∀ x ∈ w, x < K) ∧ T w = true ∧ ∀ v, v ≠ [] → (∀ x ∈ v, x < K) → T v = true → sle w v
theorem FirstW.unique {K : Nat} {T : List Nat → Bool} {o o' : Option (List Nat)} (h : FirstW K T o) (h' : FirstW K T o') : o = o' := by
  cases o with
  | none =>
    cases o' with
    | none => rfl
    | some w =>
      obtain ⟨a, b, c, _⟩ := h'
      rw [h w a b] at c; simp at c
  | some w =>
    obtain ⟨a, b, c, d⟩ := h
    cases o' with
    | none => rw [h' w a b] at c; simp at c
    | some w' =>
      obtain ⟨a', b', c', d'⟩ := h'
      rw [sle_antisymm (d w' a' b' c') (d' w a b c)]
open Classical in
noncomputable def firstO (K : Nat) (T : List Nat → Bool) : Option (List Nat) := if h : ∃ w, FirstW K T (some w) then some h.choose else none
theorem firstO_eq {K : Nat} {T : List Nat → Bool} {o : Option (List Nat)} (h : FirstW K T o) : firstO K T = o := by
  rw [firstO]
  split
  · rename_i hw
    exact FirstW.unique hw.choose_spec h
  · rename_i hw
    cases o with
    | none => rfl
    | some w => exact absurd ⟨w, h⟩ hw
theorem Bf.found (h : Bf step s0 K L W i a) (ha : a < K) {w : List Nat} (hi : W[i]? = some w) {q : σ → Bool} (hq : q (step (runG step s0 w) a) = true) (hn : ∀ (j : Nat) (s : σ), 0 < j → L[j]? = some s → q s = false) : FirstW K (fun v => q (runG step s0 v)) (some (w ++ [a])) := by
  refine ⟨by simp, fun x hx => ?_, by show q _ = true; rw [runG_snoc]; exact hq, fun v h1 h2 h3 => ?_⟩
  · rcases List.mem_append.1 hx with hx | hx
    · exact (h.run i w hi).2 x hx
    · simp at hx; omega
  · rcases h.cover hi v.length v rfl h1 h2 with ⟨j, x, k1, k2, k3, _⟩ | k
    · have := hn j _ k1 (h.run j x k2).1
      rw [k3] at this
      have h3 : q (runG step s0 v) = true := h3
      rw [this] at h3; simp at h3
    · exact k
theorem Bf.none (h : Bf step s0 K L W L.length 0) {q : σ → Bool} (hn : ∀ (j : Nat) (s : σ), 0 < j → L[j]? = some s → q s = false) : FirstW K (fun v => q (runG step s0 v)) none := fun v h1 h2 => by
  obtain ⟨j, hj, k⟩ := h.all v.length v rfl h1 h2
  exact hn j _ hj k
end

end Tab

/- Places met level by level: plain. -/
namespace Tab
open Go
set_option maxRecDepth 10000
set_option linter.unusedVariables false
set_option linter.unusedSimpArgs false
set_option linter.unusedSectionVars false

theorem metL_new : ∀ (l acc r : List Nat), metL acc l = acc ++ r → ∀ y ∈ r, y ∉ acc := by
  intro l
  induction l with
  | nil => intro acc r h y hy; simp [metL] at h; subst h; simp at hy
  | cons z l ih =>
    intro acc r h y hy
    rw [metL] at h
    split at h
    · exact ih acc r h y hy
    · rename_i hz
      obtain ⟨r', hr'⟩ := metL_prefix l (acc ++ [z])
      have h2 : acc ++ r = acc ++ ([z] ++ r') := by rw [← h, hr', List.append_assoc]
      have h3 := List.append_cancel_left h2
      subst h3
      rcases List.mem_append.1 hy with hy | hy
      · simp at hy; subst hy; exact hz
      · intro hya
        exact ih (acc ++ [z]) r' hr' y hy (by simp [hya])
section
variable (K : Nat) (st : Nat → Nat → Nat)
def tosC (x : Nat) : List Nat := (List.range K).map (st x)
theorem tosC_length (x) : (tosC K st x).length = K := by simp [tosC]
theorem tosC_get (x a) (h : a < (tosC K st x).length) : (tosC K st x)[a] = st x a := by simp [tosC]
def lvS (M last : List Nat) : List Nat := metL M (last.flatMap (tosC K st))
def lvL : Nat → List Nat → List Nat → List (List Nat)
  | 0, _, _ => []
  | n + 1, M, last => if last = [] then [] else (lvS K st M last).drop M.length :: lvL n (lvS K st M last) ((lvS K st M last).drop M.length)
theorem lvL_nil (n M) : lvL K st n M [] = [] := by cases n <;> simp [lvL]
theorem lvL_cons {n M last} (h : last ≠ []) : lvL K st (n + 1) M last = (lvS K st M last).drop M.length :: lvL K st n (lvS K st M last) ((lvS K st M last).drop M.length) := by rw [lvL, if_neg h]
theorem lvS_pre (M last) : lvS K st M last = M ++ (lvS K st M last).drop M.length := by
  obtain ⟨r, hr⟩ := metL_prefix (last.flatMap (tosC K st)) M
  rw [← lvS] at hr
  rw [hr]; simp
theorem lvS_mem (M last y) : y ∈ lvS K st M last ↔ y ∈ M ∨ ∃ x ∈ last, ∃ a, a < K ∧ st x a = y := by
  rw [lvS, metL_mem]
  simp [tosC]

/-- Every place of a level is where a word of so many letters leads. -/
theorem lvL_sound : ∀ (n k : Nat) (M last : List Nat), (∀ x ∈ last, ∃ w : List Nat, w.length = k ∧ (∀ a ∈ w, a < K) ∧ runG st 0 w = x) → ∀ (j : Nat) (row : List Nat), (lvL K st n M last)[j]? = some row → ∀ x ∈ row, ∃ w : List Nat, w.length = k + j + 1 ∧ (∀ a ∈ w, a < K) ∧ runG st 0 w = x
  | 0, _, _, _, _, j, row, h, _, _ => by simp [lvL] at h
  | n + 1, k, M, last, hl, j, row, h, x, hx => by
    by_cases hn : last = []
    · subst hn; rw [lvL_nil] at h; simp at h
    rw [lvL_cons K st hn] at h
    have hrow : ∀ y ∈ (lvS K st M last).drop M.length, ∃ w : List Nat, w.length = k + 1 ∧ (∀ a ∈ w, a < K) ∧ runG st 0 w = y := by
      obtain ⟨r, hr⟩ := metL_prefix (last.flatMap (tosC K st)) M
      intro y hy
      have hy1 : y ∈ r := by rw [lvS, hr] at hy; simpa using hy
      have hy2 : y ∈ last.flatMap (tosC K st) := by
        clear hy hl h
        rcases (metL_mem y (last.flatMap (tosC K st)) M).1 (by rw [hr]; simp [hy1]) with h | h
        · exact absurd h (metL_new _ _ _ hr y hy1)
        · exact h
      obtain ⟨x0, hx0, ha⟩ := List.mem_flatMap.1 hy2
      obtain ⟨a, ha1, ha2⟩ := List.mem_map.1 ha
      obtain ⟨w, h1, h2, h3⟩ := hl x0 hx0
      refine ⟨w ++ [a], by simp [h1], fun b hb => ?_, by rw [runG_snoc, h3, ha2]⟩
      rcases List.mem_append.1 hb with hb | hb
      · exact h2 b hb
      · simp at hb; subst hb; exact List.mem_range.1 ha1
    cases j with
    | zero => simp only [List.getElem?_cons_zero, Option.some.injEq] at h; subst h; exact hrow x hx
    | succ j =>
      rw [List.getElem?_cons_succ] at h
      obtain ⟨w, h1, h2⟩ := lvL_sound n (k + 1) _ _ hrow j row h x hx
      exact ⟨w, by omega, h2⟩

def lvEnough (N n : Nat) (M last : List Nat) : Prop := last = [] ∨ N - M.length + 2 ≤ n
theorem lvEnough.next {N n : Nat} {M last : List Nat} (h : lvEnough N (n + 1) M last) (hl : last ≠ []) (hn : (lvS K st M last).length ≤ N) : lvEnough N n (lvS K st M last) ((lvS K st M last).drop M.length) := by
  rcases h with h | h
  · exact absurd h hl
  by_cases hz : (lvS K st M last).drop M.length = []
  · exact .inl hz
  · refine .inr ?_
    have h1 : ((lvS K st M last).drop M.length).length ≠ 0 := fun e => hz (List.length_eq_zero_iff.1 e)
    rw [List.length_drop] at h1
    omega

theorem runG_cons' {σ : Type} (s : σ → Nat → σ) (x : σ) (a : Nat) (w : List Nat) : runG s x (a :: w) = runG s (s x a) w := rfl
/-- Each word leads to a place of a level that isn't behind its length. -/
theorem lvL_cover (N : Nat) : ∀ (n : Nat) (M last S : List Nat), lvEnough N n M last → (∀ x ∈ S, ∀ a, a < K → st x a ∈ M) → (∀ x ∈ M, x ∈ S ∨ x ∈ last) → (∀ n M last, lvEnough N n M last → True) → (∀ x ∈ M, x < N) → (∀ x ∈ last, x < N) → M.Nodup → (∀ x a, x < N → a < K → st x a < N) →
    ∀ (v : List Nat), v ≠ [] → (∀ a ∈ v, a < K) → ∀ x, x ∈ S ∨ x ∈ last → runG st x v ∈ M ∨ ∃ (j : Nat) (row : List Nat), (lvL K st n M last)[j]? = some row ∧ runG st x v ∈ row ∧ j + 1 ≤ v.length := by
  intro n
  induction n with
  | zero =>
    intro M last S he hS hM _ _ _ _ _ v
    have hl : last = [] := by rcases he with h | h; exact h; omega
    subst hl
    induction v with
    | nil => intro h; exact absurd rfl h
    | cons a v ih =>
      intro _ hv x hx
      have hx' : x ∈ S := by rcases hx with h | h; exact h; simp at h
      have hy := hS x hx' a (hv a (by simp))
      by_cases hve : v = []
      · subst hve; exact .inl hy
      · rcases ih hve (fun b hb => hv b (by simp [hb])) (st x a) (hM _ hy) with h | ⟨j, row, h1, h2, h3⟩
        · exact .inl h
        · rw [lvL_nil] at h1; simp at h1
  | succ n ihn =>
    intro M last S he hS hM _ hMN hlN hMd hst v
    by_cases hl : last = []
    · subst hl
      induction v with
      | nil => intro h; exact absurd rfl h
      | cons a v ih =>
        intro _ hv x hx
        have hx' : x ∈ S := by rcases hx with h | h; exact h; simp at h
        have hy := hS x hx' a (hv a (by simp))
        by_cases hve : v = []
        · subst hve; exact .inl hy
        · rcases ih hve (fun b hb => hv b (by simp [hb])) (st x a) (hM _ hy) with h | ⟨j, row, h1, h2, h3⟩
          · exact .inl h
          · rw [lvL_nil] at h1; simp at h1
    · have hpre := lvS_pre K st M last
      have hSN : ∀ y ∈ lvS K st M last, y < N := fun y hy => by
        rcases (lvS_mem K st M last y).1 hy with h | ⟨x, hx, a, ha, rfl⟩
        · exact hMN y h
        · exact hst x a (hlN x hx) ha
      have hSd : (lvS K st M last).Nodup := metL_nodup _ _ hMd
      have hSl : (lvS K st M last).length ≤ N := nodup_le hSd hSN
      have he' := he.next K st hl hSl
      have hdrop : ∀ y ∈ (lvS K st M last).drop M.length, y < N := fun y hy => hSN y (List.mem_of_mem_drop hy)
      have hsplit : ∀ y ∈ lvS K st M last, y ∈ M ∨ y ∈ (lvS K st M last).drop M.length := fun y hy => by rw [hpre] at hy; exact List.mem_append.1 hy
      have IH := ihn (lvS K st M last) ((lvS K st M last).drop M.length) (S ++ last) he'
        (fun x hx a ha => by
          rcases List.mem_append.1 hx with h | h
          · exact (lvS_mem K st M last _).2 (.inl (hS x h a ha))
          · exact (lvS_mem K st M last _).2 (.inr ⟨x, h, a, ha, rfl⟩))
        (fun x hx => by
          rcases hsplit x hx with h | h
          · exact .inl (List.mem_append.2 (hM x h))
          · exact .inr h) (fun _ _ _ _ => trivial) hSN hdrop hSd hst
      rw [lvL_cons K st hl]
      generalize lvL K st n (lvS K st M last) ((lvS K st M last).drop M.length) = T at *
      generalize (lvS K st M last).drop M.length = nx at *
      induction v with
      | nil => intro h; exact absurd rfl h
      | cons a v ih =>
        intro _ hv x hx
        have ha := hv a (by simp)
        have hv' : ∀ b ∈ v, b < K := fun b hb => hv b (by simp [hb])
        rw [runG_cons']
        have old : st x a ∈ M → runG st (st x a) v ∈ M ∨ ∃ (j : Nat) (row : List Nat), (nx :: T)[j]? = some row ∧ runG st (st x a) v ∈ row ∧ j + 1 ≤ (a :: v).length := fun hy => by
          by_cases hve : v = []
          · subst hve; exact .inl hy
          · rcases ih hve hv' (st x a) (hM _ hy) with h | ⟨j, row, h1, h2, h3⟩
            · exact .inl h
            · exact .inr ⟨j, row, h1, h2, by simp; omega⟩
        rcases hx with hx | hx
        · exact old (hS x hx a ha)
        · rcases hsplit _ ((lvS_mem K st M last _).2 (.inr ⟨x, hx, a, ha, rfl⟩)) with hy | hy
          · exact old hy
          · by_cases hve : v = []
            · subst hve; exact .inr ⟨0, nx, rfl, hy, by simp⟩
            · rcases IH v hve hv' (st x a) (.inr hy) with h | ⟨j, row, h1, h2, h3⟩
              · rcases hsplit _ h with h | h
                · exact .inl h
                · exact .inr ⟨0, nx, rfl, h, by simp⟩
              · exact .inr ⟨j + 1, row, by simpa using h1, h2, by simp; omega⟩
end

/-- Which places are met. -/
def metB (N : Nat) (M : List Nat) : List Bool := (List.range N).map fun x => decide (x ∈ M)
theorem metB_length (N M) : (metB N M).length = N := by simp [metB]
theorem metB_get {N M x} (h : x < N) : (metB N M)[x]? = some (decide (x ∈ M)) := by simp [metB, h]
theorem metB_set (N M x) : (metB N M).set x true = metB N (M ++ [x]) := by
  refine List.ext_getElem (by simp [metB]) fun j h1 h2 => ?_
  simp only [metB, List.getElem_set, List.getElem_map, List.getElem_range, List.mem_append, List.mem_singleton]
  by_cases e : x = j
  · subst e; simp
  · rw [if_neg e]
    have : ¬ j = x := fun h => e h.symm
    simp [this]
theorem metB_nil (N) : metB N [] = List.replicate N false := by
  refine List.ext_getElem (by simp [metB]) fun j h1 h2 => ?_
  simp [metB]

end Tab

/- tabardref20: Finite, walked. -/
namespace Tab
open Go Go.Proofs
set_option maxRecDepth 10000
set_option linter.unusedVariables false
set_option linter.unusedSimpArgs false
set_option linter.unusedSectionVars false

structure EnI (g : Gr) (S E : List Bool) (p a : Nat) : Prop where
  len : E.length = g.n
  snd : ∀ y, E[y]? = some true → ∃ p', S[p']? = some true ∧ ∃ a', a' < g.K ∧ y = g.st p' a'
  cpl : ∀ p' a', (p' < p ∨ (p' = p ∧ a' < a)) → a' < g.K → S[p']? = some true → E[g.st p' a']? = some true
theorem EnI.start (g : Gr) (S : List Bool) : EnI g S (List.replicate g.n false) 0 0 := by
  refine ⟨by simp, fun y h => ?_, fun p' a' h => by omega⟩
  rw [List.getElem?_replicate] at h
  split at h <;> simp at h
theorem EnI.put {g : Gr} (hg : g.Ok) {S E : List Bool} {p a : Nat} (h : EnI g S E p a) (hp : p < g.n) (ha : a < g.K) (hs : S[p]? = some true) : EnI g S (E.set (g.st p a) true) p (a + 1) := by
  have hst := hg.stay p a hp ha
  refine ⟨by simpa using h.len, fun y hy => ?_, fun p' a' h1 h2 h3 => ?_⟩
  · rw [List.getElem?_set] at hy
    split at hy
    · rename_i e
      exact ⟨p, hs, a, ha, e.symm⟩
    · exact h.snd y hy
  · rw [List.getElem?_set]
    split
    · rw [if_pos (by have := h.len; omega)]
    · rename_i e
      by_cases e2 : p' = p ∧ a' = a
      · obtain ⟨rfl, rfl⟩ := e2; exact absurd rfl e
      · exact h.cpl p' a' (by omega) h2 h3
theorem EnI.row {g : Gr} {S E : List Bool} {p a : Nat} (h : EnI g S E p a) (hh : S[p]? = some false ∨ a = g.K) : EnI g S E (p + 1) 0 := by
  refine ⟨h.len, h.snd, fun p' a' h1 h2 h3 => ?_⟩
  by_cases e : p' = p
  · subst e
    rcases hh with hh | rfl
    · rw [hh] at h3; simp at h3
    · exact h.cpl p' a' (.inr ⟨rfl, h2⟩) h2 h3
  · exact h.cpl p' a' (by omega) h2 h3
theorem EnI.ok {g : Gr} {S E : List Bool} (h : EnI g S E g.n 0) (hl : S.length = g.n) : EnOk g S E := by
  refine ⟨h.len, fun y hy => ⟨h.snd y, ?_⟩⟩
  rintro ⟨p, hp, a, ha, rfl⟩
  have := (List.getElem?_eq_some_iff.1 hp).1
  exact h.cpl p a (.inl (by omega)) ha hp
theorem bAt_get {L : List Bool} {q n : Nat} (hl : L.length = n) (hq : q < n) : L[q]? = some (bAt L q) := by
  rw [bAt, List.getElem?_eq_getElem (by omega)]; rfl
set_option maxHeartbeats 4000000 in
theorem r20_Finite (d : Den) (hd : rightS d = true) : Pure Try.prog 18 [aDen d] (.bool (finT (grD d))) := by
  have hrow := fun q hq => gr_row hd (q := q) hq
  have hgo := grD_ok hd
  have hlet := hgo.let'
  have hbig := hgo.big
  have hpos := hgo.pos
  have hlv := r20_Live d hd
  have hll := liveL_length (grD d)
  have hlg := fun q (h : q < (grD d).n) => liveL_get (grD d) h
  have hsl := s0L_length (g := grD d)
  have hl0 := hlg 0 hpos
  refine Pure.of_sw 145 Try.func18 rfl Try.ntmps18 (by kernel_rfl) (Nat.le_of_ble_eq_true (by kernel_rfl)) (by simp [closeds, AV.closed, aSs_closed, aIs_closed, aBs_closed, aRs_closed, aDen_closed]) (by simp [AV.closed, closeds, aSs_closed, aIs_closed, aBs_closed, aRs_closed, aDen_closed]) ?_; refine SW.of_vc ?_
  repeat first | refine opsStep ?_ | refine codeStep ?_ | refine drawStep ?_
  refine callP hlv ?_
  repeat first | refine opsStep ?_ | refine codeStep ?_ | refine drawStep ?_
  refine guardE_of ⟨by show 0 ≤ (((grD d).n : Nat) : Int); omega, Int.le_refl _, by show (1 : Int) * (((grD d).n : Nat) : Int) ≤ _; omega, by show (((grD d).n : Nat) : Int) ≤ _; omega⟩ ?_
  iterate 2 refine opsStep ?_
  refine VCode.ent (Ent.fr' (l := [(1, .ref 0 0 0), (3, .sl .any (grD d).n ((liveL (grD d)).map .bool)), (4, .hs 1 0 0 (grD d).n 1)]) (H' := [.cells 0 d.cells, .cells 0 ((List.replicate (grD d).n false).map .bool)]) ⟨(by kernel_rfl), (by kernel_rfl), (by kernel_rfl), trivial⟩ (Eq.trans (b := [.cells 0 d.cells, .cells 0 (reps [.bool false] (((grD d).n : Nat) : Int).toNat)]) (by kernel_rfl) (by rw [reps_one]; simp))) ?_
  repeat first | refine opsStep ?_ | refine codeStep ?_ | refine drawStep ?_
  refine guardE_of (by show (0 : Int) ≤ 0 ∧ (0 : Int) < (((grD d).n : Nat) : Int); omega) ?_
  repeat first | refine opsStep ?_ | refine codeStep ?_ | refine drawStep ?_
  refine optE_of (c := .bool (liveB (grD d) 0)) (by show ((liveL (grD d)).map AV.bool)[0]? = _; simp [hl0]) ?_
  repeat first | refine opsStep ?_ | refine codeStep ?_ | refine drawStep ?_
  refine guardE_of (by show (0 : Int) ≤ 0 ∧ (0 : Int) < (((grD d).n : Nat) : Int); omega) ?_
  repeat first | refine opsStep ?_ | refine codeStep ?_ | refine drawStep ?_
  refine guardE_of ⟨rfl, by decide, by show 0 + 0 * 1 + 1 ≤ ((List.replicate (grD d).n false).map AV.bool).length; simp; omega⟩ ?_
  iterate 1 refine opsStep ?_
  refine VCode.ent (Ent.fr' (l := [(1, .ref 0 0 0), (3, .sl .any (grD d).n ((liveL (grD d)).map .bool)), (4, .hs 1 0 0 (grD d).n 1)]) (H' := [.cells 0 d.cells, .cells 0 (((List.replicate (grD d).n false).set 0 (liveB (grD d) 0)).map .bool)]) ⟨(by kernel_rfl), (by kernel_rfl), (by kernel_rfl), trivial⟩ (Eq.trans (b := [.cells 0 d.cells, .cells 0 (over ((List.replicate (grD d).n false).map .bool) (0 + 0 * 1) [.bool (liveB (grD d) 0)])]) (by kernel_rfl) (by rw [Nat.zero_mul, Nat.add_zero, over_one (by simp; omega), ← List.map_set]))) ?_
  iterate 5 (first | refine opsStep ?_ | refine codeStep ?_)
  have htail : ∀ (s : Slots) (H : List Blk), frOk s [(1, .ref 0 0 0), (3, .sl .any (grD d).n ((liveL (grD d)).map .bool)), (4, .hs 1 0 0 (grD d).n 1)] → H.take 2 = [.cells 0 d.cells, .cells 0 ((s0L (grD d)).map .bool)] → Ent (145 : Fr) s H (fr [(1, .ref 0 0 0), (3, .sl .any (grD d).n ((liveL (grD d)).map .bool)), (4, .hs 1 0 0 (grD d).n 1)]) [.cells 0 d.cells, .cells 0 ((s0L (grD d)).map .bool)] := fun s H h1 h2 => by
    refine Ent.frT 2 h1 h2 (Nat.zero_le _) ?_ ?_
    · simp [frBel, AV.bel, bels_map]
    · simp [blksBel, Blk.bel, cells_bel, bels_map, AV.bel]
  refine VCode.upto (fr [(1, .ref 0 0 0), (3, .sl .any (grD d).n ((liveL (grD d)).map .bool)), (4, .hs 1 0 0 (grD d).n 1)]) [.cells 0 d.cells, .cells 0 ((s0L (grD d)).map .bool)] ?_ ?_
  · cases hb0 : liveB (grD d) 0 with
    | false =>
      have hnl : ¬ liveP (grD d) 0 := fun h => by have := (liveB_iff (grD d)).2 h; rw [hb0] at this; simp at this
      have hs0 : s0L (grD d) = List.replicate (grD d).n false := (s0L_eq (by simp) fun q hq => by
        rw [List.getElem?_replicate, if_pos hq]
        simp [s0_dead hnl q]).symm
      have hset : (List.replicate (grD d).n false).set 0 false = s0L (grD d) := by rw [hs0]; exact set_same (by rw [List.getElem?_replicate, if_pos hpos])
      rw [hb0] at hl0
      rw [hset]
      refine VCode.ent (Ent.fr' (l := [(1, .ref 0 0 0), (3, .sl .any (grD d).n ((liveL (grD d)).map .bool)), (4, .hs 1 0 0 (grD d).n 1), (5, .hs 2 0 0 1 1)]) (H' := [.cells 0 d.cells, .cells 0 ((s0L (grD d)).map .bool), .cells 0 [.int .i64 0]]) ⟨(by kernel_rfl), (by kernel_rfl), (by kernel_rfl), (by kernel_rfl), trivial⟩ (by kernel_rfl)) ?_
      repeat first | refine opsStep ?_ | refine codeStep ?_ | refine drawStep ?_
      refine loopE_of (ι := Unit) (fun _ => (fr [(1, .ref 0 0 0), (3, .sl .any (grD d).n ((liveL (grD d)).map .bool)), (4, .hs 1 0 0 (grD d).n 1), (5, .hs 2 0 0 1 1), (6, .int .i64 0)], [.cells 0 d.cells, .cells 0 ((s0L (grD d)).map .bool), .cells 0 [.int .i64 0]])) (fun _ => 0) () (Ent.fr' ⟨(by kernel_rfl), (by kernel_rfl), (by kernel_rfl), (by kernel_rfl), (by kernel_rfl), trivial⟩ (by kernel_rfl)) ?_
      rintro ⟨⟩
      repeat first | refine opsStep ?_ | refine codeStep ?_ | refine drawStep ?_
      refine guardE_of (by show (0 : Int) ≤ 0 ∧ (0 : Int) < (((grD d).n : Nat) : Int); omega) ?_
      repeat first | refine opsStep ?_ | refine codeStep ?_ | refine drawStep ?_
      refine optE_of (c := .bool false) (by show ((liveL (grD d)).map AV.bool)[0]? = _; simp [hl0]) ?_
      repeat first | refine opsStep ?_ | refine codeStep ?_ | refine drawStep ?_
      exact htail _ _ ⟨(by kernel_rfl), (by kernel_rfl), (by kernel_rfl), trivial⟩ (by kernel_rfl)
    | true =>
      have hlp := (liveB_iff (grD d)).1 hb0
      have hst : (List.replicate (grD d).n false).set 0 true = metB (grD d).n [0] := by rw [← metB_nil, metB_set]; rfl
      rw [hb0] at hl0
      rw [hst]
      refine VCode.ent (Ent.fr' (l := [(1, .ref 0 0 0), (3, .sl .any (grD d).n ((liveL (grD d)).map .bool)), (4, .hs 1 0 0 (grD d).n 1), (5, .hs 2 (([] : List Nat)).length 0 ((([] : List Nat)).length + 1) 1)]) (H' := [.cells 0 d.cells, .cells 0 ((metB (grD d).n (0 :: (([] : List Nat)))).map .bool), .cells (([] : List Nat)).length (iW (0 :: (([] : List Nat))))]) ⟨(by kernel_rfl), (by kernel_rfl), (by kernel_rfl), (by kernel_rfl), trivial⟩ (by kernel_rfl)) ?_
      repeat first | refine opsStep ?_ | refine codeStep ?_ | refine drawStep ?_
      refine loopE_of (ι := {x : Nat × List Nat // x.1 ≤ x.2.length + 1 ∧ BfI (grD d) (0 :: x.2) ∧ BfC (grD d) (0 :: x.2) x.1 0}) (fun x => (fr [(1, .ref 0 0 0), (3, .sl .any (grD d).n ((liveL (grD d)).map .bool)), (4, .hs 1 0 0 (grD d).n 1), (5, .hs 2 (x.1.2).length 0 ((x.1.2).length + 1) 1), (6, .int .i64 (x.1.1 : Nat))], [.cells 0 d.cells, .cells 0 ((metB (grD d).n (0 :: (x.1.2))).map .bool), .cells (x.1.2).length (iW (0 :: (x.1.2)))])) (fun x => (grD d).n - x.1.1) ⟨(0, []), Nat.zero_le _, BfI.start hgo hlp, BfC.start _⟩ (Ent.fr' ⟨(by kernel_rfl), (by kernel_rfl), (by kernel_rfl), (by kernel_rfl), (by kernel_rfl), trivial⟩ (by kernel_rfl)) ?_
      rintro ⟨⟨i, T1⟩, hi, hbi1, hbc1⟩
      simp only at hi hbi1 hbc1
      have hTn : T1.length + 1 ≤ (grD d).n := nodup_le hbi1.nd fun y hy => (hbi1.ok y hy).1
      repeat first | refine opsStep ?_ | refine codeStep ?_ | refine drawStep ?_
      refine decB_dec (fun hic => ?_) (fun hic => ?_)
      · have hil : i < T1.length + 1 := by have h : ((i : Nat) : Int) < ((T1.length + 1 : Nat) : Int) := hic; omega
        repeat first | refine opsStep ?_ | refine codeStep ?_ | refine drawStep ?_
        refine guardE_of (by show (0 : Int) ≤ 0 ∧ (0 : Int) < (((grD d).n : Nat) : Int); omega) ?_
        repeat first | refine opsStep ?_ | refine codeStep ?_ | refine drawStep ?_
        refine optE_of (c := .bool true) (by show ((liveL (grD d)).map AV.bool)[0]? = _; simp [hl0]) ?_
        repeat first | refine opsStep ?_ | refine codeStep ?_ | refine drawStep ?_
        obtain ⟨x, hx⟩ : ∃ x, (0 :: T1)[i]? = some x := ⟨_, List.getElem?_eq_getElem (by simpa using hil)⟩
        obtain ⟨hxn, _⟩ := hbi1.ok x (List.mem_of_getElem? hx)
        obtain ⟨r, g1, g2, g3, g4⟩ := hrow x hxn
        refine loopE_of (ι := {y : Nat × List Nat // y.1 ≤ (grD d).K ∧ i < y.2.length + 1 ∧ (0 :: y.2)[i]? = some x ∧ BfI (grD d) (0 :: y.2) ∧ BfC (grD d) (0 :: y.2) i y.1}) (fun y => (fr [(1, .ref 0 0 0), (3, .sl .any (grD d).n ((liveL (grD d)).map .bool)), (4, .hs 1 0 0 (grD d).n 1), (5, .hs 2 (y.1.2).length 0 ((y.1.2).length + 1) 1), (6, .int .i64 (i : Nat)), (7, .int .i64 (y.1.1 : Nat))], [.cells 0 d.cells, .cells 0 ((metB (grD d).n (0 :: (y.1.2))).map .bool), .cells (y.1.2).length (iW (0 :: (y.1.2)))])) (fun y => (grD d).K - y.1.1) ⟨(0, T1), Nat.zero_le _, hil, hx, hbi1, hbc1⟩ (Ent.fr' ⟨(by kernel_rfl), (by kernel_rfl), (by kernel_rfl), (by kernel_rfl), (by kernel_rfl), (by kernel_rfl), trivial⟩ (by kernel_rfl)) ?_
        rintro ⟨⟨a, T⟩, ha, hiT, hxT, hbi, hbc⟩
        simp only at ha hiT hxT hbi hbc
        have hTn : T.length + 1 ≤ (grD d).n := nodup_le hbi.nd fun y hy => (hbi.ok y hy).1
        have hgx : (iW (0 :: T))[i]? = some (.int .i64 (x : Nat)) := by simp only [iW, List.getElem?_map, hxT, Option.map_some]
        have hiwl : (iW (0 :: T)).length = T.length + 1 := by rw [iW_length]; rfl
        repeat first | refine opsStep ?_ | refine codeStep ?_ | refine drawStep ?_
        refine SW.drawn rfl (by kernel_rfl) ?_
        repeat first | refine opsStep ?_ | refine codeStep ?_ | refine drawStep ?_
        refine guardE_of (by show (0 : Int) ≤ ((i : Nat) : Int) ∧ ((i : Nat) : Int) < ((T.length + 1 : Nat) : Int); omega) ?_
        repeat first | refine opsStep ?_ | refine codeStep ?_ | refine drawStep ?_
        refine guardE_of rfl ?_
        refine optE_of rfl ?_
        refine optE_of (c := .int .i64 (x : Nat)) (by show (iW (0 :: T))[0 + i * 1]? = _; rw [Nat.zero_add, Nat.mul_one]; exact hgx) ?_
        repeat first | refine opsStep ?_ | refine codeStep ?_ | refine drawStep ?_
        refine guardE_of (by simp; omega) ?_
        repeat first | refine opsStep ?_ | refine codeStep ?_ | refine drawStep ?_
        refine optE_of (c := aIs r.1 r.2) (by simp [Value.cells, g1]) ?_
        repeat first | refine opsStep ?_ | refine codeStep ?_ | refine drawStep ?_
        refine ⟨by kernel_rfl, ?_⟩
        repeat first | refine opsStep ?_ | refine codeStep ?_ | refine drawStep ?_
        refine decB_dec (fun hac => ?_) (fun hac => ?_)
        · have hal : a < (grD d).K := by have h : ((a : Nat) : Int) < ((r.2.length : Nat) : Int) := hac; omega
          obtain ⟨g5, g6⟩ := g4 a hal
          have har : a < r.2.length := by omega
          have hlt := hlg _ g6
          have hlq := liveB_iff (grD d) (q := (grD d).st x a)
          have hput := fun h1 h2 => BfI.put hgo hbi hbc hxT hal h1 h2
          have hskip := fun h => hbc.skip (a := a) hxT h
          have hmg := metB_get (M := 0 :: T) g6
          have hms := metB_set (grD d).n (0 :: T) ((grD d).st x a)
          have hml := metB_length (grD d).n (0 :: T)
          generalize (grD d).st x a = to at *
          repeat first | refine opsStep ?_ | refine codeStep ?_ | refine drawStep ?_
          refine SW.drawn rfl (by kernel_rfl) ?_
          repeat first | refine opsStep ?_ | refine codeStep ?_ | refine drawStep ?_
          refine guardE_of (by show (0 : Int) ≤ ((i : Nat) : Int) ∧ ((i : Nat) : Int) < ((T.length + 1 : Nat) : Int); omega) ?_
          repeat first | refine opsStep ?_ | refine codeStep ?_ | refine drawStep ?_
          refine guardE_of rfl ?_
          refine optE_of rfl ?_
          refine optE_of (c := .int .i64 (x : Nat)) (by show (iW (0 :: T))[0 + i * 1]? = _; rw [Nat.zero_add, Nat.mul_one]; exact hgx) ?_
          repeat first | refine opsStep ?_ | refine codeStep ?_ | refine drawStep ?_
          refine guardE_of (by simp; omega) ?_
          repeat first | refine opsStep ?_ | refine codeStep ?_ | refine drawStep ?_
          refine optE_of (c := aIs r.1 r.2) (by simp [Value.cells, g1]) ?_
          repeat first | refine opsStep ?_ | refine codeStep ?_ | refine drawStep ?_
          refine guardE_of (by simp; omega) ?_
          repeat first | refine opsStep ?_ | refine codeStep ?_ | refine drawStep ?_
          refine optE_of (c := .int .i64 (to : Nat)) (by simp [Value.cells, g5]) ?_
          repeat first | refine opsStep ?_ | refine codeStep ?_ | refine drawStep ?_
          refine ⟨by kernel_rfl, ?_⟩
          repeat first | refine opsStep ?_ | refine codeStep ?_ | refine drawStep ?_
          refine guardE_of (by show (0 : Int) ≤ ((to : Nat) : Int) ∧ ((to : Nat) : Int) < (((grD d).n : Nat) : Int); omega) ?_
          repeat first | refine opsStep ?_ | refine codeStep ?_ | refine drawStep ?_
          refine optE_of (c := .bool (liveB (grD d) to)) (by simp [Value.cells, hlt]) ?_
          cases hlb : liveB (grD d) to with
          | false =>
            repeat first | refine opsStep ?_ | refine codeStep ?_ | refine drawStep ?_
            exact ⟨⟨(a + 1, T), hal, hiT, hxT, hbi, hskip fun h => by have := hlq.2 h; rw [hlb] at this; simp at this⟩, (by show (grD d).K - (a + 1) < (grD d).K - a; omega), Ent.fr' ⟨(by kernel_rfl), (by kernel_rfl), (by kernel_rfl), (by kernel_rfl), (by kernel_rfl), inc_slot (i := a) (by omega), trivial⟩ (by kernel_rfl)⟩
          | true =>
            repeat first | refine opsStep ?_ | refine codeStep ?_ | refine drawStep ?_
            refine guardE_of (by show (0 : Int) ≤ ((to : Nat) : Int) ∧ ((to : Nat) : Int) < (((grD d).n : Nat) : Int); omega) ?_
            repeat first | refine opsStep ?_ | refine codeStep ?_ | refine drawStep ?_
            refine optE_of (c := .bool (decide (to ∈ 0 :: T))) (by simp only [Value.cells]; show ((metB (grD d).n (0 :: T)).map AV.bool)[0 + to * 1]? = _; rw [Nat.zero_add, Nat.mul_one, List.getElem?_map, hmg]; rfl) ?_
            by_cases hm : to ∈ 0 :: T
            · rw [decide_eq_true hm]
              repeat first | refine opsStep ?_ | refine codeStep ?_ | refine drawStep ?_
              exact ⟨⟨(a + 1, T), hal, hiT, hxT, hbi, hskip fun _ => hm⟩, (by show (grD d).K - (a + 1) < (grD d).K - a; omega), Ent.fr' ⟨(by kernel_rfl), (by kernel_rfl), (by kernel_rfl), (by kernel_rfl), (by kernel_rfl), inc_slot (i := a) (by omega), trivial⟩ (by kernel_rfl)⟩
            · obtain ⟨hp1, hp2⟩ := hput (hlq.1 hlb) hm
              rw [decide_eq_false hm]
              repeat first | refine opsStep ?_ | refine codeStep ?_ | refine drawStep ?_
              refine guardE_of (by show (0 : Int) ≤ ((to : Nat) : Int) ∧ ((to : Nat) : Int) < (((grD d).n : Nat) : Int); omega) ?_
              repeat first | refine opsStep ?_ | refine codeStep ?_ | refine drawStep ?_
              refine guardE_of ⟨rfl, by decide, by show 0 + to * 1 + 1 ≤ ((metB (grD d).n (0 :: T)).map AV.bool).length; rw [List.length_map, hml]; omega⟩ ?_
              repeat first | refine opsStep ?_ | refine codeStep ?_ | refine drawStep ?_
              refine guardE_of ⟨rfl, by rw [hiwl]; show 0 + (T.length + 1) * 1 ≤ _; omega⟩ ?_
              refine guardE_of rfl ?_
              refine guardE_of ⟨by show T.length + 1 + 1 ≤ 9223372036854775807; omega, by show (T.length + 1 + 1) * 8 ≤ 140737488355328; omega⟩ ?_
              repeat first | refine opsStep ?_ | refine codeStep ?_ | refine drawStep ?_
              refine ⟨⟨(a + 1, T ++ [to]), hal, by simp only [List.length_append, List.length_singleton]; omega, by show (0 :: (T ++ [to]))[i]? = _; rw [← List.cons_append, List.getElem?_append_left (by simpa using hiT)]; exact hxT, hp1, hp2⟩, (by show (grD d).K - (a + 1) < (grD d).K - a; omega), ?_⟩
              refine Ent.to (Ent.frT (H' := [.cells 0 d.cells, .cells 0 (over ((metB (grD d).n (0 :: T)).map .bool) (0 + to * 1) [.bool true]), .cells (T.length + 1) (((iW (0 :: T)).drop 0).take ((T.length + 1) * 1) ++ [.int .i64 (to : Nat)])]) 3 ⟨(by kernel_rfl), (by kernel_rfl), (by kernel_rfl), ?_, (by kernel_rfl), inc_slot (i := a) (by omega), trivial⟩ (by kernel_rfl) (Nat.zero_le _) (by simp [frBel, AV.bel, bels_map]) ?_) ?_
              · refine Eq.trans (b := .hs 2 (T.length + 1) 0 (T.length + 1 + 1) 1) (by kernel_rfl) ?_
                rw [List.length_append, List.length_singleton]
              · rw [List.drop_zero, List.take_of_length_le (by rw [hiwl]; omega), Nat.zero_add, Nat.mul_one, over_one (by rw [List.length_map, hml]; omega), ← List.map_set]
                simp only [blksBel, Blk.bel, bels_append, bels_map]
                exact ⟨cells_bel _ _, fun _ _ => trivial, ⟨iW_bel _ _, by simp [bels, AV.bel]⟩, trivial⟩
              · rw [List.drop_zero, List.take_of_length_le (by rw [hiwl]; omega), Nat.zero_add, Nat.mul_one, over_one (by rw [List.length_map, hml]; omega), ← List.map_set, hms, ← iW_snoc]
                show [Blk.cells 0 d.cells, Blk.cells 0 ((metB (grD d).n (0 :: (T ++ [to]))).map AV.bool), Blk.cells (T.length + 1) (iW (0 :: (T ++ [to])))] = [Blk.cells 0 d.cells, Blk.cells 0 ((metB (grD d).n (0 :: (T ++ [to]))).map AV.bool), Blk.cells (T ++ [to]).length (iW (0 :: (T ++ [to])))]
                rw [List.length_append, List.length_singleton]
        · have hae : a = (grD d).K := by have h : ¬ ((a : Nat) : Int) < ((r.2.length : Nat) : Int) := hac; omega
          subst hae
          repeat first | refine opsStep ?_ | refine codeStep ?_ | refine drawStep ?_
          exact ⟨⟨(i + 1, T), by simp only; omega, hbi, hbc.row⟩, (by show (grD d).n - (i + 1) < (grD d).n - i; omega), Ent.fr' ⟨(by kernel_rfl), (by kernel_rfl), (by kernel_rfl), (by kernel_rfl), inc_slot (i := i) (by omega), trivial⟩ (by kernel_rfl)⟩
      · have hie : i = T1.length + 1 := by have h : ¬ ((i : Nat) : Int) < ((T1.length + 1 : Nat) : Int) := hic; omega
        subst hie
        have hfin : metB (grD d).n (0 :: T1) = s0L (grD d) := s0L_eq (metB_length _ _) fun q hq => by
          rw [metB_get hq, Option.some.injEq, decide_eq_true_eq]
          exact hbi1.fin (by simpa using hbc1)
        repeat first | refine opsStep ?_ | refine codeStep ?_ | refine drawStep ?_
        refine htail _ _ ⟨(by kernel_rfl), (by kernel_rfl), (by kernel_rfl), trivial⟩ ?_
        refine Eq.trans (b := [.cells 0 d.cells, .cells 0 ((metB (grD d).n (0 :: T1)).map .bool)]) (by kernel_rfl) ?_
        rw [hfin]
  · clear htail hlv hlg hl0 hll
    repeat first | refine opsStep ?_ | refine codeStep ?_ | refine drawStep ?_
    refine loopE_of (ι := {x : List Bool × Bool // RmI (grD d) x.1 ∧ (x.2 = false → ∃ E, EnOk (grD d) x.1 E ∧ ∀ q : Nat, x.1[q]? = some true → E[q]? = some true)}) (fun x => (fr [(1, .ref 0 0 0), (4, .hs 1 0 0 (grD d).n 1), (9, .bool x.1.2)], [.cells 0 d.cells, .cells 0 ((x.1.1).map .bool)])) (fun x => 2 * truB x.1.1 + (if x.1.2 = true then 1 else 0)) ⟨(s0L (grD d), true), RmI.start, by simp⟩ (Ent.fr' ⟨(by kernel_rfl), (by kernel_rfl), (by kernel_rfl), trivial⟩ (by kernel_rfl)) ?_
    rintro ⟨⟨S, b⟩, hrm, hex⟩
    simp only at hrm hex
    have hSl := hrm.len
    cases b with
    | true =>
      repeat first | refine opsStep ?_ | refine codeStep ?_ | refine drawStep ?_
      refine guardE_of ⟨by show 0 ≤ (((grD d).n : Nat) : Int); omega, Int.le_refl _, by show (1 : Int) * (((grD d).n : Nat) : Int) ≤ _; omega, by show (((grD d).n : Nat) : Int) ≤ _; omega⟩ ?_
      iterate 2 refine opsStep ?_
      refine VCode.ent (Ent.fr' (l := [(1, .ref 0 0 0), (4, .hs 1 0 0 (grD d).n 1), (9, .bool false), (10, .hs 2 0 0 (grD d).n 1)]) (H' := [.cells 0 d.cells, .cells 0 ((S).map .bool), .cells 0 ((List.replicate (grD d).n false).map .bool)]) ⟨(by kernel_rfl), (by kernel_rfl), (by kernel_rfl), (by kernel_rfl), trivial⟩ (Eq.trans (b := [.cells 0 d.cells, .cells 0 ((S).map .bool), .cells 0 (reps [.bool false] (((grD d).n : Nat) : Int).toNat)]) (by kernel_rfl) (by rw [reps_one]; simp))) ?_
      repeat first | refine opsStep ?_ | refine codeStep ?_ | refine drawStep ?_
      refine loopE_of (ι := {x : Nat × List Bool // x.1 ≤ (grD d).n ∧ EnI (grD d) S x.2 x.1 0}) (fun x => (fr [(1, .ref 0 0 0), (4, .hs 1 0 0 (grD d).n 1), (9, .bool false), (10, .hs 2 0 0 (grD d).n 1), (11, .int .i64 (x.1.1 : Nat))], [.cells 0 d.cells, .cells 0 ((S).map .bool), .cells 0 (x.1.2.map .bool)])) (fun x => (grD d).n - x.1.1) ⟨(0, List.replicate (grD d).n false), Nat.zero_le _, EnI.start _ _⟩ (Ent.fr' ⟨(by kernel_rfl), (by kernel_rfl), (by kernel_rfl), (by kernel_rfl), (by kernel_rfl), trivial⟩ (by kernel_rfl)) ?_
      rintro ⟨⟨p, E1⟩, hp, he1⟩
      simp only at hp he1
      repeat first | refine opsStep ?_ | refine codeStep ?_ | refine drawStep ?_
      refine decB_dec (fun hpc => ?_) (fun hpc => ?_)
      · have hpl : p < (grD d).n := by have h : ((p : Nat) : Int) < (((grD d).n : Nat) : Int) := hpc; omega
        obtain ⟨r, g1, g2, g3, g4⟩ := hrow p hpl
        have hSp := bAt_get hSl hpl
        repeat first | refine opsStep ?_ | refine codeStep ?_ | refine drawStep ?_
        refine loopE_of (ι := {x : Nat × List Bool // x.1 ≤ (grD d).K ∧ EnI (grD d) S x.2 p x.1}) (fun x => (fr [(1, .ref 0 0 0), (4, .hs 1 0 0 (grD d).n 1), (9, .bool false), (10, .hs 2 0 0 (grD d).n 1), (11, .int .i64 (p : Nat)), (12, .int .i64 (x.1.1 : Nat))], [.cells 0 d.cells, .cells 0 ((S).map .bool), .cells 0 (x.1.2.map .bool)])) (fun x => (grD d).K - x.1.1) ⟨(0, E1), Nat.zero_le _, he1⟩ (Ent.fr' ⟨(by kernel_rfl), (by kernel_rfl), (by kernel_rfl), (by kernel_rfl), (by kernel_rfl), (by kernel_rfl), trivial⟩ (by kernel_rfl)) ?_
        rintro ⟨⟨a, E⟩, ha, he⟩
        simp only at ha he
        have hEl := he.len
        repeat first | refine opsStep ?_ | refine codeStep ?_ | refine drawStep ?_
        refine guardE_of (by simp; omega) ?_
        repeat first | refine opsStep ?_ | refine codeStep ?_ | refine drawStep ?_
        refine optE_of (c := aIs r.1 r.2) (by simp [Value.cells, g1]) ?_
        repeat first | refine opsStep ?_ | refine codeStep ?_ | refine drawStep ?_
        refine decB_dec (fun hac => ?_) (fun hac => ?_)
        · have hal : a < (grD d).K := by have h : ((a : Nat) : Int) < ((r.2.length : Nat) : Int) := hac; omega
          obtain ⟨g5, g6⟩ := g4 a hal
          have har : a < r.2.length := by omega
          have hput := fun h => he.put hgo hpl hal h
          generalize (grD d).st p a = to at *
          repeat first | refine opsStep ?_ | refine codeStep ?_ | refine drawStep ?_
          refine guardE_of (by show (0 : Int) ≤ ((p : Nat) : Int) ∧ ((p : Nat) : Int) < (((grD d).n : Nat) : Int); omega) ?_
          repeat first | refine opsStep ?_ | refine codeStep ?_ | refine drawStep ?_
          refine optE_of (c := .bool (bAt S p)) (by show (S.map AV.bool)[0 + p * 1]? = _; rw [Nat.zero_add, Nat.mul_one, List.getElem?_map, hSp]; rfl) ?_
          cases hb : bAt S p with
          | false =>
            rw [hb] at hSp
            repeat first | refine opsStep ?_ | refine codeStep ?_ | refine drawStep ?_
            exact ⟨⟨(p + 1, E), hpl, he.row (.inl hSp)⟩, (by show (grD d).n - (p + 1) < (grD d).n - p; omega), Ent.fr' ⟨(by kernel_rfl), (by kernel_rfl), (by kernel_rfl), (by kernel_rfl), inc_slot (i := p) (by omega), trivial⟩ (by kernel_rfl)⟩
          | true =>
            rw [hb] at hSp
            repeat first | refine opsStep ?_ | refine codeStep ?_ | refine drawStep ?_
            refine guardE_of (by simp; omega) ?_
            repeat first | refine opsStep ?_ | refine codeStep ?_ | refine drawStep ?_
            refine optE_of (c := aIs r.1 r.2) (by simp [Value.cells, g1]) ?_
            repeat first | refine opsStep ?_ | refine codeStep ?_ | refine drawStep ?_
            refine guardE_of (by simp; omega) ?_
            repeat first | refine opsStep ?_ | refine codeStep ?_ | refine drawStep ?_
            refine optE_of (c := .int .i64 (to : Nat)) (by simp [Value.cells, g5]) ?_
            repeat first | refine opsStep ?_ | refine codeStep ?_ | refine drawStep ?_
            refine guardE_of (by show (0 : Int) ≤ ((to : Nat) : Int) ∧ ((to : Nat) : Int) < (((grD d).n : Nat) : Int); omega) ?_
            repeat first | refine opsStep ?_ | refine codeStep ?_ | refine drawStep ?_
            refine guardE_of ⟨rfl, by decide, by show 0 + to * 1 + 1 ≤ (E.map AV.bool).length; rw [List.length_map]; omega⟩ ?_
            repeat first | refine opsStep ?_ | refine codeStep ?_ | refine drawStep ?_
            refine ⟨⟨(a + 1, E.set to true), hal, hput hSp⟩, (by show (grD d).K - (a + 1) < (grD d).K - a; omega), Ent.fr' ⟨(by kernel_rfl), (by kernel_rfl), (by kernel_rfl), (by kernel_rfl), (by kernel_rfl), inc_slot (i := a) (by omega), trivial⟩ ?_⟩
            refine Eq.trans (b := [.cells 0 d.cells, .cells 0 ((S).map .bool), .cells 0 (over (E.map .bool) (0 + to * 1) [.bool true])]) (by kernel_rfl) ?_
            rw [Nat.zero_add, Nat.mul_one, over_one (by rw [List.length_map]; omega), ← List.map_set]
        · have hae : a = (grD d).K := by have h : ¬ ((a : Nat) : Int) < ((r.2.length : Nat) : Int) := hac; omega
          repeat first | refine opsStep ?_ | refine codeStep ?_ | refine drawStep ?_
          exact ⟨⟨(p + 1, E), hpl, he.row (.inr hae)⟩, (by show (grD d).n - (p + 1) < (grD d).n - p; omega), Ent.fr' ⟨(by kernel_rfl), (by kernel_rfl), (by kernel_rfl), (by kernel_rfl), inc_slot (i := p) (by omega), trivial⟩ (by kernel_rfl)⟩
      · have hpe : p = (grD d).n := by have h : ¬ ((p : Nat) : Int) < (((grD d).n : Nat) : Int) := hpc; omega
        subst hpe
        have hok := he1.ok hSl
        have hEl := he1.len
        have hz := rmL_zero E1 hSl
        repeat first | refine opsStep ?_ | refine codeStep ?_ | refine drawStep ?_
        refine loopE_of (ι := {q : Nat // q ≤ (grD d).n}) (fun q => (fr [(1, .ref 0 0 0), (4, .hs 1 0 0 (grD d).n 1), (9, .bool (rmC S E1 q.1)), (10, .hs 2 0 0 (grD d).n 1), (13, .int .i64 (q.1 : Nat))], [.cells 0 d.cells, .cells 0 ((rmL (grD d).n S E1 q.1).map .bool), .cells 0 (E1.map .bool)])) (fun q => (grD d).n - q.1) ⟨0, Nat.zero_le _⟩ (Ent.fr' ⟨(by kernel_rfl), (by kernel_rfl), (by kernel_rfl), (by kernel_rfl), (by kernel_rfl), trivial⟩ ?_) ?_
        · refine Eq.trans (b := [.cells 0 d.cells, .cells 0 ((S).map .bool), .cells 0 (E1.map .bool)]) (by kernel_rfl) ?_
          show _ = [Blk.cells 0 d.cells, Blk.cells 0 ((rmL (grD d).n S E1 0).map AV.bool), Blk.cells 0 (E1.map AV.bool)]
          rw [hz]
        rintro ⟨q, hq⟩
        repeat first | refine opsStep ?_ | refine codeStep ?_ | refine drawStep ?_
        refine decB_dec (fun hqc => ?_) (fun hqc => ?_)
        · have hql : q < (grD d).n := by have h : ((q : Nat) : Int) < (((grD d).n : Nat) : Int) := hqc; omega
          have hgS := rmL_get (S := S) (E := E1) (q := q) hql
          rw [if_neg (Nat.lt_irrefl _)] at hgS
          have hgE := bAt_get hEl hql
          have hcs := rmC_succ S E1 q
          have hset := rmL_set (grD d).n S E1 q
          have hkeep := rmL_keep (n := (grD d).n) (S := S) (E := E1) (q := q)
          have hrl := rmL_length (grD d).n S E1 q
          repeat first | refine opsStep ?_ | refine codeStep ?_ | refine drawStep ?_
          refine guardE_of (by show (0 : Int) ≤ ((q : Nat) : Int) ∧ ((q : Nat) : Int) < (((grD d).n : Nat) : Int); omega) ?_
          repeat first | refine opsStep ?_ | refine codeStep ?_ | refine drawStep ?_
          refine optE_of (c := .bool (bAt S q)) (by show ((rmL (grD d).n S E1 q).map AV.bool)[0 + q * 1]? = _; rw [Nat.zero_add, Nat.mul_one, List.getElem?_map, hgS]; rfl) ?_
          cases hb : bAt S q with
          | false =>
            rw [hb] at hcs hkeep
            have hkeep := hkeep rfl
            rw [Bool.false_and, Bool.or_false] at hcs
            repeat first | refine opsStep ?_ | refine codeStep ?_ | refine drawStep ?_
            refine ⟨⟨q + 1, hql⟩, (by show (grD d).n - (q + 1) < (grD d).n - q; omega), Ent.fr' ⟨(by kernel_rfl), (by kernel_rfl), (Eq.trans (b := .bool (rmC S E1 q)) (by kernel_rfl) (by rw [hcs])), (by kernel_rfl), inc_slot (i := q) (by omega), trivial⟩ ?_⟩
            refine Eq.trans (b := [.cells 0 d.cells, .cells 0 ((rmL (grD d).n S E1 q).map .bool), .cells 0 (E1.map .bool)]) (by kernel_rfl) ?_
            rw [hkeep]
          | true =>
            repeat first | refine opsStep ?_ | refine codeStep ?_ | refine drawStep ?_
            refine guardE_of (by show (0 : Int) ≤ ((q : Nat) : Int) ∧ ((q : Nat) : Int) < (((grD d).n : Nat) : Int); omega) ?_
            repeat first | refine opsStep ?_ | refine codeStep ?_ | refine drawStep ?_
            refine optE_of (c := .bool (bAt E1 q)) (by show (E1.map AV.bool)[0 + q * 1]? = _; rw [Nat.zero_add, Nat.mul_one, List.getElem?_map, hgE]; rfl) ?_
            cases hb2 : bAt E1 q with
            | true =>
              rw [hb, hb2] at hcs hkeep
              have hkeep := hkeep rfl
              simp only [Bool.not_true, Bool.and_false, Bool.or_false] at hcs
              repeat first | refine opsStep ?_ | refine codeStep ?_ | refine drawStep ?_
              refine ⟨⟨q + 1, hql⟩, (by show (grD d).n - (q + 1) < (grD d).n - q; omega), Ent.fr' ⟨(by kernel_rfl), (by kernel_rfl), (Eq.trans (b := .bool (rmC S E1 q)) (by kernel_rfl) (by rw [hcs])), (by kernel_rfl), inc_slot (i := q) (by omega), trivial⟩ ?_⟩
              refine Eq.trans (b := [.cells 0 d.cells, .cells 0 ((rmL (grD d).n S E1 q).map .bool), .cells 0 (E1.map .bool)]) (by kernel_rfl) ?_
              rw [hkeep]
            | false =>
              rw [hb, hb2] at hcs hset
              simp only [Bool.not_false, Bool.and_true, Bool.or_true] at hcs
              simp only [Bool.and_false] at hset
              repeat first | refine opsStep ?_ | refine codeStep ?_ | refine drawStep ?_
              refine guardE_of (by show (0 : Int) ≤ ((q : Nat) : Int) ∧ ((q : Nat) : Int) < (((grD d).n : Nat) : Int); omega) ?_
              repeat first | refine opsStep ?_ | refine codeStep ?_ | refine drawStep ?_
              refine guardE_of ⟨rfl, by decide, by show 0 + q * 1 + 1 ≤ ((rmL (grD d).n S E1 q).map AV.bool).length; rw [List.length_map, hrl]; omega⟩ ?_
              repeat first | refine opsStep ?_ | refine codeStep ?_ | refine drawStep ?_
              refine ⟨⟨q + 1, hql⟩, (by show (grD d).n - (q + 1) < (grD d).n - q; omega), Ent.fr' ⟨(by kernel_rfl), (by kernel_rfl), (Eq.trans (b := .bool true) (by kernel_rfl) (by rw [hcs])), (by kernel_rfl), inc_slot (i := q) (by omega), trivial⟩ ?_⟩
              refine Eq.trans (b := [.cells 0 d.cells, .cells 0 (over ((rmL (grD d).n S E1 q).map .bool) (0 + q * 1) [.bool false]), .cells 0 (E1.map .bool)]) (by kernel_rfl) ?_
              rw [Nat.zero_add, Nat.mul_one, over_one (by rw [List.length_map, hrl]; omega), ← List.map_set, hset]
        · have hqe : q = (grD d).n := by have h : ¬ ((q : Nat) : Int) < (((grD d).n : Nat) : Int) := hqc; omega
          subst hqe
          have hnx := hrm.next hgo hok
          have hless := rm_less (E := E1) hSl
          have hsame := rm_same (E := E1) hSl
          have hmeas : 2 * truB (rmL (grD d).n S E1 (grD d).n) + (if rmC S E1 (grD d).n = true then 1 else 0) < 2 * truB S + 1 := by
            cases hc : rmC S E1 (grD d).n with
            | true => have := hless hc; rw [if_pos rfl]; omega
            | false => rw [(hsame hc).1, if_neg (by simp)]; omega
          have hex : rmC S E1 (grD d).n = false → ∃ E, EnOk (grD d) (rmL (grD d).n S E1 (grD d).n) E ∧ ∀ q : Nat, (rmL (grD d).n S E1 (grD d).n)[q]? = some true → E[q]? = some true := fun hc => by
            obtain ⟨e1, e2⟩ := hsame hc
            rw [e1]; exact ⟨E1, hok, e2⟩
          repeat first | refine opsStep ?_ | refine codeStep ?_ | refine drawStep ?_
          refine ⟨⟨(rmL (grD d).n S E1 (grD d).n, rmC S E1 (grD d).n), hnx, hex⟩, hmeas, ?_⟩
          exact Ent.frT 2 ⟨(by kernel_rfl), (by kernel_rfl), (by kernel_rfl), trivial⟩ (by kernel_rfl) (Nat.zero_le _) (by simp [frBel, AV.bel]) (by simp [blksBel, Blk.bel, cells_bel, bels_map, AV.bel])
    | false =>
      obtain ⟨E, hE1, hE2⟩ := hex rfl
      have hfin := hrm.fin hgo hE1 hE2
      repeat first | refine opsStep ?_ | refine codeStep ?_ | refine drawStep ?_
      refine loopE_of (ι := {q : Nat // q ≤ (grD d).n ∧ ∀ i, i < q → S[i]? = some false}) (fun q => (fr [(4, .hs 1 0 0 (grD d).n 1), (14, .int .i64 (q.1 : Nat))], [.cells 0 d.cells, .cells 0 ((S).map .bool)])) (fun q => (grD d).n - q.1) ⟨0, Nat.zero_le _, fun i h => by omega⟩ (Ent.fr' ⟨(by kernel_rfl), (by kernel_rfl), trivial⟩ (by kernel_rfl)) ?_
      rintro ⟨q, hq, hall⟩
      repeat first | refine opsStep ?_ | refine codeStep ?_ | refine drawStep ?_
      refine decB_dec (fun hqc => ?_) (fun hqc => ?_)
      · have hql : q < (grD d).n := by have h : ((q : Nat) : Int) < (((grD d).n : Nat) : Int) := hqc; omega
        have hSq := bAt_get hSl hql
        repeat first | refine opsStep ?_ | refine codeStep ?_ | refine drawStep ?_
        refine guardE_of (by show (0 : Int) ≤ ((q : Nat) : Int) ∧ ((q : Nat) : Int) < (((grD d).n : Nat) : Int); omega) ?_
        repeat first | refine opsStep ?_ | refine codeStep ?_ | refine drawStep ?_
        refine optE_of (c := .bool (bAt S q)) (by show (S.map AV.bool)[0 + q * 1]? = _; rw [Nat.zero_add, Nat.mul_one, List.getElem?_map, hSq]; rfl) ?_
        cases hb : bAt S q with
        | true =>
          rw [hb] at hSq
          have hany : S.any id = true := List.any_eq_true.2 ⟨true, List.mem_of_getElem? hSq, rfl⟩
          repeat first | refine opsStep ?_ | refine codeStep ?_ | refine drawStep ?_
          exact finV (v' := .bool false) (by kernel_rfl) (by rw [hfin, hany]; rfl)
        | false =>
          rw [hb] at hSq
          repeat first | refine opsStep ?_ | refine codeStep ?_ | refine drawStep ?_
          refine ⟨⟨q + 1, hql, fun i hi => ?_⟩, (by show (grD d).n - (q + 1) < (grD d).n - q; omega), Ent.fr' ⟨(by kernel_rfl), inc_slot (i := q) (by omega), trivial⟩ (by kernel_rfl)⟩
          by_cases e : i = q
          · subst e; exact hSq
          · exact hall i (by omega)
      · have hqe : q = (grD d).n := by have h : ¬ ((q : Nat) : Int) < (((grD d).n : Nat) : Int) := hqc; omega
        subst hqe
        have hany : S.any id = false := List.any_eq_false.2 fun x hx => by
          obtain ⟨i, hi, e⟩ := List.getElem_of_mem hx
          have := hall i (by omega)
          rw [List.getElem?_eq_getElem hi, e] at this
          simp at this; simp [this]
        repeat first | refine opsStep ?_ | refine codeStep ?_ | refine drawStep ?_
        exact finV (v' := .bool true) (by kernel_rfl) (by rw [hfin, hany]; rfl)

end Tab

/- count: made. -/
namespace Tab
open Go Go.Proofs
set_option maxRecDepth 10000
set_option linter.unusedVariables false
set_option linter.unusedSimpArgs false
set_option linter.unusedSectionVars false

def fL (k : Nat) : List AV := List.replicate k (.bool false)
def mL (k : Nat) : List AV := List.replicate k (.int .i64 (-1))
theorem fL_length (k) : (fL k).length = k := by simp [fL]
theorem mL_length (k) : (mL k).length = k := by simp [mL]
theorem fL_snoc (k) : fL (k + 1) = fL k ++ [.bool false] := by simp [fL, List.replicate_succ']
theorem mL_snoc (k) : mL (k + 1) = mL k ++ [.int .i64 (-1)] := by simp [mL, List.replicate_succ']
theorem fL_bel (m k) : bels m (fL k) := bels_iff.2 fun a ha => by rw [List.eq_of_mem_replicate ha]; trivial
theorem mL_bel (m k) : bels m (mL k) := bels_iff.2 fun a ha => by rw [List.eq_of_mem_replicate ha]; trivial
theorem fL_map (k) : fL k = (List.replicate k false).map .bool := by simp [fL]
theorem ids_len {l : List AV} {n : Nat} (h : l.length = n) : (l.drop 0).take (n * 1) = l := by rw [List.drop_zero, Nat.mul_one, ← h, List.take_length]

theorem rns_app (f : Nat → Nat) (a b : List AV) : rns f (a ++ b) = rns f a ++ rns f b := by rw [rns_map, rns_map, rns_map, List.map_append]
theorem yL_rn (f g k) : rns f (yL g k) = yL g k := closeds_rn _ (yL_closed g k)
theorem fL_rn (f k) : rns f (fL k) = fL k := by rw [fL_map]; exact bools_rn f _
theorem mL_rn (f k) : rns f (mL k) = mL k := closeds_rn _ (closeds_iff.2 fun a ha => by rw [List.eq_of_mem_replicate ha]; simp only [AV.closed])
set_option maxHeartbeats 1000000 in
theorem count_made (d : Den) (hd : rightS d = true) (g : Gr) (hgr : grD d = g) :
    ACall Try.prog 35 [aDen d] [] (fun o H' => o = .ret (.ref 0 0 0) ∧ H' = [cnC d (.sl .any g.n ((liveL g).map .bool)) (.hs 1 g.n 0 g.n 1), .cells g.n (mL g.n)]) := by
  have hrow := fun q hq => gr_row hd (q := q) hq
  have hacc := fun c hc => gr_acc (d := d) (c := c) hc
  have hnl : d.next.length = (grD d).n := (rightS_parts hd).2.1
  have hal : d.accept.length = (grD d).n := rfl
  have hgo := grD_ok hd
  have hspr := fun (gl : Nat) (kn : AV) (X : List Blk) (L0 : List Bool) h0 => count_spread d hd g hgr gl kn X L0 h0
  have hcn : ∀ lv kn, cnC d lv kn = .cells 0 (d.cells ++ [.sl .any g.n (yL g g.n), lv, kn]) := fun lv kn => by rw [cnC, hgr]
  rw [hgr] at hrow hnl hgo hacc hal
  have hbig := hgo.big
  have hlet := hgo.let'
  refine ACall.of_sw 65 Try.func35 rfl Try.ntmps35 (by kernel_rfl) (Nat.le_of_ble_eq_true (by kernel_rfl)) ?_; refine SW.of_vc ?_
  repeat first | refine opsStep ?_ | refine codeStep ?_ | refine drawStep ?_
  refine loopE_of (ι := {i : Nat // i ≤ g.n}) (fun i => (fr [(1, .ref 0 0 0), (3, .ref 1 0 0), (13, aRs d.nk d.next), (14, .int .i64 (g.n : Nat)), (15, .int .i64 (i.1 : Nat))], [.cells 0 d.cells, .cells 0 (d.cells ++ [.hs 2 (i.1) 0 (i.1) 1, .hs 3 (i.1) 0 (i.1) 1, .hs 4 (i.1) 0 (i.1) 1]), .cells (i.1) (yL g (i.1)), .cells (i.1) (fL (i.1)), .cells (i.1) (mL (i.1))])) (fun i => g.n - i.1) ⟨0, Nat.zero_le _⟩ ?_ ?_
  · exact ((((Ent.fr' (l := [(1, .ref 0 0 0), (3, .ref 1 0 0), (13, aRs d.nk d.next), (14, .int .i64 (g.n : Nat)), (15, .int .i64 ((0 : Nat) : Nat))]) (H' := [.cells 0 d.cells, .cells 0 (d.cells ++ [.sl .nil 0 [], .sl .nil 0 [], .sl .nil 0 []])]) ⟨(by kernel_rfl), (by kernel_rfl), (by kernel_rfl), (Eq.trans (b := .int .i64 (d.next.length : Nat)) (by kernel_rfl) (by rw [hnl])), (by kernel_rfl), trivial⟩ (by kernel_rfl)).trans (Ent.nilCell 1 3 1 rfl rfl)).trans (Ent.nilCell 1 4 1 rfl rfl)).trans (Ent.nilCell 1 5 1 rfl rfl)).to rfl
  rintro ⟨i, hi⟩
  repeat first | refine opsStep ?_ | refine codeStep ?_ | refine drawStep ?_
  refine decB_dec (fun hic => ?_) (fun hic => ?_)
  · have hil : i < g.n := by have := hic; simp at this; omega
    obtain ⟨r, g1, g2, g3, g4⟩ := hrow i hil
    repeat first | refine opsStep ?_ | refine codeStep ?_ | refine drawStep ?_
    refine guardE_of (by simp; omega) ?_
    repeat first | refine opsStep ?_ | refine codeStep ?_ | refine drawStep ?_
    refine optE_of (c := aIs r.1 r.2) (by simp [Value.cells, g1]) ?_
    repeat first | refine opsStep ?_ | refine codeStep ?_ | refine drawStep ?_
    refine loopE_of (ι := {a : Nat // a ≤ g.K}) (fun a => (fr [(1, .ref 0 0 0), (3, .ref 1 0 0), (13, aRs d.nk d.next), (14, .int .i64 (g.n : Nat)), (15, .int .i64 (i : Nat)), (6, .int .i64 (yesTo g i a.1 : Nat)), (19, aIs r.1 r.2), (20, .int .i64 (r.2.length : Nat)), (21, .int .i64 (a.1 : Nat))], [.cells 0 d.cells, .cells 0 (d.cells ++ [.hs 2 (i) 0 (i) 1, .hs 3 (i) 0 (i) 1, .hs 4 (i) 0 (i) 1]), .cells (i) (yL g (i)), .cells (i) (fL (i)), .cells (i) (mL (i))])) (fun a => g.K - a.1) ⟨0, Nat.zero_le _⟩ (Ent.fr' ⟨(by kernel_rfl), (by kernel_rfl), (by kernel_rfl), (by kernel_rfl), (by kernel_rfl), (by kernel_rfl), (by kernel_rfl), (by kernel_rfl), (by kernel_rfl), trivial⟩ (by kernel_rfl)) ?_
    rintro ⟨a, ha⟩
    repeat first | refine opsStep ?_ | refine codeStep ?_ | refine drawStep ?_
    refine decB_dec (fun hac => ?_) (fun hac => ?_)
    · have hal2 : a < g.K := by have := hac; simp at this; omega
      obtain ⟨g5, g6⟩ := g4 a hal2
      have g7 := hacc _ g6
      have har : a < r.2.length := by omega
      have hys := yesTo_succ g i a
      have hyk := yesTo_le g i a
      generalize g.st i a = c at *
      generalize yesTo g i a = y at *
      repeat first | refine opsStep ?_ | refine codeStep ?_ | refine drawStep ?_
      refine guardE_of (by simp; omega) ?_
      repeat first | refine opsStep ?_ | refine codeStep ?_ | refine drawStep ?_
      refine optE_of (c := .int .i64 (c : Nat)) (by simp [Value.cells, g5]) ?_
      repeat first | refine opsStep ?_ | refine codeStep ?_ | refine drawStep ?_
      refine guardE_of (by simp; omega) ?_
      repeat first | refine opsStep ?_ | refine codeStep ?_ | refine drawStep ?_
      refine optE_of (c := .bool (g.ac c)) (by simp [Value.cells, g7]) ?_
      cases hc : g.ac c with
      | true =>
        rw [hc, if_pos rfl] at hys
        repeat first | refine opsStep ?_ | refine codeStep ?_ | refine drawStep ?_
        refine ⟨⟨a + 1, hal2⟩, (by show g.K - (a + 1) < g.K - a; omega), Ent.fr' ⟨(by kernel_rfl), (by kernel_rfl), (by kernel_rfl), (by kernel_rfl), (by kernel_rfl), ?_, (by kernel_rfl), (by kernel_rfl), inc_slot (i := a) (by omega), trivial⟩ (by kernel_rfl)⟩
        refine Eq.trans (b := .int .i64 (IntKind.wrap .i64 ((y : Int) + 1))) (by kernel_rfl) ?_
        rw [inc_slot (i := y) (by omega), hys]
      | false =>
        rw [hc, if_neg (by simp)] at hys
        repeat first | refine opsStep ?_ | refine codeStep ?_ | refine drawStep ?_
        refine ⟨⟨a + 1, hal2⟩, (by show g.K - (a + 1) < g.K - a; omega), Ent.fr' ⟨(by kernel_rfl), (by kernel_rfl), (by kernel_rfl), (by kernel_rfl), (by kernel_rfl), ?_, (by kernel_rfl), (by kernel_rfl), inc_slot (i := a) (by omega), trivial⟩ (by kernel_rfl)⟩
        refine Eq.trans (b := .int .i64 (y : Nat)) (by kernel_rfl) ?_
        rw [hys]; simp
    · have hae : a = g.K := by have := hac; simp at this; omega
      subst hae
      have hyl := yL_length g i
      have hfl := fL_length i
      have hml := mL_length i
      have hyn : yesTo g i g.K = yesN g i := rfl
      have hys := yL_snoc g i
      rw [hyn]
      generalize yesN g i = y at *
      repeat first | refine opsStep ?_ | refine codeStep ?_ | refine drawStep ?_
      refine guardE_of ⟨rfl, by simp [hyl]⟩ ?_
      refine guardE_of rfl ?_
      refine guardE_of ⟨by show i + 1 ≤ 9223372036854775807; omega, by show (i + 1) * 8 ≤ 140737488355328; omega⟩ ?_
      repeat first | refine opsStep ?_ | refine codeStep ?_ | refine drawStep ?_
      refine guardE_of ⟨rfl, by simp [hfl]⟩ ?_
      refine guardE_of rfl ?_
      refine guardE_of ⟨by show i + 1 ≤ 9223372036854775807; omega, by show (i + 1) * 1 ≤ 140737488355328; omega⟩ ?_
      repeat first | refine opsStep ?_ | refine codeStep ?_ | refine drawStep ?_
      refine guardE_of ⟨rfl, by simp [hml]⟩ ?_
      refine guardE_of rfl ?_
      refine guardE_of ⟨by show i + 1 ≤ 9223372036854775807; omega, by show (i + 1) * 8 ≤ 140737488355328; omega⟩ ?_
      repeat first | refine opsStep ?_ | refine codeStep ?_ | refine drawStep ?_
      refine ⟨⟨i + 1, hil⟩, (by show g.n - (i + 1) < g.n - i; omega), ?_⟩
      refine Ent.to (Ent.frT (H' := [.cells 0 d.cells, .cells 0 (d.cells ++ [.hs 2 (i + 1) 0 (i + 1) 1, .hs 3 (i + 1) 0 (i + 1) 1, .hs 4 (i + 1) 0 (i + 1) 1]), .cells (i + 1) (((yL g i).drop 0).take (i * 1) ++ [.int .i64 (y : Nat)]), .cells (i + 1) (((fL i).drop 0).take (i * 1) ++ [.bool false]), .cells (i + 1) (((mL i).drop 0).take (i * 1) ++ [.int .i64 (-1)])]) 5 ⟨(by kernel_rfl), (by kernel_rfl), (by kernel_rfl), (by kernel_rfl), inc_slot (i := i) (by omega), trivial⟩ (by kernel_rfl) (Nat.zero_le _) (by simp [frBel, AV.bel, bels, aRs_bel]) ?_) ?_
      · rw [ids_len hyl, ids_len hfl, ids_len hml]
        simp [blksBel, Blk.bel, bels_append, cells_bel, yL_bel, fL_bel, mL_bel, bels, AV.bel]
      · rw [ids_len hyl, ids_len hfl, ids_len hml, ← hys, ← fL_snoc, ← mL_snoc]
  · have hie : i = g.n := by have := hic; simp at this; omega
    subst hie
    clear hrow hacc hic
    have hyl := yL_length g g.n
    have hml := mL_length g.n
    repeat first | refine opsStep ?_ | refine codeStep ?_ | refine drawStep ?_
    have e0 : Ent (65 : Fr) (fr [(3, .ref 1 0 0)]) [.cells 0 d.cells, .cells 0 (d.cells ++ [.hs 2 (g.n) 0 (g.n) 1, .hs 3 (g.n) 0 (g.n) 1, .hs 4 (g.n) 0 (g.n) 1]), .cells (g.n) (yL g (g.n)), .cells (g.n) (fL (g.n)), .cells (g.n) (mL (g.n))] (fr [(3, .ref 0 0 0)]) [cnC d (.hs 1 g.n 0 g.n 1) (.hs 2 g.n 0 g.n 1), .cells g.n ((List.replicate g.n false).map .bool), .cells g.n (mL g.n)] := by
      rw [hcn, ← fL_map]
      refine (Ent.freezeCell (b := 2) (g := g.n) (n := g.n) (es := 1) (cs := yL g g.n) 1 3 rfl rfl rfl (by decide) (by omega)).trans ?_
      refine Ent.pick [1, 3, 4] (by decide) (by intro b hb; simp at hb; show b < 5; omega) (fun b hb => absurd hb (Nat.not_lt_zero _)) _ _ rfl (frOk_rn ⟨rfl, trivial⟩) ?_ (by simp [frBel, AV.bel]) (by simp [blksBel, Blk.bel, bels_append, cells_bel, yL_bel, fL_bel, mL_bel, bels, AV.bel])
      intro i x b h1 h2
      match i, h2 with
      | 0, h2 =>
        cases h1; cases h2
        refine Eq.trans (b := some (Blk.cells 0 (d.cells ++ [.sl .any g.n (yL g g.n), .hs 3 g.n 0 g.n 1, .hs 4 g.n 0 g.n 1]))) rfl ?_
        simp [Blk.rn, rns_app, den_rn, rns, AV.rn, yL_rn, rnB]
      | 1, h2 =>
        cases h1; cases h2
        refine Eq.trans (b := some (Blk.cells g.n (fL g.n))) rfl ?_
        simp [Blk.rn, fL_rn]
      | 2, h2 =>
        cases h1; cases h2
        refine Eq.trans (b := some (Blk.cells g.n (mL g.n))) rfl ?_
        simp [Blk.rn, mL_rn]
      | i + 3, h2 => simp at h2
    refine loopE_of (ι := {L : List Bool // SpSound g L}) (fun L => (fr [(3, .ref 0 0 0)], [cnC d (.hs 1 g.n 0 g.n 1) (.hs 2 g.n 0 g.n 1), .cells g.n (L.1.map .bool), .cells g.n (mL g.n)])) (fun L => g.n - trues L.1)
      ⟨List.replicate g.n false, by simp, fun q h => by rw [List.getElem?_replicate] at h; split at h <;> simp at h⟩ ((Ent.fr' (l := [(3, .ref 1 0 0)]) (H' := [.cells 0 d.cells, .cells 0 (d.cells ++ [.hs 2 (g.n) 0 (g.n) 1, .hs 3 (g.n) 0 (g.n) 1, .hs 4 (g.n) 0 (g.n) 1]), .cells (g.n) (yL g (g.n)), .cells (g.n) (fL (g.n)), .cells (g.n) (mL (g.n))]) ⟨(by kernel_rfl), trivial⟩ (by kernel_rfl)).trans e0) ?_
    clear e0
    rintro ⟨L, hL⟩
    repeat first | refine opsStep ?_ | refine codeStep ?_ | refine drawStep ?_
    refine callI2 (hspr g.n (.hs 2 g.n 0 g.n 1) [.cells g.n (mL g.n)] L hL) ?_
    rintro b L' ⟨hp1, hp2, hp3, hp4⟩
    cases b with
    | true =>
      have hp3 := hp3 rfl
      have hp5 := trues_le L'
      rw [hp1.1] at hp5
      repeat first | refine opsStep ?_ | refine codeStep ?_ | refine drawStep ?_
      exact ⟨⟨L', hp1⟩, (by show g.n - trues L' < g.n - trues L; omega), Ent.fr' ⟨(by kernel_rfl), trivial⟩ (by kernel_rfl)⟩
    | false =>
      obtain ⟨rfl, hp5⟩ := hp4 rfl
      have hfin := live_final hgo hp1 hp5
      subst hfin
      have hll := liveL_length g
      repeat first | refine opsStep ?_ | refine codeStep ?_ | refine drawStep ?_
      refine finR (l := [(2, .ref 0 0 0)]) (v := .ref 0 0 0) (H₁ := [cnC d (.hs 1 g.n 0 g.n 1) (.hs 2 g.n 0 g.n 1), .cells g.n ((liveL g).map .bool), .cells g.n (mL g.n)]) (s' := fr [(2, .ref 0 0 0)]) (H' := [cnC d (.sl .any g.n ((liveL g).map .bool)) (.hs 1 g.n 0 g.n 1), .cells g.n (mL g.n)]) ⟨(by kernel_rfl), trivial⟩ (by kernel_rfl) ?_ (by kernel_rfl) ⟨rfl, rfl⟩
      rw [hcn, hcn]
      refine (Ent.freezeCell (b := 1) (g := g.n) (n := g.n) (es := 1) (cs := (liveL g).map .bool) 0 4 rfl rfl rfl (by decide) (by rw [List.length_map, hll]; omega)).trans ?_
      refine Ent.pick [0, 2] (by decide) (by intro b hb; simp at hb; show b < 3; omega) (fun b hb => absurd hb (Nat.not_lt_zero _)) _ _ rfl (frOk_rn ⟨rfl, trivial⟩) ?_ (by simp [frBel, AV.bel]) ?_
      · intro i x b h1 h2
        match i, h2 with
        | 0, h2 =>
          cases h1; cases h2
          refine Eq.trans (b := some (Blk.cells 0 (d.cells ++ [.sl .any g.n (yL g g.n), .sl .any g.n ((liveL g).map .bool), .hs 2 g.n 0 g.n 1]))) rfl ?_
          simp [Blk.rn, rns_app, den_rn, rns, AV.rn, yL_rn, bools_rn, rnB]
        | 1, h2 =>
          cases h1; cases h2
          refine Eq.trans (b := some (Blk.cells g.n (mL g.n))) rfl ?_
          simp [Blk.rn, mL_rn]
        | i + 2, h2 => simp at h2
      · simp [blksBel, Blk.bel, bels_append, cells_bel, yL_bel, fL_bel, mL_bel, bels, AV.bel, bels_map]

end Tab

/- count: ringed, finite. -/
namespace Tab
open Go Go.Proofs
set_option maxRecDepth 10000
set_option linter.unusedVariables false
set_option linter.unusedSimpArgs false
set_option linter.unusedSectionVars false

set_option maxHeartbeats 1000000 in
theorem count_ringed (d : Den) (hd : rightS d = true) (g : Gr) (hgr : grD d = g) (kn : AV) (B1 : Blk) (X : List Blk) : ∀ (k : Nat) (M : List Nat) (q : Nat), zeros M ≤ k → RgPre g M q →
    ACall Try.prog 82 [.ref 0 0 0, .int .i64 (q : Nat), .hs 2 0 0 g.n 1] (cnC d (.sl .any g.n ((liveL g).map .bool)) kn :: B1 :: .cells 0 (iW (M)) :: X) (fun o H' => ∃ b M', o = .ret (.bool b) ∧ H' = cnC d (.sl .any g.n ((liveL g).map .bool)) kn :: B1 :: .cells 0 (iW (M')) :: X ∧ RgPost g M q b M') := by
  have hrow := fun q hq => gr_row hd (q := q) hq
  have hnl : d.next.length = (grD d).n := (rightS_parts hd).2.1
  have hgo := grD_ok hd
  rw [hgr] at hrow hnl hgo
  have hstay := hgo.stay
  have hbig := hgo.big
  have hlet := hgo.let'
  have hll := liveL_length g
  intro k
  induction k with
  | zero =>
    intro M q hz hp
    have hq : q < g.n := hp.at'.lt hgo
    have hlq := liveL_get g hq
    have hml := hp.len
    have hil : (iW M).length = g.n := by rw [iW_length, hml]
    obtain ⟨v, hv⟩ : ∃ v, M[q]? = some v := ⟨_, List.getElem?_eq_getElem (by omega)⟩
    have hgv : (iW M)[q]? = some (.int .i64 (v : Nat)) := by simp [iW, hv]
    have hv2 := hp.two q v hv
    cases hlb : liveB g q with
    | false =>
      have hpost := hp.none (.inl hlb)
      rw [hlb] at hlq
      refine ACall.of_sw 53 Try.func82 rfl Try.ntmps82 (by kernel_rfl) (Nat.le_of_ble_eq_true (by kernel_rfl)) ?_; refine SW.of_vc ?_
      repeat first | refine opsStep ?_ | refine codeStep ?_ | refine drawStep ?_
      refine guardE_of (by simp [hll]; omega) ?_
      repeat first | refine opsStep ?_ | refine codeStep ?_ | refine drawStep ?_
      refine optE_of (c := .bool false) (by simp [Value.cells, hlq]) ?_
      repeat first | refine opsStep ?_ | refine codeStep ?_ | refine drawStep ?_
      exact finR (l := [(6, .bool false)]) (v := .bool false) ⟨(by kernel_rfl), trivial⟩ (by kernel_rfl) (Ent.refl _ _ _) (by kernel_rfl) ⟨false, M, rfl, rfl, hpost⟩
    | true =>
      have hlp := (liveB_iff g).1 hlb
      rw [hlb] at hlq
      obtain rfl | rfl | rfl : v = 2 ∨ v = 1 ∨ v = 0 := by omega
      · have hpost := hp.none (.inr hv)
        refine ACall.of_sw 53 Try.func82 rfl Try.ntmps82 (by kernel_rfl) (Nat.le_of_ble_eq_true (by kernel_rfl)) ?_; refine SW.of_vc ?_
        repeat first | refine opsStep ?_ | refine codeStep ?_ | refine drawStep ?_
        refine guardE_of (by simp [hll]; omega) ?_
        repeat first | refine opsStep ?_ | refine codeStep ?_ | refine drawStep ?_
        refine optE_of (c := .bool true) (by simp [Value.cells, hlq]) ?_
        repeat first | refine opsStep ?_ | refine codeStep ?_ | refine drawStep ?_
        refine guardE_of (by simp; omega) ?_
        repeat first | refine opsStep ?_ | refine codeStep ?_ | refine drawStep ?_
        refine optE_of (c := .int .i64 (2 : Nat)) (by simpa [Value.cells] using hgv) ?_
        repeat first | refine opsStep ?_ | refine codeStep ?_ | refine drawStep ?_
        exact finR (l := [(6, .bool false)]) (v := .bool false) ⟨(by kernel_rfl), trivial⟩ (by kernel_rfl) (Ent.refl _ _ _) (by kernel_rfl) ⟨false, M, rfl, rfl, hpost⟩
      · have hpost := hp.ring hv
        refine ACall.of_sw 53 Try.func82 rfl Try.ntmps82 (by kernel_rfl) (Nat.le_of_ble_eq_true (by kernel_rfl)) ?_; refine SW.of_vc ?_
        repeat first | refine opsStep ?_ | refine codeStep ?_ | refine drawStep ?_
        refine guardE_of (by simp [hll]; omega) ?_
        repeat first | refine opsStep ?_ | refine codeStep ?_ | refine drawStep ?_
        refine optE_of (c := .bool true) (by simp [Value.cells, hlq]) ?_
        repeat first | refine opsStep ?_ | refine codeStep ?_ | refine drawStep ?_
        refine guardE_of (by simp; omega) ?_
        repeat first | refine opsStep ?_ | refine codeStep ?_ | refine drawStep ?_
        refine optE_of (c := .int .i64 (1 : Nat)) (by simpa [Value.cells] using hgv) ?_
        repeat first | refine opsStep ?_ | refine codeStep ?_ | refine drawStep ?_
        refine guardE_of (by simp; omega) ?_
        repeat first | refine opsStep ?_ | refine codeStep ?_ | refine drawStep ?_
        refine optE_of (c := .int .i64 (1 : Nat)) (by simpa [Value.cells] using hgv) ?_
        repeat first | refine opsStep ?_ | refine codeStep ?_ | refine drawStep ?_
        exact finR (l := [(6, .bool true)]) (v := .bool true) ⟨(by kernel_rfl), trivial⟩ (by kernel_rfl) (Ent.refl _ _ _) (by kernel_rfl) ⟨true, M, rfl, rfl, hpost⟩
      · exfalso
        have := zeros_set hv (v := 1) (by decide)
        omega
  | succ k ih =>
    intro M q hz hp
    have hq : q < g.n := hp.at'.lt hgo
    have hlq := liveL_get g hq
    have hml := hp.len
    have hil : (iW M).length = g.n := by rw [iW_length, hml]
    obtain ⟨v, hv⟩ : ∃ v, M[q]? = some v := ⟨_, List.getElem?_eq_getElem (by omega)⟩
    have hgv : (iW M)[q]? = some (.int .i64 (v : Nat)) := by simp [iW, hv]
    have hv2 := hp.two q v hv
    cases hlb : liveB g q with
    | false =>
      have hpost := hp.none (.inl hlb)
      rw [hlb] at hlq
      refine ACall.of_sw 53 Try.func82 rfl Try.ntmps82 (by kernel_rfl) (Nat.le_of_ble_eq_true (by kernel_rfl)) ?_; refine SW.of_vc ?_
      repeat first | refine opsStep ?_ | refine codeStep ?_ | refine drawStep ?_
      refine guardE_of (by simp [hll]; omega) ?_
      repeat first | refine opsStep ?_ | refine codeStep ?_ | refine drawStep ?_
      refine optE_of (c := .bool false) (by simp [Value.cells, hlq]) ?_
      repeat first | refine opsStep ?_ | refine codeStep ?_ | refine drawStep ?_
      exact finR (l := [(6, .bool false)]) (v := .bool false) ⟨(by kernel_rfl), trivial⟩ (by kernel_rfl) (Ent.refl _ _ _) (by kernel_rfl) ⟨false, M, rfl, rfl, hpost⟩
    | true =>
      have hlp := (liveB_iff g).1 hlb
      rw [hlb] at hlq
      obtain rfl | rfl | rfl : v = 2 ∨ v = 1 ∨ v = 0 := by omega
      · have hpost := hp.none (.inr hv)
        refine ACall.of_sw 53 Try.func82 rfl Try.ntmps82 (by kernel_rfl) (Nat.le_of_ble_eq_true (by kernel_rfl)) ?_; refine SW.of_vc ?_
        repeat first | refine opsStep ?_ | refine codeStep ?_ | refine drawStep ?_
        refine guardE_of (by simp [hll]; omega) ?_
        repeat first | refine opsStep ?_ | refine codeStep ?_ | refine drawStep ?_
        refine optE_of (c := .bool true) (by simp [Value.cells, hlq]) ?_
        repeat first | refine opsStep ?_ | refine codeStep ?_ | refine drawStep ?_
        refine guardE_of (by simp; omega) ?_
        repeat first | refine opsStep ?_ | refine codeStep ?_ | refine drawStep ?_
        refine optE_of (c := .int .i64 (2 : Nat)) (by simpa [Value.cells] using hgv) ?_
        repeat first | refine opsStep ?_ | refine codeStep ?_ | refine drawStep ?_
        exact finR (l := [(6, .bool false)]) (v := .bool false) ⟨(by kernel_rfl), trivial⟩ (by kernel_rfl) (Ent.refl _ _ _) (by kernel_rfl) ⟨false, M, rfl, rfl, hpost⟩
      · have hpost := hp.ring hv
        refine ACall.of_sw 53 Try.func82 rfl Try.ntmps82 (by kernel_rfl) (Nat.le_of_ble_eq_true (by kernel_rfl)) ?_; refine SW.of_vc ?_
        repeat first | refine opsStep ?_ | refine codeStep ?_ | refine drawStep ?_
        refine guardE_of (by simp [hll]; omega) ?_
        repeat first | refine opsStep ?_ | refine codeStep ?_ | refine drawStep ?_
        refine optE_of (c := .bool true) (by simp [Value.cells, hlq]) ?_
        repeat first | refine opsStep ?_ | refine codeStep ?_ | refine drawStep ?_
        refine guardE_of (by simp; omega) ?_
        repeat first | refine opsStep ?_ | refine codeStep ?_ | refine drawStep ?_
        refine optE_of (c := .int .i64 (1 : Nat)) (by simpa [Value.cells] using hgv) ?_
        repeat first | refine opsStep ?_ | refine codeStep ?_ | refine drawStep ?_
        refine guardE_of (by simp; omega) ?_
        repeat first | refine opsStep ?_ | refine codeStep ?_ | refine drawStep ?_
        refine optE_of (c := .int .i64 (1 : Nat)) (by simpa [Value.cells] using hgv) ?_
        repeat first | refine opsStep ?_ | refine codeStep ?_ | refine drawStep ?_
        exact finR (l := [(6, .bool true)]) (v := .bool true) ⟨(by kernel_rfl), trivial⟩ (by kernel_rfl) (Ent.refl _ _ _) (by kernel_rfl) ⟨true, M, rfl, rfl, hpost⟩
      · have hz1 := zeros_set hv (v := 1) (by decide)
        have hst := hp.start hv
        have hstop := fun M' (hs : RgSame g (M.set q 1) M') hd => hp.stop hgo hq hlp hv hs hd
        have hgoes := fun (a : Nat) (ha : a < g.K) M' (hs : RgSame g (M.set q 1) M') => hp.go hq hlp hv ha hs
        obtain ⟨r, g1, g2, g3, g4⟩ := hrow q hq
        obtain ⟨M1, hM1⟩ : ∃ M1, M.set q 1 = M1 := ⟨_, rfl⟩
        have hset1 : (iW M).set q (.int .i64 (1 : Nat)) = iW M1 := by rw [iW_set, hM1]
        rw [hM1] at hz1 hst hstop hgoes
        have hM1l := hst.len
        refine ACall.of_sw 53 Try.func82 rfl Try.ntmps82 (by kernel_rfl) (Nat.le_of_ble_eq_true (by kernel_rfl)) ?_; refine SW.of_vc ?_
        repeat first | refine opsStep ?_ | refine codeStep ?_ | refine drawStep ?_
        refine guardE_of (by simp [hll]; omega) ?_
        repeat first | refine opsStep ?_ | refine codeStep ?_ | refine drawStep ?_
        refine optE_of (c := .bool true) (by simp [Value.cells, hlq]) ?_
        repeat first | refine opsStep ?_ | refine codeStep ?_ | refine drawStep ?_
        refine guardE_of (by simp; omega) ?_
        repeat first | refine opsStep ?_ | refine codeStep ?_ | refine drawStep ?_
        refine optE_of (c := .int .i64 (0 : Nat)) (by simpa [Value.cells] using hgv) ?_
        repeat first | refine opsStep ?_ | refine codeStep ?_ | refine drawStep ?_
        refine guardE_of (by simp; omega) ?_
        repeat first | refine opsStep ?_ | refine codeStep ?_ | refine drawStep ?_
        refine optE_of (c := .int .i64 (0 : Nat)) (by simpa [Value.cells] using hgv) ?_
        repeat first | refine opsStep ?_ | refine codeStep ?_ | refine drawStep ?_
        refine guardE_of (by simp; omega) ?_
        repeat first | refine opsStep ?_ | refine codeStep ?_ | refine drawStep ?_
        refine guardE_of ⟨rfl, by decide, by show 0 + q * 1 + 1 ≤ (iW M).length; omega⟩ ?_
        repeat first | refine opsStep ?_ | refine codeStep ?_ | refine drawStep ?_
        refine guardE_of (by simp; omega) ?_
        repeat first | refine opsStep ?_ | refine codeStep ?_ | refine drawStep ?_
        refine optE_of (c := aIs r.1 r.2) (by simp [Value.cells, g1]) ?_
        repeat first | refine opsStep ?_ | refine codeStep ?_ | refine drawStep ?_
        refine loopE_of (ι := {x : Nat × List Nat // x.1 ≤ g.K ∧ RgSame g M1 x.2 ∧ ∀ a, a < x.1 → liveP g (g.st q a) → x.2[g.st q a]? = some 2})
          (fun x => (fr [(0, .ref 0 0 0), (1, .int .i64 (q : Nat)), (2, .hs 2 0 0 g.n 1), (39, aIs r.1 r.2), (40, .int .i64 (r.2.length : Nat)), (41, .int .i64 (x.1.1 : Nat))], cnC d (.sl .any g.n ((liveL g).map .bool)) kn :: B1 :: .cells 0 (iW (x.1.2)) :: X)) (fun x => g.K - x.1.1) ⟨(0, M1), Nat.zero_le _, hst, fun a ha => absurd ha (Nat.not_lt_zero _)⟩ (Ent.fr' ⟨(by kernel_rfl), (by kernel_rfl), (by kernel_rfl), (by kernel_rfl), (by kernel_rfl), (by kernel_rfl), trivial⟩ ?_) ?_
        · refine Eq.trans (b := cnC d (.sl .any g.n ((liveL g).map .bool)) kn :: B1 :: .cells 0 (over (iW M) (0 + q * 1) [.int .i64 (1 : Nat)]) :: X) (by kernel_rfl) ?_
          rw [Nat.zero_add, Nat.mul_one, over_one (by omega), hset1]
        rintro ⟨⟨a, Ma⟩, ha, hsa, hda⟩
        simp only at ha hsa hda
        repeat first | refine opsStep ?_ | refine codeStep ?_ | refine drawStep ?_
        refine decB_dec (fun hac => ?_) (fun hac => ?_)
        · have hal : a < g.K := by have := hac; simp at this; omega
          obtain ⟨g5, g6⟩ := g4 a hal
          have har : a < r.2.length := by omega
          have hpa := hgoes a hal Ma hsa
          have hza : zeros Ma ≤ k := by have := zeros_le (show Ma.length = M1.length by rw [hsa.len, hM1l]) hsa.zero; omega
          have hcall := ih Ma (g.st q a) hza hpa
          have hda' : ∀ b, b < a + 1 → liveP g (g.st q b) → b = a ∨ Ma[g.st q b]? = some 2 := fun b hb hl => by
            by_cases e : b = a
            · exact .inl e
            · exact .inr (hda b (by omega) hl)
          have hto : ∀ M', (liveP g (g.st q a) → M'[g.st q a]? = some 2) → RgSame g Ma M' → ∀ b, b < a + 1 → liveP g (g.st q b) → M'[g.st q b]? = some 2 := fun M' h1 h2 b hb hl => by
            rcases hda' b hb hl with e | e
            · subst e; exact h1 hl
            · exact h2.keep _ e
          generalize g.st q a = to at hcall g5 g6 hpa hto
          repeat first | refine opsStep ?_ | refine codeStep ?_ | refine drawStep ?_
          refine guardE_of (by simp; omega) ?_
          repeat first | refine opsStep ?_ | refine codeStep ?_ | refine drawStep ?_
          refine optE_of (c := .int .i64 (to : Nat)) (by simp [Value.cells, g5]) ?_
          repeat first | refine opsStep ?_ | refine codeStep ?_ | refine drawStep ?_
          refine callI2 hcall ?_
          rintro b M' hpost
          cases b with
          | true =>
            repeat first | refine opsStep ?_ | refine codeStep ?_ | refine drawStep ?_
            exact finR (l := [(6, .bool true)]) (v := .bool true) ⟨(by kernel_rfl), trivial⟩ (by kernel_rfl) (Ent.refl _ _ _) (by kernel_rfl) ⟨true, M', rfl, rfl, hpost⟩
          | false =>
            obtain ⟨hs', hl'⟩ := hpost
            repeat first | refine opsStep ?_ | refine codeStep ?_ | refine drawStep ?_
            exact ⟨⟨(a + 1, M'), hal, hsa.trans hs', hto M' hl' hs'⟩, (by show g.K - (a + 1) < g.K - a; omega), Ent.fr' ⟨(by kernel_rfl), (by kernel_rfl), (by kernel_rfl), (by kernel_rfl), (by kernel_rfl), inc_slot (i := a) (by omega), trivial⟩ (by kernel_rfl)⟩
        · have hae : a = g.K := by have := hac; simp at this; omega
          subst hae
          have hpost := hstop Ma hsa hda
          have hmal := hsa.len
          have hial : (iW Ma).length = g.n := by rw [iW_length, hmal]
          repeat first | refine opsStep ?_ | refine codeStep ?_ | refine drawStep ?_
          refine guardE_of (by simp; omega) ?_
          repeat first | refine opsStep ?_ | refine codeStep ?_ | refine drawStep ?_
          refine guardE_of ⟨rfl, by decide, by show 0 + q * 1 + 1 ≤ (iW Ma).length; omega⟩ ?_
          repeat first | refine opsStep ?_ | refine codeStep ?_ | refine drawStep ?_
          refine finR (l := [(6, .bool false)]) (v := .bool false) (H₁ := cnC d (.sl .any g.n ((liveL g).map .bool)) kn :: B1 :: .cells 0 (iW (Ma.set q 2)) :: X) ⟨(by kernel_rfl), trivial⟩ ?_ (Ent.refl _ _ _) (by kernel_rfl) ⟨false, Ma.set q 2, rfl, rfl, hpost⟩
          refine Eq.trans (b := cnC d (.sl .any g.n ((liveL g).map .bool)) kn :: B1 :: .cells 0 (over (iW Ma) (0 + q * 1) [.int .i64 (2 : Nat)]) :: X) (by kernel_rfl) ?_
          rw [Nat.zero_add, Nat.mul_one, over_one (by omega), iW_set]

end Tab

/- count: finite, beyond. -/
namespace Tab
open Go Go.Proofs
set_option maxRecDepth 10000
set_option linter.unusedVariables false
set_option linter.unusedSimpArgs false
set_option linter.unusedSectionVars false

noncomputable def cnH (d : Den) (g : Gr) (X : List Blk) : List Blk := cnC d (.sl .any g.n ((liveL g).map .bool)) (.hs 1 g.n 0 g.n 1) :: X
theorem count_finite (d : Den) (hd : rightS d = true) (g : Gr) (hgr : grD d = g) :
    ACall Try.prog 36 [.ref 0 0 0] (cnH d g [.cells g.n (mL g.n)]) (fun o H' => o = .ret (.bool (finT g)) ∧ H' = cnH d g [.cells g.n (mL g.n)]) := by
  have hgo : g.Ok := by rw [← hgr]; exact grD_ok hd
  have hbig := hgo.big
  have hll := liveL_length g
  have hcn : ∀ lv kn, cnC d lv kn = .cells 0 (d.cells ++ [.sl .any g.n (yL g g.n), lv, kn]) := fun lv kn => by rw [cnC, hgr]
  have hcall := count_ringed d hd g hgr (.hs 1 g.n 0 g.n 1) (.cells g.n (mL g.n)) [] (zeros (List.replicate g.n 0)) (List.replicate g.n 0) 0 (Nat.le_refl _) (RgPre.zero hgo)
  have hrep : iW (List.replicate g.n 0) = reps [.int .i64 0] g.n := by rw [reps_one]; simp [iW]
  have hfin := fun b M h => ring_fin (b := b) (M := M) hgo h
  rw [hrep] at hcall
  generalize finT g = fb at *
  rw [cnH]
  refine ACall.of_sw 12 Try.func36 rfl Try.ntmps36 (by kernel_rfl) (Nat.le_of_ble_eq_true (by kernel_rfl)) ?_; refine SW.of_vc ?_
  repeat first | refine opsStep ?_ | refine codeStep ?_ | refine drawStep ?_
  refine guardE_of ⟨by show 0 ≤ ((g.n : Nat) : Int); omega, Int.le_refl _, by show (8 : Int) * ((g.n : Nat) : Int) ≤ _; omega, by show ((g.n : Nat) : Int) ≤ _; omega⟩ ?_
  repeat first | refine opsStep ?_ | refine codeStep ?_ | refine drawStep ?_
  refine callI2 hcall ?_
  rintro b M' hpost
  have hfb := hfin b M' hpost
  subst hfb
  repeat first | refine opsStep ?_ | refine codeStep ?_ | refine drawStep ?_
  refine finR (l := [(2, .bool (!b))]) (v := .bool (!b)) (H₁ := [cnC d (.sl .any g.n ((liveL g).map .bool)) (.hs 1 g.n 0 g.n 1), .cells g.n (mL g.n), .cells 0 (iW M')]) ⟨(by kernel_rfl), trivial⟩ (by kernel_rfl) (Ent.drop (l := [(2, .bool (!b))]) (H := [cnC d (.sl .any g.n ((liveL g).map .bool)) (.hs 1 g.n 0 g.n 1), .cells g.n (mL g.n)]) (X := [.cells 0 (iW M')]) (Nat.le_refl _) (by simp [frBel, AV.bel]) ?_) (by kernel_rfl) ⟨rfl, rfl⟩
  rw [hcn]
  simp [blksBel, Blk.bel, bels_append, cells_bel, yL_bel, mL_bel, bels, AV.bel, bels_map]

end Tab

/- count: beyond. -/
namespace Tab
open Go Go.Proofs
set_option maxRecDepth 10000
set_option linter.unusedVariables false
set_option linter.unusedSimpArgs false
set_option linter.unusedSectionVars false

theorem callPan {P : Program} {f : FuncId} {args : List AV} {H : List Blk} {α : Type} {v : AV} {Hh : α → List Blk} {Q : α → Prop} {c : Prop} {X : Out → List Blk → Prop}
    (h : ACall P f args H fun o H' => ∃ a, H' = Hh a ∧ Q a ∧ ((o = .ret v ∧ c) ∨ (o = .pan ∧ ¬ c))) (k1 : c → ∀ a, Q a → X (.ret v) (Hh a)) (k2 : ¬ c → ∀ a, Q a → X .pan (Hh a)) : ∃ R : Out → List Blk → Prop, ACall P f args H R ∧ ∀ o H', R o H' → X o H' :=
  ⟨_, h, by
    rintro _ _ ⟨a, rfl, hq, ⟨rfl, hc⟩ | ⟨rfl, hc⟩⟩
    · exact k1 hc a hq
    · exact k2 hc a hq⟩
/-- A call that panics. -/
theorem callX {P : Program} {f : FuncId} {args : List AV} {H H₁ : List Blk} {X : Out → List Blk → Prop} (h : ACall P f args H fun o H' => o = .pan ∧ H' = H₁) (k : X .pan H₁) : ∃ R : Out → List Blk → Prop, ACall P f args H R ∧ ∀ o H', R o H' → X o H' :=
  ⟨_, h, by rintro _ _ ⟨rfl, rfl⟩; exact k⟩

def KnOk (g : Gr) (B : Nat → Nat) (kn : List Int) : Prop := kn.length = g.n ∧ ∀ (x : Nat) (v : Int), kn[x]? = some v → v = -1 ∨ (v = (B x : Nat) ∧ B x < 9223372036854775808)
theorem KnOk.set {g : Gr} {B : Nat → Nat} {kn : List Int} (h : KnOk g B kn) {q : Nat} (hq : B q < 9223372036854775808) : KnOk g B (kn.set q (B q : Nat)) := by
  refine ⟨by simpa using h.1, fun x v hx => ?_⟩
  rw [List.getElem?_set] at hx
  split at hx
  · rename_i e
    subst e
    split at hx
    · simp at hx; exact .inr ⟨hx.symm, hq⟩
    · simp at hx
  · exact h.2 x v hx
noncomputable def kH (d : Den) (g : Gr) (kn : List Int) (X : List Blk) : List Blk := cnC d (.sl .any g.n ((liveL g).map .bool)) (.hs 1 g.n 0 g.n 1) :: .cells g.n (kn.map (.int .i64)) :: X

set_option maxHeartbeats 1000000 in
theorem count_beyond (d : Den) (hd : rightS d = true) (g : Gr) (hgr : grD d = g) (X : List Blk) (r : Nat → Nat) (hr : ∀ x, Rch g x → ∀ y, Ed g x y → liveP g y → r y < r x) : ∀ (m q : Nat) (kn : List Int), q < g.n → KnOk g (beyN g) kn → (liveP g q → Rch g q ∧ r q < m) →
    ACall Try.prog 85 [.ref 0 0 0, .int .i64 (q : Nat)] (kH d g kn X) (fun o H' => ∃ kn', H' = kH d g kn' X ∧ KnOk g (beyN g) kn' ∧ ((o = .ret (.int .i64 (beyN g q : Nat)) ∧ beyN g q < 9223372036854775808) ∨ (o = .pan ∧ ¬ beyN g q < 9223372036854775808))) := by
  have hends := fun q a hq ha (kn : List Int) => count_ends d hd q a hq ha (.sl .any g.n ((liveL g).map .bool)) (.hs 1 g.n 0 g.n 1) (.cells g.n (kn.map (.int .i64)) :: X)
  have hrow := fun q hq => gr_row hd (q := q) hq
  have hgo := grD_ok hd
  have hel : ∀ q a, endsN (grD d) q a ≤ 64 := fun q a => Nat.le_trans (endsN_le _ _ _) (Nat.le_trans (yesTo_le _ _ _) hgo.let')
  rw [hgr] at hrow hgo hends hel
  have hstay := hgo.stay
  have hbig := hgo.big
  have hlet := hgo.let'
  have hll := liveL_length g
  have hdead := fun q => bey_dead (g := g) (q := q)
  have hrec := fun q => bey_rec hgo ⟨r, hr⟩ (q := q)
  obtain ⟨B, hB⟩ : ∃ B, beyN g = B := ⟨_, rfl⟩
  rw [hB] at hdead hrec ⊢
  intro m
  induction m with
  | zero =>
    intro q kn hq hk hl
    have hlb : liveB g q = false := by
      cases h : liveB g q with
      | false => rfl
      | true => have := (hl ((liveB_iff g).1 h)).2; omega
    have hlq := liveL_get g hq
    have hb0 : B q = 0 := hdead q fun h => by have := (liveB_iff g).2 h; rw [hlb] at this; simp at this
    rw [hlb] at hlq
    rw [hb0, kH]
    refine ACall.of_sw 63 Try.func85 rfl Try.ntmps85 (by kernel_rfl) (Nat.le_of_ble_eq_true (by kernel_rfl)) ?_; refine SW.of_vc ?_
    repeat first | refine opsStep ?_ | refine codeStep ?_ | refine drawStep ?_
    refine guardE_of (by simp [hll]; omega) ?_
    repeat first | refine opsStep ?_ | refine codeStep ?_ | refine drawStep ?_
    refine optE_of (c := .bool false) (by simp [Value.cells, hlq]) ?_
    repeat first | refine opsStep ?_ | refine codeStep ?_ | refine drawStep ?_
    exact finR (l := [(4, .int .i64 (0 : Nat))]) (v := .int .i64 (0 : Nat)) ⟨(by kernel_rfl), trivial⟩ (by kernel_rfl) (Ent.refl _ _ _) (by kernel_rfl) ⟨kn, rfl, hk, .inl ⟨rfl, by decide⟩⟩
  | succ m ih =>
    intro q kn hq hk hl
    cases hlb : liveB g q with
    | false =>
      have hlq := liveL_get g hq
      have hb0 : B q = 0 := hdead q fun h => by have := (liveB_iff g).2 h; rw [hlb] at this; simp at this
      rw [hlb] at hlq
      rw [hb0, kH]
      refine ACall.of_sw 63 Try.func85 rfl Try.ntmps85 (by kernel_rfl) (Nat.le_of_ble_eq_true (by kernel_rfl)) ?_; refine SW.of_vc ?_
      repeat first | refine opsStep ?_ | refine codeStep ?_ | refine drawStep ?_
      refine guardE_of (by simp [hll]; omega) ?_
      repeat first | refine opsStep ?_ | refine codeStep ?_ | refine drawStep ?_
      refine optE_of (c := .bool false) (by simp [Value.cells, hlq]) ?_
      repeat first | refine opsStep ?_ | refine codeStep ?_ | refine drawStep ?_
      exact finR (l := [(4, .int .i64 (0 : Nat))]) (v := .int .i64 (0 : Nat)) ⟨(by kernel_rfl), trivial⟩ (by kernel_rfl) (Ent.refl _ _ _) (by kernel_rfl) ⟨kn, rfl, hk, .inl ⟨rfl, by decide⟩⟩
    | true =>
      have hlp := (liveB_iff g).1 hlb
      obtain ⟨hrq, hrm⟩ := hl hlp
      have hlq := liveL_get g hq
      rw [hlb] at hlq
      obtain ⟨r0, g1, g2, g3, g4⟩ := hrow q hq
      have hBq := hrec q hrq
      obtain ⟨f, hf⟩ : ∃ f, (fun a => endsN g (g.st q a) a + B (g.st q a)) = f := ⟨_, rfl⟩
      rw [hf] at hBq
      have hfa : ∀ a, endsN g (g.st q a) a + B (g.st q a) = f a := fun a => congrFun hf a
      have hcall := fun a (ha : a < g.K) (kn1 : List Int) (hk1 : KnOk g B kn1) => ih (g.st q a) kn1 (hstay q a hq ha) hk1 (fun h => ⟨hrq.snoc ⟨hlp, a, ha, rfl⟩, by have := hr q hrq _ ⟨hlp, a, ha, rfl⟩ h; omega⟩)
      have hen := fun a (ha : a < g.K) (kn1 : List Int) => hends (g.st q a) a (hstay q a hq ha) ha kn1
      have hkl := hk.1
      obtain ⟨v, hv⟩ : ∃ v, kn[q]? = some v := ⟨_, List.getElem?_eq_getElem (by omega)⟩
      have hv2 := hk.2 q v hv
      have hle : ∀ a, a ≤ g.K → sumTo f a ≤ B q := fun a ha => by rw [hBq]; exact sumTo_mono ha
      have hsucc : ∀ a, sumTo f (a + 1) = sumTo f a + f a := fun a => rfl
      clear hends ih hl hr hdead hrec hf
      rw [kH]
      rcases hv2 with rfl | ⟨rfl, hfit⟩
      · refine ACall.of_sw 63 Try.func85 rfl Try.ntmps85 (by kernel_rfl) (Nat.le_of_ble_eq_true (by kernel_rfl)) ?_; refine SW.of_vc ?_
        repeat first | refine opsStep ?_ | refine codeStep ?_ | refine drawStep ?_
        refine guardE_of (by simp [hll]; omega) ?_
        repeat first | refine opsStep ?_ | refine codeStep ?_ | refine drawStep ?_
        refine optE_of (c := .bool true) (by simp [Value.cells, hlq]) ?_
        repeat first | refine opsStep ?_ | refine codeStep ?_ | refine drawStep ?_
        refine guardE_of (by simp; omega) ?_
        repeat first | refine opsStep ?_ | refine codeStep ?_ | refine drawStep ?_
        refine guardE_of rfl ?_
        refine optE_of rfl ?_
        refine optE_of (c := .int .i64 (-1)) (by show (kn.map (AV.int .i64))[0 + q * 1]? = _; simp [hv]) ?_
        repeat first | refine opsStep ?_ | refine codeStep ?_ | refine drawStep ?_
        refine guardE_of (by simp; omega) ?_
        repeat first | refine opsStep ?_ | refine codeStep ?_ | refine drawStep ?_
        refine optE_of (c := aIs r0.1 r0.2) (by simp [Value.cells, g1]) ?_
        repeat first | refine opsStep ?_ | refine codeStep ?_ | refine drawStep ?_
        refine loopE_of (ι := {x : Nat × List Int // x.1 ≤ g.K ∧ KnOk g B x.2 ∧ sumTo f x.1 < 9223372036854775808})
          (fun x => (fr [(0, .ref 0 0 0), (1, .int .i64 (q : Nat)), (5, .int .i64 (sumTo f x.1.1 : Nat)), (31, aIs r0.1 r0.2), (32, .int .i64 (r0.2.length : Nat)), (33, .int .i64 (x.1.1 : Nat))], cnC d (.sl .any g.n ((liveL g).map .bool)) (.hs 1 g.n 0 g.n 1) :: .cells g.n ((x.1.2).map (.int .i64)) :: X)) (fun x => g.K - x.1.1) ⟨(0, kn), Nat.zero_le _, hk, by show (0 : Nat) < _; decide⟩ (Ent.fr' ⟨(by kernel_rfl), (by kernel_rfl), (by kernel_rfl), (by kernel_rfl), (by kernel_rfl), (by kernel_rfl), trivial⟩ (by kernel_rfl)) ?_
        rintro ⟨⟨a, kn1⟩, ha, hk1, hs1⟩
        simp only at ha hk1 hs1
        repeat first | refine opsStep ?_ | refine codeStep ?_ | refine drawStep ?_
        refine decB_dec (fun hac => ?_) (fun hac => ?_)
        · have hal : a < g.K := by have := hac; simp at this; omega
          obtain ⟨g5, g6⟩ := g4 a hal
          have har : a < r0.2.length := by omega
          have hcall := hcall a hal kn1 hk1
          have hen := hen a hal kn1
          have hel := hel (g.st q a) a
          have hfa := hfa a
          have hsu := hsucc a
          have hle1 := hle (a + 1) hal
          rw [kH] at hcall
          generalize endsN g (g.st q a) a = en at *
          obtain ⟨Bt, hBt⟩ : ∃ Bt, B (g.st q a) = Bt := ⟨_, rfl⟩
          rw [hBt] at hcall hfa
          generalize g.st q a = to at hcall hen g5 g6
          obtain ⟨fa, hfe⟩ : ∃ fa, f a = fa := ⟨_, rfl⟩
          rw [hfe] at hfa hsu
          repeat first | refine opsStep ?_ | refine codeStep ?_ | refine drawStep ?_
          refine guardE_of (by simp; omega) ?_
          repeat first | refine opsStep ?_ | refine codeStep ?_ | refine drawStep ?_
          refine optE_of (c := .int .i64 (to : Nat)) (by simp [Value.cells, g5]) ?_
          repeat first | refine opsStep ?_ | refine codeStep ?_ | refine drawStep ?_
          refine callH hen ?_
          repeat first | refine opsStep ?_ | refine codeStep ?_ | refine drawStep ?_
          refine callPan hcall (fun hc kn2 hk2 => ?_) (fun hc kn2 hk2 => ?_)
          · by_cases h3 : en + Bt < 9223372036854775808
            · have hsum := count_sum en Bt h3
              rw [hfa] at hsum
              by_cases h4 : sumTo f a + fa < 9223372036854775808
              · have hsum2 := count_sum (sumTo f a) fa h4
                repeat first | refine opsStep ?_ | refine codeStep ?_ | refine drawStep ?_
                refine callP hsum ?_
                repeat first | refine opsStep ?_ | refine codeStep ?_ | refine drawStep ?_
                refine callP hsum2 ?_
                repeat first | refine opsStep ?_ | refine codeStep ?_ | refine drawStep ?_
                refine ⟨⟨(a + 1, kn2), hal, hk2, by show sumTo f (a + 1) < _; omega⟩, (by show g.K - (a + 1) < g.K - a; omega), Ent.fr' ⟨(by kernel_rfl), (by kernel_rfl), ?_, (by kernel_rfl), (by kernel_rfl), inc_slot (i := a) (by omega), trivial⟩ (by kernel_rfl)⟩
                refine Eq.trans (b := .int .i64 ((sumTo f a + fa : Nat) : Int)) (by kernel_rfl) ?_
                rw [← hsu]
              · have hsum2 := count_sumPan (sumTo f a) fa hs1 (by omega) h4
                repeat first | refine opsStep ?_ | refine codeStep ?_ | refine drawStep ?_
                refine callP hsum ?_
                repeat first | refine opsStep ?_ | refine codeStep ?_ | refine drawStep ?_
                refine callX (hsum2 _) ?_
                exact ⟨_, _, Ent.refl _ _ _, kn2, rfl, hk2, .inr ⟨rfl, by omega⟩⟩
            · have hsum := count_sumPan en Bt (by omega) hc h3
              repeat first | refine opsStep ?_ | refine codeStep ?_ | refine drawStep ?_
              refine callX (hsum _) ?_
              exact ⟨_, _, Ent.refl _ _ _, kn2, rfl, hk2, .inr ⟨rfl, by omega⟩⟩
          · exact ⟨_, _, Ent.refl _ _ _, kn2, rfl, hk2, .inr ⟨rfl, by omega⟩⟩
        · have hae : a = g.K := by have := hac; simp at this; omega
          subst hae
          have hkl1 := hk1.1
          have hfit : B q < 9223372036854775808 := by omega
          have hkset := hk1.set hfit
          have hmap : (kn1.map (AV.int .i64)).set q (.int .i64 (B q : Nat)) = (kn1.set q (B q : Nat)).map (.int .i64) := by rw [List.map_set]
          have hgs : ((kn1.map (AV.int .i64)).set q (.int .i64 (B q : Nat)))[q]? = some (.int .i64 (B q : Nat)) := by rw [List.getElem?_set, if_pos rfl, if_pos (by rw [List.length_map]; omega)]
          have hov : over (kn1.map (AV.int .i64)) (0 + q * 1) [.int .i64 (B q : Nat)] = (kn1.map (AV.int .i64)).set q (.int .i64 (B q : Nat)) := by rw [Nat.zero_add, Nat.mul_one, over_one (by rw [List.length_map]; omega)]
          rw [← hBq] at hs1
          repeat first | refine opsStep ?_ | refine codeStep ?_ | refine drawStep ?_
          refine guardE_of (by simp; omega) ?_
          repeat first | refine opsStep ?_ | refine codeStep ?_ | refine drawStep ?_
          refine guardE_of rfl ?_
          refine optE_of rfl ?_
          refine optE_of rfl ?_
          refine guardE_of ⟨rfl, by decide, by show 0 + q * 1 + 1 ≤ (kn1.map (AV.int .i64)).length; rw [List.length_map]; omega⟩ ?_
          repeat first | refine opsStep ?_ | refine codeStep ?_ | refine drawStep ?_
          refine guardE_of (by simp; omega) ?_
          repeat first | refine opsStep ?_ | refine codeStep ?_ | refine drawStep ?_
          refine guardE_of rfl ?_
          refine optE_of rfl ?_
          refine optE_of (c := .int .i64 (B q : Nat)) (by show (over (kn1.map (AV.int .i64)) (0 + q * 1) [.int .i64 (sumTo f g.K : Nat)])[0 + q * 1]? = _; rw [← hBq, hov, Nat.zero_add, Nat.mul_one]; exact hgs) ?_
          repeat first | refine opsStep ?_ | refine codeStep ?_ | refine drawStep ?_
          refine finR (l := [(4, .int .i64 (B q : Nat))]) (v := .int .i64 (B q : Nat)) (H₁ := kH d g (kn1.set q (B q : Nat)) X) ⟨(by kernel_rfl), trivial⟩ ?_ (Ent.refl _ _ _) (by kernel_rfl) ⟨_, rfl, hkset, .inl ⟨rfl, hfit⟩⟩
          refine Eq.trans (b := cnC d (.sl .any g.n ((liveL g).map .bool)) (.hs 1 g.n 0 g.n 1) :: .cells g.n (over (kn1.map (AV.int .i64)) (0 + q * 1) [.int .i64 (sumTo f g.K : Nat)]) :: X) (by kernel_rfl) ?_
          rw [← hBq, hov, hmap, kH]
      · refine ACall.of_sw 63 Try.func85 rfl Try.ntmps85 (by kernel_rfl) (Nat.le_of_ble_eq_true (by kernel_rfl)) ?_; refine SW.of_vc ?_
        repeat first | refine opsStep ?_ | refine codeStep ?_ | refine drawStep ?_
        refine guardE_of (by simp [hll]; omega) ?_
        repeat first | refine opsStep ?_ | refine codeStep ?_ | refine drawStep ?_
        refine optE_of (c := .bool true) (by simp [Value.cells, hlq]) ?_
        repeat first | refine opsStep ?_ | refine codeStep ?_ | refine drawStep ?_
        refine guardE_of (by simp; omega) ?_
        repeat first | refine opsStep ?_ | refine codeStep ?_ | refine drawStep ?_
        refine guardE_of rfl ?_
        refine optE_of rfl ?_
        refine optE_of (c := .int .i64 (B q : Nat)) (by show (kn.map (AV.int .i64))[0 + q * 1]? = _; simp [hv]) ?_
        repeat first | refine opsStep ?_ | refine codeStep ?_ | refine drawStep ?_
        refine guardE_of (by simp; omega) ?_
        repeat first | refine opsStep ?_ | refine codeStep ?_ | refine drawStep ?_
        refine guardE_of rfl ?_
        refine optE_of rfl ?_
        refine optE_of (c := .int .i64 (B q : Nat)) (by show (kn.map (AV.int .i64))[0 + q * 1]? = _; simp [hv]) ?_
        repeat first | refine opsStep ?_ | refine codeStep ?_ | refine drawStep ?_
        exact finR (l := [(4, .int .i64 (B q : Nat))]) (v := .int .i64 (B q : Nat)) ⟨(by kernel_rfl), trivial⟩ (by kernel_rfl) (Ent.refl _ _ _) (by kernel_rfl) ⟨kn, rfl, hk, .inl ⟨rfl, hfit⟩⟩

end Tab
