/- Lemmas for this claim: part 10. No condition. -/
import Derived.Test.YtgadapklmphliaaZ5
import Derived.Test.YtgadapklmphliaaZ9
import Derived.Test.YtgadapklmphliaaProg
set_option linter.unusedVariables false
set_option linter.unusedSimpArgs false
set_option linter.unusedSectionVars false
/- Nothing is asked of package-level variables. -/
namespace Tab
open Go

instance noGlobs : Globs := ⟨fun _ => .junk, fun _ _ _ _ _ _ _ => by simp only [VRel]⟩
theorem noGlobs_all (W : World) : GRel m₀ (fun cb => cb < W.heap.size) W := fun _ => by show VRel _ _ _ .junk _; simp only [VRel]

end Tab

/- Numbers named anew, as they are met. -/
namespace Tab
open Go Go.Proofs
set_option maxRecDepth 10000
set_option linter.unusedVariables false
set_option linter.unusedSimpArgs false
set_option linter.unusedSectionVars false

theorem mapII : NumMap Try.prog 216 3 3 where
  map := (by kernel_rfl)
  law := Maps.int_keyed (q := .i64) (by kernel_rfl)
  zero w := by
    obtain ⟨i, hi⟩ : ∃ i, Try.prog.info? 3 = some i := ⟨_, rfl⟩
    exact run_zero' (i := _) (z := .int .i64 0) rfl (by kernel_rfl) w

def denL (l : List Int) : List Int := (List.range l.length).map fun j => ((metL [] l).idxOf (l.getD j 0) : Int)

theorem keyI {x : Int} (h : -(2^63) ≤ x ∧ x < 2^63) : keyOf Try.prog 3 (.int .i64 x) = some (.int .i64 x) := by
  refine Maps.keyOf_int_mk (q := .i64) (by kernel_rfl) ?_
  simp only [Lit.wf, Bool.and_eq_true, decide_eq_true_eq, show IntKind.i64.min = -9223372036854775808 from rfl, show IntKind.i64.max = 9223372036854775807 from rfl]
  omega

theorem canon_dense (k : SK) (l : List Int) (hl : l.length < 2^40) (hv : ∀ v ∈ l, -(2^63) ≤ v ∧ v < 2^63) : Pure Try.prog 169 [aIs k l] (.tup [aIs .any (denL l), .int .i64 ((metL [] l).length : Nat)]) := by
  refine Pure.of_read (by simp [closeds, AV.closed, aIs_closed]) (by simp [closeds, AV.closed, aIs_closed]) (R := fun o H' => o = .ret (.tup [.hs 1 0 0 l.length 1, .int .i64 ((metL [] l).length : Nat)]) ∧ H' = [.dict (dI ((metL [] l).map (Value.int .i64))), .cells 0 ((denL l).map (.int .i64))]) ?_ ?_
  rotate_left
  · rintro o H' ⟨rfl, rfl⟩
    refine ⟨_, rfl, .tup (.cons ?_ (.cons (.refl _) .nil))⟩
    rw [aIs, show (denL l).length = l.length by simp [denL]]
    exact Rd.whole (b := 1) rfl (by simp [denL])
  refine ACall.of_sw 42 Try.func169 rfl Try.ntmps169 (by kernel_rfl) (Nat.le_of_ble_eq_true (by kernel_rfl)) ?_; refine SW.of_vc ?_
  repeat first | refine opsStep ?_ | refine codeStep ?_ | refine drawStep ?_
  refine guardE_of ⟨by omega, by omega, by show (8 : Int) * (l.length : Int) ≤ 281474976710656; omega, by omega⟩ ?_
  repeat first | refine opsStep ?_ | refine codeStep ?_ | refine drawStep ?_
  refine loopE_of (ι := {i : Nat // i ≤ l.length})
    (fun i => (fr [(0, aIs k l), (4, .mp 0), (5, .hs 1 0 0 l.length 1), (14, aIs k l), (15, .int .i64 l.length), (16, .int .i64 i.1)], [.dict (dI ((metL [] (l.take i.1)).map (Value.int .i64))), .cells 0 ((partL (fun j => ((metL [] l).idxOf (l.getD j 0) : Int)) l.length i.1).map (.int .i64))]))
    (fun i => l.length - i.1) ⟨0, by omega⟩ (Ent.fr' ⟨(by kernel_rfl), (by kernel_rfl), (by kernel_rfl), (by kernel_rfl), (by kernel_rfl), (by kernel_rfl), trivial⟩ ?_) ?_
  · refine Eq.trans (b := [.dict [], Blk.cells 0 (reps [.int .i64 0] l.length)]) (by kernel_rfl) ?_
    rw [reps_one, partL_zero]; simp [metL, dI_nil]
  rintro ⟨i, hi⟩
  have hnd := metL_nodup (l.take i) [] List.nodup_nil
  have hnd2 : ((metL [] (l.take i)).map (Value.int .i64)).Nodup := List.Pairwise.map _ (fun a b h e => h (by injection e)) hnd
  have hks : ∀ x ∈ (metL [] (l.take i)).map (Value.int .i64), ∃ q, keyOf Try.prog 3 x = some q := fun x hx => by
    obtain ⟨y, hy, rfl⟩ := List.mem_map.1 hx
    rcases (metL_mem y _ _).1 hy with h | h
    · simp at h
    · exact ⟨_, keyI (hv y (List.mem_of_mem_take h))⟩
  have hml := metL_len (l.take i) []
  have hpl := partL_length (fun j => ((metL [] l).idxOf (l.getD j 0) : Int)) l.length i
  repeat first | refine opsStep ?_ | refine codeStep ?_ | refine drawStep ?_
  refine decB_dec (fun h => ?_) (fun h => ?_)
  · have hia : i < l.length := by have := h; simp at this; omega
    have hx := hv _ (List.getElem_mem hia)
    have gx : l.getD i 0 = l[i] := by simp [List.getD_eq_getElem?_getD, hia]
    repeat first | refine opsStep ?_ | refine codeStep ?_ | refine drawStep ?_
    refine guardE_of (by simp; omega) ?_
    repeat first | refine opsStep ?_ | refine codeStep ?_ | refine drawStep ?_
    refine optE_of (c := .int .i64 l[i]) (by simp [Value.cells, hia]) ?_
    repeat first | refine opsStep ?_ | refine codeStep ?_ | refine drawStep ?_
    refine look_num mapII (kv := .int .i64 l[i]) rfl (keyI hx) hnd2 hks (fun p hp => ?_) (fun hp => ?_)
    · obtain ⟨q, hq, hqe⟩ : ∃ q, (metL [] (l.take i))[p]? = some q ∧ Value.int .i64 q = .int .i64 l[i] := by
        rw [List.getElem?_map, Option.map_eq_some_iff] at hp; exact hp
      obtain ⟨g1, g2⟩ := metL_hit hia (hq.trans (congrArg some (by injection hqe)))
      repeat first | refine opsStep ?_ | refine codeStep ?_ | refine drawStep ?_
      refine guardE_of (by simp; omega) ?_
      repeat first | refine opsStep ?_ | refine codeStep ?_ | refine drawStep ?_
      refine guardE_of ⟨rfl, by decide, by show 0 + i * 1 + 1 ≤ ((partL (fun j => ((metL [] l).idxOf (l.getD j 0) : Int)) l.length i).map (AV.int .i64)).length; rw [List.length_map, hpl]; omega⟩ ?_
      repeat first | refine opsStep ?_ | refine codeStep ?_ | refine drawStep ?_
      refine ⟨⟨i + 1, by omega⟩, (by show l.length - (i + 1) < l.length - i; omega), Ent.fr' ⟨(by kernel_rfl), (by kernel_rfl), (by kernel_rfl), (by kernel_rfl), (by kernel_rfl), inc_slot (i := i) (by omega), trivial⟩ ?_⟩
      refine Eq.trans (b := [.dict (dI ((metL [] (l.take i)).map (Value.int .i64))), Blk.cells 0 (over ((partL (fun j => ((metL [] l).idxOf (l.getD j 0) : Int)) l.length i).map (AV.int .i64)) (0 + i * 1) [.int .i64 (p : Nat)])]) (by kernel_rfl) ?_
      show _ = [.dict (dI ((metL [] (l.take (i + 1))).map (Value.int .i64))), Blk.cells 0 ((partL (fun j => ((metL [] l).idxOf (l.getD j 0) : Int)) l.length (i + 1)).map (.int .i64))]
      rw [Nat.zero_add, Nat.mul_one, over_one (by rw [List.length_map, hpl]; omega), g2, ← partL_step, gx, g1, List.map_set]
    · have hm : l[i] ∉ metL [] (l.take i) := fun h => hp (List.mem_map.2 ⟨_, h, rfl⟩)
      obtain ⟨g1, g2⟩ := metL_miss hia hm
      repeat first | refine opsStep ?_ | refine codeStep ?_ | refine drawStep ?_
      refine put_num mapII (kv := .int .i64 l[i]) (n := (dI ((metL [] (l.take i)).map (Value.int .i64))).length) rfl (keyI hx) hks hp (dI_length _) ?_
      repeat first | refine opsStep ?_ | refine codeStep ?_ | refine drawStep ?_
      refine guardE_of (by simp; omega) ?_
      repeat first | refine opsStep ?_ | refine codeStep ?_ | refine drawStep ?_
      refine guardE_of ⟨rfl, by decide, by show 0 + i * 1 + 1 ≤ ((partL (fun j => ((metL [] l).idxOf (l.getD j 0) : Int)) l.length i).map (AV.int .i64)).length; rw [List.length_map, hpl]; omega⟩ ?_
      repeat first | refine opsStep ?_ | refine codeStep ?_ | refine drawStep ?_
      refine ⟨⟨i + 1, by omega⟩, (by show l.length - (i + 1) < l.length - i; omega), Ent.fr' ⟨(by kernel_rfl), (by kernel_rfl), (by kernel_rfl), (by kernel_rfl), (by kernel_rfl), inc_slot (i := i) (by omega), trivial⟩ ?_⟩
      refine Eq.trans (b := [.dict (dI ((metL [] (l.take i)).map (Value.int .i64) ++ [.int .i64 l[i]])), Blk.cells 0 (over ((partL (fun j => ((metL [] l).idxOf (l.getD j 0) : Int)) l.length i).map (AV.int .i64)) (0 + i * 1) [.int .i64 ((dI ((metL [] (l.take i)).map (Value.int .i64))).length : Nat)])]) (by kernel_rfl) ?_
      show _ = [.dict (dI ((metL [] (l.take (i + 1))).map (Value.int .i64))), Blk.cells 0 ((partL (fun j => ((metL [] l).idxOf (l.getD j 0) : Int)) l.length (i + 1)).map (.int .i64))]
      rw [Nat.zero_add, Nat.mul_one, over_one (by rw [List.length_map, hpl]; omega), g2, ← partL_step, gx, g1, List.map_set, List.map_append, dI_length, List.length_map]
      rfl
  · have hil : i = l.length := by have := h; simp at this; omega
    subst hil
    repeat first | refine opsStep ?_ | refine codeStep ?_ | refine drawStep ?_
    refine finR (l := [(2, .hs 1 0 0 l.length 1), (3, .int .i64 ((dI ((metL [] (l.take l.length)).map (Value.int .i64))).length : Nat))]) (H₁ := [.dict (dI ((metL [] (l.take l.length)).map (Value.int .i64))), .cells 0 ((partL (fun j => ((metL [] l).idxOf (l.getD j 0) : Int)) l.length l.length).map (.int .i64))])
      (v := .tup [.hs 1 0 0 l.length 1, .int .i64 ((dI ((metL [] (l.take l.length)).map (Value.int .i64))).length : Nat)]) ⟨(by kernel_rfl), (by kernel_rfl), trivial⟩ (by kernel_rfl) (Ent.refl _ _ _) (by kernel_rfl) ?_
    rw [dI_length, List.length_map, partL_full, List.take_length]
    exact ⟨rfl, rfl⟩

end Tab

/- Names: which characters they are made of. -/
namespace Tab
open Go Go.Proofs
set_option maxRecDepth 10000
set_option linter.unusedVariables false
set_option linter.unusedSimpArgs false
set_option linter.unusedSectionVars false

def startR (r : Int) : Bool := (decide (65 ≤ r) && decide (r ≤ 90)) || (decide (97 ≤ r) && decide (r ≤ 122)) || decide (r = 95) || (decide (913 ≤ r) && decide (r ≤ 929)) || (decide (931 ≤ r) && decide (r ≤ 937)) || (decide (945 ≤ r) && decide (r ≤ 969))
def restR (r : Int) : Bool := startR r || (decide (48 ≤ r) && decide (r ≤ 57)) || decide (r = 8242) || (decide (8320 ≤ r) && decide (r ≤ 8329))
def resWords : List (List UInt8) := [[97, 110, 100], [111, 114], [110, 111, 116], [101, 120], [97, 108, 108], [109, 111, 100], [116, 114, 117, 101], [102, 97, 108, 115, 101]]
def resS (s : List UInt8) : Bool := decide (s ∈ resWords)

theorem glyph_Start (r : Int) : Pure Try.prog 124 [.int .i32 r] (.bool (startR r)) := by
  refine Pure.of_sw 37 Try.func124 rfl Try.ntmps124 (by kernel_rfl) (Nat.le_of_ble_eq_true (by kernel_rfl)) (by simp [closeds, AV.closed, aSs_closed, aIs_closed, aBs_closed, aRs_closed, aDen_closed]) (by simp [AV.closed, closeds, aSs_closed, aIs_closed, aBs_closed, aRs_closed, aDen_closed]) ?_; refine SW.of_vc ?_
  repeat' first | refine opsStep ?_ | refine codeStep ?_ | refine decB_split (fun h => ?_) (fun h => ?_)
  all_goals exact finB rfl (by simp at *; simp [startR]; omega)

theorem glyph_Rest (r : Int) : Pure Try.prog 125 [.int .i32 r] (.bool (restR r)) := by
  refine Pure.of_sw 25 Try.func125 rfl Try.ntmps125 (by kernel_rfl) (Nat.le_of_ble_eq_true (by kernel_rfl)) (by simp [closeds, AV.closed, aSs_closed, aIs_closed, aBs_closed, aRs_closed, aDen_closed]) (by simp [AV.closed, closeds, aSs_closed, aIs_closed, aBs_closed, aRs_closed, aDen_closed]) ?_; refine SW.of_vc ?_
  repeat first | refine opsStep ?_ | refine codeStep ?_ | refine drawStep ?_
  refine callP (glyph_Start r) ?_
  repeat first | refine opsStep ?_ | refine codeStep ?_ | refine drawStep ?_
  refine decB_split (fun h => ?_) (fun h => ?_)
  · repeat first | refine opsStep ?_ | refine codeStep ?_ | refine drawStep ?_
    exact finB rfl (by simp [restR, h])
  · repeat' first | refine opsStep ?_ | refine codeStep ?_ | refine decB_split (fun h => ?_) (fun h => ?_)
    all_goals exact finB rfl (by simp at *; simp [restR, *]; try omega)

theorem glyph_Reserved (s : List UInt8) : Pure Try.prog 126 [.str s] (.bool (resS s)) := by
  refine Pure.of_sw 13 Try.func126 rfl Try.ntmps126 (by kernel_rfl) (Nat.le_of_ble_eq_true (by kernel_rfl)) (by simp [closeds, AV.closed, aSs_closed, aIs_closed, aBs_closed, aRs_closed, aDen_closed]) (by simp [AV.closed, closeds, aSs_closed, aIs_closed, aBs_closed, aRs_closed, aDen_closed]) ?_; refine SW.of_vc ?_
  repeat first | refine opsStep ?_ | refine codeStep ?_ | refine drawStep ?_
  repeat' first | refine opsStep ?_ | refine codeStep ?_ | refine decB_split (fun h => ?_) (fun h => ?_)
  all_goals exact finB rfl (by simp_all [resS, resWords])

attribute [irreducible] startR restR resS
end Tab

/- Names as the reference reads them. -/
namespace Tab
open Go Go.Proofs
set_option maxRecDepth 10000
set_option linter.unusedVariables false
set_option linter.unusedSimpArgs false
set_option linter.unusedSectionVars false

def inR (r : Int) : List Int → Bool
  | a :: b :: l => (decide (a ≤ r) && decide (r ≤ b)) || inR r l
  | _ => false

theorem inR_short {r : Int} {l : List Int} (h : l.length ≤ 1) : inR r l = false := by
  match l, h with
  | [], _ => rfl
  | [_], _ => rfl

theorem inR_drop {r : Int} {l : List Int} {i : Nat} (h : i + 1 < l.length) : inR r (l.drop i) = ((decide (l[i] ≤ r) && decide (r ≤ l[i + 1])) || inR r (l.drop (i + 2))) := by
  rw [List.drop_eq_getElem_cons (by omega), List.drop_eq_getElem_cons (by omega)]
  rfl

theorem r04_within (k : SK) (r : Int) (l : List Int) (hl : l.length < 2^62) : Pure Try.prog 171 [.int .i64 r, aIs k l] (.bool (inR r l)) := by
  refine Pure.of_sw 28 Try.func171 rfl Try.ntmps171 (by kernel_rfl) (Nat.le_of_ble_eq_true (by kernel_rfl)) (by simp [closeds, AV.closed, aSs_closed, aIs_closed, aBs_closed, aRs_closed, aDen_closed]) (by simp [AV.closed, closeds, aSs_closed, aIs_closed, aBs_closed, aRs_closed, aDen_closed]) ?_; refine SW.of_vc ?_
  repeat first | refine opsStep ?_ | refine codeStep ?_ | refine drawStep ?_
  refine loopE_of (ι := {i : Nat // i ≤ l.length + 1 ∧ inR r l = inR r (l.drop i)}) (fun i => (fr [(0, .int .i64 r), (1, aIs k l), (5, .int .i64 i.1)], [])) (fun i => l.length + 2 - i.1) ⟨0, by omega, by simp⟩ (Ent.fr ⟨rfl, rfl, rfl, trivial⟩) ?_
  rintro ⟨i, hi, hpre⟩
  have hw : IntKind.wrap .i64 ((i : Int) + 1) = i + 1 := IntWalk.i64_in _ (by omega)
  repeat first | refine opsStep ?_ | refine codeStep ?_ | refine drawStep ?_
  refine decB_split (fun h => ?_) (fun h => ?_)
  · have hi1 : i + 1 < l.length := by simp [hw] at h; omega
    repeat first | refine opsStep ?_ | refine codeStep ?_ | refine drawStep ?_
    refine guardE_of (by simp; omega) ?_
    repeat first | refine opsStep ?_ | refine codeStep ?_ | refine drawStep ?_
    refine optE_of (c := .int .i64 l[i]) (by simp [Value.cells, show i < l.length by omega]) ?_
    repeat first | refine opsStep ?_ | refine codeStep ?_ | refine drawStep ?_
    have hd := inR_drop (r := r) hi1
    refine decB_split (fun h => ?_) (fun h => ?_)
    · repeat first | refine opsStep ?_ | refine codeStep ?_ | refine drawStep ?_
      refine guardE_of (by simp [hw]; omega) ?_
      repeat first | refine opsStep ?_ | refine codeStep ?_ | refine drawStep ?_
      refine optE_of (c := .int .i64 l[i+1]) (by simp [Value.cells, hw, hi1]) ?_
      repeat first | refine opsStep ?_ | refine codeStep ?_ | refine drawStep ?_
      refine decB_split (fun h => ?_) (fun h => ?_)
      · repeat first | refine opsStep ?_ | refine codeStep ?_ | refine drawStep ?_
        exact finB rfl (by simp at *; rw [hpre, hd]; simp [*])
      · repeat first | refine opsStep ?_ | refine codeStep ?_ | refine drawStep ?_
        refine ⟨⟨i + 2, by omega, by rw [hpre, hd]; simp_all; try (intros; omega)⟩, (by show l.length + 2 - (i + 2) < l.length + 2 - i; omega), Ent.fr' ⟨(by kernel_rfl), (by kernel_rfl), (congrArg (AV.int .i64) (IntWalk.i64_in ((i : Int) + 2) (by omega)) : _), trivial⟩ (by kernel_rfl)⟩
    · repeat first | refine opsStep ?_ | refine codeStep ?_ | refine drawStep ?_
      refine ⟨⟨i + 2, by omega, by rw [hpre, hd]; simp_all; try (intros; omega)⟩, (by show l.length + 2 - (i + 2) < l.length + 2 - i; omega), Ent.fr' ⟨(by kernel_rfl), (by kernel_rfl), (congrArg (AV.int .i64) (IntWalk.i64_in ((i : Int) + 2) (by omega)) : _), trivial⟩ (by kernel_rfl)⟩
  · repeat first | refine opsStep ?_ | refine codeStep ?_ | refine drawStep ?_
    exact finB rfl (by rw [hpre, inR_short]; simp [hw] at h; simp; omega)

theorem r04_Start (r : Int) : Pure Try.prog 155 [.int .i64 r] (.bool (startR r)) := by
  refine Pure.of_sw 6 Try.func155 rfl Try.ntmps155 (by kernel_rfl) (Nat.le_of_ble_eq_true (by kernel_rfl)) (by simp [closeds, AV.closed, aSs_closed, aIs_closed, aBs_closed, aRs_closed, aDen_closed]) (by simp [AV.closed, closeds, aSs_closed, aIs_closed, aBs_closed, aRs_closed, aDen_closed]) ?_; refine SW.of_vc ?_
  repeat first | refine opsStep ?_ | refine codeStep ?_ | refine drawStep ?_
  refine optX_of (c := [65, 90, 97, 122, 95, 95, 0x391, 0x3a1, 0x3a3, 0x3a9, 0x3b1, 0x3c9].map (.int .i64)) (by kernel_rfl) ?_
  repeat first | refine opsStep ?_ | refine codeStep ?_ | refine drawStep ?_
  refine callB (r04_within .any r [65, 90, 97, 122, 95, 95, 0x391, 0x3a1, 0x3a3, 0x3a9, 0x3b1, 0x3c9] (by simp)) rfl (.cons (.refl _) (.cons (.whole (by kernel_rfl) (by kernel_rfl)) .nil)) ?_
  repeat first | refine opsStep ?_ | refine codeStep ?_ | refine drawStep ?_
  exact finB rfl (by rw [Bool.eq_iff_iff]; simp [inR, startR]; omega)

theorem r04_Rest (r : Int) : Pure Try.prog 156 [.int .i64 r] (.bool (restR r)) := by
  refine Pure.of_sw 10 Try.func156 rfl Try.ntmps156 (by kernel_rfl) (Nat.le_of_ble_eq_true (by kernel_rfl)) (by simp [closeds, AV.closed, aSs_closed, aIs_closed, aBs_closed, aRs_closed, aDen_closed]) (by simp [AV.closed, closeds, aSs_closed, aIs_closed, aBs_closed, aRs_closed, aDen_closed]) ?_; refine SW.of_vc ?_
  repeat first | refine opsStep ?_ | refine codeStep ?_ | refine drawStep ?_
  refine callP (r04_Start r) ?_
  repeat first | refine opsStep ?_ | refine codeStep ?_ | refine drawStep ?_
  refine decB_split (fun h => ?_) (fun h => ?_)
  · repeat first | refine opsStep ?_ | refine codeStep ?_ | refine drawStep ?_
    exact finB rfl (by simp [restR, h])
  · repeat first | refine opsStep ?_ | refine codeStep ?_ | refine drawStep ?_
    refine optX_of (c := [48, 57, 0x2032, 0x2032, 0x2080, 0x2089].map (.int .i64)) (by kernel_rfl) ?_
    repeat first | refine opsStep ?_ | refine codeStep ?_ | refine drawStep ?_
    refine callB (r04_within .any r [48, 57, 0x2032, 0x2032, 0x2080, 0x2089] (by simp)) rfl (.cons (.refl _) (.cons (.whole (by kernel_rfl) (by kernel_rfl)) .nil)) ?_
    repeat first | refine opsStep ?_ | refine codeStep ?_ | refine drawStep ?_
    exact finB rfl (by rw [Bool.eq_iff_iff]; simp [inR, restR, h]; omega)

theorem r04_Reserved (s : List UInt8) : Pure Try.prog 157 [.str s] (.bool (resS s)) := by
  refine Pure.of_sw 18 Try.func157 rfl Try.ntmps157 (by kernel_rfl) (Nat.le_of_ble_eq_true (by kernel_rfl)) (by simp [closeds, AV.closed, aSs_closed, aIs_closed, aBs_closed, aRs_closed, aDen_closed]) (by simp [AV.closed, closeds, aSs_closed, aIs_closed, aBs_closed, aRs_closed, aDen_closed]) ?_; refine SW.of_vc ?_
  repeat first | refine opsStep ?_ | refine codeStep ?_ | refine drawStep ?_
  refine optX_of (c := resWords.map .str) (by kernel_rfl) ?_
  repeat first | refine opsStep ?_ | refine codeStep ?_ | refine drawStep ?_
  refine loopE_of (ι := {i : Nat // i ≤ 8 ∧ s ∉ resWords.take i}) (fun i => (fr [(0, .str s), (3, .hs 0 0 0 8 1), (4, .int .i64 i.1)], [.cells 0 (resWords.map .str)])) (fun i => 9 - i.1) ⟨0, by omega, by simp⟩ (Ent.fr' ⟨rfl, rfl, rfl, trivial⟩ (by kernel_rfl)) ?_
  rintro ⟨i, hi, hpre⟩
  repeat first | refine opsStep ?_ | refine codeStep ?_ | refine drawStep ?_
  refine decB_split (fun h => ?_) (fun h => ?_)
  · have hi1 : i < 8 := by simp at h; omega
    have hi2 : i < resWords.length := by simpa [resWords] using hi1
    repeat first | refine opsStep ?_ | refine codeStep ?_ | refine drawStep ?_
    refine guardE_of (by simp; omega) ?_
    repeat first | refine opsStep ?_ | refine codeStep ?_ | refine drawStep ?_
    refine optE_of (c := .str resWords[i]) (by simp [Value.cells, hi2]) ?_
    repeat first | refine opsStep ?_ | refine codeStep ?_ | refine drawStep ?_
    have ht : resWords.take (i + 1) = resWords.take i ++ [resWords[i]] := List.take_succ_eq_append_getElem (by simpa [resWords] using hi1)
    refine decB_split (fun h => ?_) (fun h => ?_)
    · repeat first | refine opsStep ?_ | refine codeStep ?_ | refine drawStep ?_
      exact finB rfl (by simp at h; subst h; simp only [resS]; exact (decide_eq_true (List.getElem_mem hi2)).symm)
    · repeat first | refine opsStep ?_ | refine codeStep ?_ | refine drawStep ?_
      refine ⟨⟨i + 1, by omega, fun e => (List.mem_append.1 (ht ▸ e)).elim hpre (fun e => by simp at h; exact h (List.mem_singleton.1 e).symm)⟩, (by show 9 - (i + 1) < 9 - i; omega), Ent.fr' ⟨(by kernel_rfl), (by kernel_rfl), inc_slot (i := i) (by omega), trivial⟩ (by kernel_rfl)⟩
  · repeat first | refine opsStep ?_ | refine codeStep ?_ | refine drawStep ?_
    have : i = 8 := by simp at h; omega
    subst this
    exact finB rfl (by simp [resS]; exact hpre)

end Tab

/- Characters: what the model decodes, and what the reference reads. -/
namespace Tab
open Go Go.Proofs
set_option maxRecDepth 10000
set_option linter.unusedVariables false
set_option linter.unusedSimpArgs false
set_option linter.unusedSectionVars false

def bt (s : List UInt8) (i : Nat) : Nat := (s.getD i 0).toNat
def ctb (s : List UInt8) (i : Nat) : Bool := decide (i < s.length) && (bt s i / 64 == 2)
def okc (c : Nat) : Bool := Utf8.valid c

theorem bt_get (s : List UInt8) (i : Nat) : ((ByteArray.mk s.toArray).get! i).toNat = bt s i := by
  simp [ByteArray.get!, bt, List.getD_eq_getElem?_getD]
  rfl

theorem dec_def (s : List UInt8) (p : Nat) : dec s p =
    if bt s p < 0x80 then (bt s p, 1)
    else if (bt s p / 32 == 6 && ctb s (p + 1)) = true then
      let c := (bt s p % 32) * 64 + bt s (p + 1) % 64
      if c ≥ 0x80 then (c, 2) else (65533, 1)
    else if (bt s p / 16 == 14 && ctb s (p + 1) && ctb s (p + 2)) = true then
      let c := (bt s p % 16) * 4096 + (bt s (p + 1) % 64) * 64 + bt s (p + 2) % 64
      if (decide (c ≥ 0x800) && okc c) = true then (c, 3) else (65533, 1)
    else if (bt s p / 8 == 30 && ctb s (p + 1) && ctb s (p + 2) && ctb s (p + 3)) = true then
      let c := (bt s p % 8) * 262144 + (bt s (p + 1) % 64) * 4096 + (bt s (p + 2) % 64) * 64 + bt s (p + 3) % 64
      if (decide (c ≥ 0x10000) && okc c) = true then (c, 4) else (65533, 1)
    else (65533, 1) := by
  have hs : (ByteArray.mk s.toArray).size = s.length := by simp [ByteArray.size]
  simp only [dec, Utf8.decode, bt_get, hs, ctb, okc, Nat.add_zero, Utf8.runeError]
  simp only [decide_eq_true_eq, Bool.and_eq_true, ge_iff_le]

def accR (x0 : Int) (s : List UInt8) (p : Nat) : Nat → Int
  | 0 => x0
  | n + 1 => accR x0 s p n * 64 + bt s (p + n + 1) - 128

theorem bt_lt (s : List UInt8) (i : Nat) : bt s i < 256 := by
  unfold bt; exact UInt8.toNat_lt _
theorem ite_cond {α : Type} {q r : Prop} [Decidable q] [Decidable r] {x y x' : α} (h : q ↔ r) (e : q → x = x') : (if q then x else y) = (if r then x' else y) := by
  by_cases hq : q
  · rw [if_pos hq, if_pos (h.1 hq), e hq]
  · rw [if_neg hq, if_neg (fun k => hq (h.2 k))]

theorem fa1 {Q : Nat → Prop} : (∀ j, j < 2 - 1 → Q j) ↔ Q 0 :=
  ⟨fun h => h 0 (by omega), fun h j hj => by have : j = 0 := by omega
                                             subst this; exact h⟩
theorem fa2 {Q : Nat → Prop} : (∀ j, j < 3 - 1 → Q j) ↔ Q 0 ∧ Q 1 :=
  ⟨fun h => ⟨h 0 (by omega), h 1 (by omega)⟩, fun h j hj => by
    have : j = 0 ∨ j = 1 := by omega
    rcases this with rfl | rfl
    · exact h.1
    · exact h.2⟩
theorem fa3 {Q : Nat → Prop} : (∀ j, j < 4 - 1 → Q j) ↔ Q 0 ∧ Q 1 ∧ Q 2 :=
  ⟨fun h => ⟨h 0 (by omega), h 1 (by omega), h 2 (by omega)⟩, fun h j hj => by
    have : j = 0 ∨ j = 1 ∨ j = 2 := by omega
    rcases this with rfl | rfl | rfl
    · exact h.1
    · exact h.2.1
    · exact h.2.2⟩

theorem ctb_iff {s : List UInt8} {i : Nat} : ctb s i = true ↔ i < s.length ∧ bt s i / 64 = 2 := by simp [ctb]
theorem okc_iff {c : Nat} : okc c = true ↔ c < 55296 ∨ (57344 ≤ c ∧ c ≤ 1114111) := by
  simp only [okc, Utf8.valid, Bool.or_eq_true, Bool.and_eq_true, decide_eq_true_eq]; omega

theorem dec2 {s : List UInt8} {p : Nat} (h1 : 194 ≤ bt s p) (h2 : bt s p < 224) : dec s p = if (∀ j, j < 2 - 1 → ctb s (p + j + 1) = true) ∧ (128 : Int) ≤ accR ((bt s p : Int) - 192) s p (2 - 1) ∧ okc (accR ((bt s p : Int) - 192) s p (2 - 1)).toNat = true
    then ((accR ((bt s p : Int) - 192) s p (2 - 1)).toNat, 2) else (65533, 1) := by
  have hb := bt_lt s p
  have hb1 := bt_lt s (p + 1)
  simp only [fa1, accR, Nat.add_zero, okc_iff, ctb_iff]
  rw [dec_def, if_neg (by omega)]
  by_cases hc : p + 1 < s.length ∧ bt s (p + 1) / 64 = 2
  · rw [if_pos (by simp [ctb_iff, hc]; omega)]
    refine ite_cond (by simp only [hc, true_and, and_self]; omega) (fun _ => by simp only [Prod.mk.injEq, and_true]; omega)
  · rw [if_neg (by simp only [Bool.and_eq_true, ctb_iff]; exact fun k => hc k.2), if_neg (by simp; omega), if_neg (by simp; omega), if_neg (fun k => hc k.1)]

theorem dec3 {s : List UInt8} {p : Nat} (h1 : 224 ≤ bt s p) (h2 : bt s p < 240) : dec s p = if (∀ j, j < 3 - 1 → ctb s (p + j + 1) = true) ∧ (2048 : Int) ≤ accR ((bt s p : Int) - 224) s p (3 - 1) ∧ okc (accR ((bt s p : Int) - 224) s p (3 - 1)).toNat = true
    then ((accR ((bt s p : Int) - 224) s p (3 - 1)).toNat, 3) else (65533, 1) := by
  have hb := bt_lt s p
  have hb1 := bt_lt s (p + 1)
  have hb2 := bt_lt s (p + 2)
  simp only [fa2, accR, Nat.add_zero, okc_iff, ctb_iff, show p + 1 + 1 = p + 2 by omega]
  rw [dec_def, if_neg (by omega), if_neg (by simp; omega)]
  by_cases hc : (p + 1 < s.length ∧ bt s (p + 1) / 64 = 2) ∧ (p + 2 < s.length ∧ bt s (p + 2) / 64 = 2)
  · rw [if_pos (by simp [ctb_iff, hc]; omega)]
    refine ite_cond (by simp only [hc, true_and, and_self, Bool.and_eq_true, decide_eq_true_eq, okc_iff]; omega) (fun _ => by simp only [Prod.mk.injEq, and_true]; omega)
  · rw [if_neg (by simp only [Bool.and_eq_true, ctb_iff]; exact fun k => hc ⟨k.1.2, k.2⟩), if_neg (by simp; omega), if_neg (fun k => hc k.1)]

theorem dec4 {s : List UInt8} {p : Nat} (h1 : 240 ≤ bt s p) (h2 : bt s p < 245) : dec s p = if (∀ j, j < 4 - 1 → ctb s (p + j + 1) = true) ∧ (65536 : Int) ≤ accR ((bt s p : Int) - 240) s p (4 - 1) ∧ okc (accR ((bt s p : Int) - 240) s p (4 - 1)).toNat = true
    then ((accR ((bt s p : Int) - 240) s p (4 - 1)).toNat, 4) else (65533, 1) := by
  have hb := bt_lt s p
  have hb1 := bt_lt s (p + 1)
  have hb2 := bt_lt s (p + 2)
  have hb3 := bt_lt s (p + 3)
  simp only [fa3, accR, Nat.add_zero, okc_iff, ctb_iff, show p + 1 + 1 = p + 2 by omega, show p + 2 + 1 = p + 3 by omega]
  rw [dec_def, if_neg (by omega), if_neg (by simp; omega), if_neg (by simp; omega)]
  by_cases hc : (p + 1 < s.length ∧ bt s (p + 1) / 64 = 2) ∧ (p + 2 < s.length ∧ bt s (p + 2) / 64 = 2) ∧ (p + 3 < s.length ∧ bt s (p + 3) / 64 = 2)
  · rw [if_pos (by simp [ctb_iff, hc]; omega)]
    refine ite_cond (by simp only [hc, true_and, and_self, Bool.and_eq_true, decide_eq_true_eq, okc_iff]; omega) (fun _ => by simp only [Prod.mk.injEq, and_true]; omega)
  · rw [if_neg (by simp only [Bool.and_eq_true, ctb_iff]; exact fun k => hc ⟨k.1.1.2, k.1.2, k.2⟩), if_neg (fun k => hc k.1)]

theorem decX {s : List UInt8} {p : Nat} (h : (128 ≤ bt s p ∧ bt s p < 194) ∨ 245 ≤ bt s p) : dec s p = (65533, 1) := by
  have hb := bt_lt s p
  have hb1 := bt_lt s (p + 1)
  have hb2 := bt_lt s (p + 2)
  have hb3 := bt_lt s (p + 3)
  rw [dec_def, if_neg (by omega)]
  simp only [okc_iff, Bool.and_eq_true, decide_eq_true_eq, beq_iff_eq, ge_iff_le]
  split
  · split
    · omega
    · rfl
  · split
    · omega
    · split
      · split
        · omega
        · rfl
      · rfl

theorem bt_at {s : List UInt8} {i : Nat} (h : i < s.length) : (s[i].toNat) = bt s i := by
  simp [bt, List.getD_eq_getElem?_getD, h]

def okd (s : List UInt8) (p : Nat) : Bool := decide (dec s p ≠ (65533, 1))
theorem okd_eq (s : List UInt8) (p : Nat) : okd s p = decide (dec s p ≠ (65533, 1)) := rfl

theorem r04_Read (s : List UInt8) (p : Nat) (hp : p < s.length) (hl : s.length < 2^62) :
    Pure Try.prog 154 [.str s, .int .i64 p] (.tup [.int .i64 (dec s p).1, .int .i64 (dec s p).2, .bool (okd s p)]) := by
  rw [okd_eq]
  refine Pure.of_sw 92 Try.func154 rfl Try.ntmps154 (by kernel_rfl) (Nat.le_of_ble_eq_true (by kernel_rfl)) (by simp [closeds, AV.closed, aSs_closed, aIs_closed, aBs_closed, aRs_closed, aDen_closed]) (by simp [AV.closed, closeds, aSs_closed, aIs_closed, aBs_closed, aRs_closed, aDen_closed]) ?_; refine SW.of_vc ?_
  repeat first | refine opsStep ?_ | refine codeStep ?_ | refine drawStep ?_
  refine optE_of (c := s[p]) (by simp [hp]) ?_
  repeat first | refine opsStep ?_ | refine codeStep ?_ | refine drawStep ?_
  have hb := bt_lt s p
  rw [bt_at hp]
  have hw : IntKind.wrap .i64 (bt s p) = (bt s p : Int) := IntWalk.i64_in _ (by omega)
  have key : ∀ (w : Nat) (least x0 : Int), 2 ≤ w → w ≤ 4 → 0 ≤ x0 → x0 < 64 →
      (dec s p = if (∀ j, j < w - 1 → ctb s (p + j + 1) = true) ∧ least ≤ accR x0 s p (w - 1) ∧ okc (accR x0 s p (w - 1)).toNat = true then ((accR x0 s p (w - 1)).toNat, w) else (65533, 1)) →
      VCode Try.prog 92 (cSnd (cSnd (cSnd (cSnd (Try.f154.body.getD .skip))))) (fr [(0, .str s), (1, .int .i64 p), (7, .int .i64 x0), (8, .int .i64 w), (9, .int .i64 least)]) []
        (pureK Try.prog 92 Try.f154.results.toList (.tup [.int .i64 (dec s p).1, .int .i64 (dec s p).2, .bool (decide (dec s p ≠ (65533, 1)))])) := by
    intro w least x0 h2 h4 hx0 hx1 hdec
    have hsub : IntKind.wrap .i64 ((s.length : Int) - p) = s.length - p := IntWalk.i64_in _ (by omega)
    repeat first | refine opsStep ?_ | refine codeStep ?_ | refine drawStep ?_
    refine decB_split (fun h => ?_) (fun h => ?_)
    · repeat first | refine opsStep ?_ | refine codeStep ?_ | refine drawStep ?_
      have hd : dec s p = (65533, 1) := by
        rw [hdec, if_neg]
        rintro ⟨hc, _⟩
        have := hc (w - 2) (by omega)
        simp [ctb] at this
        simp [hsub] at h
        omega
      exact finV (v' := .tup [.int .i64 65533, .int .i64 1, .bool false]) (by kernel_rfl) (by rw [hd]; simp)
    · repeat first | refine opsStep ?_ | refine codeStep ?_ | refine drawStep ?_
      have hlen : p + w ≤ s.length := by simp [hsub] at h; omega
      refine loopE_of (ι := {i : Nat // 1 ≤ i ∧ i ≤ w ∧ (∀ j, j < i - 1 → ctb s (p + j + 1) = true) ∧ 0 ≤ accR x0 s p (i - 1) ∧ accR x0 s p (i - 1) < 64 ^ i})
        (fun i => (fr [(0, .str s), (1, .int .i64 p), (7, .int .i64 (accR x0 s p (i.1 - 1))), (8, .int .i64 w), (9, .int .i64 least), (10, .int .i64 i.1)], [])) (fun i => w - i.1)
        ⟨1, by omega, by omega, by intro j hj; omega, by simpa [accR] using hx0, by simpa [accR] using hx1⟩ (Ent.fr' ⟨(by kernel_rfl), (by kernel_rfl), (by kernel_rfl), (by kernel_rfl), (by kernel_rfl), (by kernel_rfl), trivial⟩ (by kernel_rfl)) ?_
      rintro ⟨i, hi1, hi2, hct, hlo, hhi⟩
      repeat first | refine opsStep ?_ | refine codeStep ?_ | refine drawStep ?_
      refine decB_split (fun h => ?_) (fun h => ?_)
      · have hiw : i < w := by simp at h; omega
        have hwp : IntKind.wrap .i64 ((p : Int) + i) = p + i := IntWalk.i64_in _ (by omega)
        have hpi : p + i < s.length := by omega
        have hb1 := bt_lt s (p + i)
        have hw1 : IntKind.wrap .i64 (bt s (p + i)) = (bt s (p + i) : Int) := IntWalk.i64_in _ (by omega)
        have hbad : (bt s (p + i) < 128 ∨ 191 < bt s (p + i)) → dec s p = (65533, 1) := by
          intro hb
          rw [hdec, if_neg]
          rintro ⟨hc, _⟩
          have := hc (i - 1) (by omega)
          rw [show p + (i - 1) + 1 = p + i by omega] at this
          simp [ctb] at this
          omega
        repeat first | refine opsStep ?_ | refine codeStep ?_ | refine drawStep ?_
        refine guardE_of (by rw [hwp]; omega) ?_
        repeat first | refine opsStep ?_ | refine codeStep ?_ | refine drawStep ?_
        refine optE_of (c := s[p + i]) (by rw [hwp]; simp [← Int.natCast_add, hpi]) ?_
        rw [bt_at hpi]
        repeat first | refine opsStep ?_ | refine codeStep ?_ | refine drawStep ?_
        refine decB_split (fun h => ?_) (fun h => ?_)
        · repeat first | refine opsStep ?_ | refine codeStep ?_ | refine drawStep ?_
          exact finV (v' := .tup [.int .i64 65533, .int .i64 1, .bool false]) (by kernel_rfl) (by rw [hbad (by simp [hw1] at h; omega)]; simp)
        · repeat first | refine opsStep ?_ | refine codeStep ?_ | refine drawStep ?_
          refine decB_split (fun h => ?_) (fun h => ?_)
          · repeat first | refine opsStep ?_ | refine codeStep ?_ | refine drawStep ?_
            exact finV (v' := .tup [.int .i64 65533, .int .i64 1, .bool false]) (by kernel_rfl) (by rw [hbad (by simp [hw1] at h; omega)]; simp)
          · repeat first | refine opsStep ?_ | refine codeStep ?_ | refine drawStep ?_
            rename_i h0
            simp [hw1] at h h0
            have hpow : 64 ^ i ≤ 64 ^ 3 := Nat.pow_le_pow_right (by omega) (by omega)
            have hacc : accR x0 s p (i + 1 - 1) = accR x0 s p (i - 1) * 64 + bt s (p + i) - 128 := by
              obtain ⟨i, rfl⟩ : ∃ k, i = k + 1 := ⟨i - 1, by omega⟩
              rfl
            have hhi' : accR x0 s p (i - 1) < ((64 ^ i : Nat) : Int) := by simpa using hhi
            have h1 : IntKind.wrap .i64 (accR x0 s p (i - 1) * 64) = accR x0 s p (i - 1) * 64 := IntWalk.i64_in _ (by omega)
            have h2 : IntKind.wrap .i64 (accR x0 s p (i - 1) * 64 + bt s (p + i)) = accR x0 s p (i - 1) * 64 + bt s (p + i) := IntWalk.i64_in _ (by omega)
            have h3 : IntKind.wrap .i64 (accR x0 s p (i - 1) * 64 + bt s (p + i) - 128) = accR x0 s p (i - 1) * 64 + bt s (p + i) - 128 := IntWalk.i64_in _ (by omega)
            refine ⟨⟨i + 1, by omega, by omega, ?_, by rw [hacc]; omega, ?_⟩, (by show w - (i + 1) < w - i; omega), Ent.fr' ⟨(by kernel_rfl), (by kernel_rfl), ?_, (by kernel_rfl), (by kernel_rfl), inc_slot (i := i) (by omega), trivial⟩ (by kernel_rfl)⟩
            · intro j hj
              by_cases e : j < i - 1
              · exact hct j e
              · rw [show p + j + 1 = p + i by omega]
                simp [ctb]
                omega
            · rw [hacc]
              have : ((64 ^ (i + 1) : Nat) : Int) = 64 * ((64 ^ i : Nat) : Int) := by rw [Nat.pow_succ]; push_cast; omega
              have e : ((64 : Int) ^ (i + 1)) = ((64 ^ (i + 1) : Nat) : Int) := by push_cast; rfl
              rw [e]; omega
            · show AV.int .i64 (IntKind.wrap .i64 (IntKind.wrap .i64 (IntKind.wrap .i64 (accR x0 s p (i - 1) * 64) + IntKind.wrap .i64 (bt s (p + i))) - 128)) = _
              rw [h1, hw1, h2, h3, hacc]
      · have hiw : i = w := by simp at h; omega
        subst hiw
        have hdec' : dec s p = if least ≤ accR x0 s p (i - 1) ∧ accR x0 s p (i - 1) ≤ 1114111 ∧ ¬(55296 ≤ accR x0 s p (i - 1) ∧ accR x0 s p (i - 1) ≤ 57343) then ((accR x0 s p (i - 1)).toNat, i) else (65533, 1) := by
          rw [hdec]
          have e : ∀ (q r : Prop) [Decidable q] [Decidable r] (x y : Nat × Nat), (q ↔ r) → (if q then x else y) = (if r then x else y) := fun q r _ _ x y h => by
            by_cases hq : q
            · rw [if_pos hq, if_pos (h.1 hq)]
            · rw [if_neg hq, if_neg (fun k => hq (h.2 k))]
          apply e
          simp only [okc, Utf8.valid, Bool.or_eq_true, Bool.and_eq_true, decide_eq_true_eq]
          constructor
          · rintro ⟨_, h1, h2⟩; omega
          · rintro ⟨h1, h2, h3⟩; exact ⟨hct, h1, by omega⟩
        have hA : ∃ A, accR x0 s p (i - 1) = A := ⟨_, rfl⟩
        repeat' first | refine opsStep ?_ | refine codeStep ?_ | refine decB_split (fun h => ?_) (fun h => ?_)
        all_goals first
          | exact finV (v' := .tup [.int .i64 65533, .int .i64 1, .bool false]) (by kernel_rfl) (by rw [hdec', if_neg (by simp at *; omega)]; simp)
          | exact finV (v' := .tup [.int .i64 (accR x0 s p (i - 1)), .int .i64 i, .bool true]) (by kernel_rfl) (by rw [hdec', if_pos (by simp at *; omega)]; simp; omega)
  refine decB_split (fun h => ?_) (fun h => ?_)
  · repeat first | refine opsStep ?_ | refine codeStep ?_ | refine drawStep ?_
    exact finV (v' := .tup [.int .i64 (IntKind.wrap .i64 (bt s p)), .int .i64 1, .bool true]) (by kernel_rfl) (by simp [hw] at h; rw [dec_def, if_pos (by omega)]; simp [hw]; omega)
  · have hn : 128 ≤ bt s p := by simp [hw] at h; omega
    have cw : ∀ k : Nat, k ≤ 240 → IntKind.wrap .i64 ((bt s p : Int) - k) = bt s p - k := fun k hk => IntWalk.i64_in _ (by omega)
    have nb : ∀ {b : Bool}, b = false → b ≠ true := fun h => by simp [h]
    repeat first | refine opsStep ?_ | refine codeStep ?_ | refine drawStep ?_
    refine decB_dec (fun h1 => ?_) (fun h1 => ?_)
    · rw [hw] at h1
      repeat first | refine opsStep ?_ | refine codeStep ?_ | refine drawStep ?_
      refine decB_dec (fun h2 => ?_) (fun h2 => ?_)
      · rw [hw] at h2
        repeat first | refine VCode.ent ?_ (key 2 128 ((bt s p : Int) - 192) (by omega) (by omega) (by omega) (by omega) (dec2 (by omega) (by omega))) | refine opsStep ?_ | refine codeStep ?_
        exact Ent.fr' ⟨(by kernel_rfl), (by kernel_rfl), (congrArg (AV.int .i64) ((congrArg (fun z => IntKind.wrap .i64 (z - 192)) hw).trans (cw 192 (by omega))) : _), (by kernel_rfl), (by kernel_rfl), trivial⟩ (by kernel_rfl)
      · rw [hw] at h2
        repeat first | refine opsStep ?_ | refine codeStep ?_ | refine drawStep ?_
        refine decB_dec (fun h3 => ?_) (fun h3 => ?_)
        · rw [hw] at h3
          repeat first | refine opsStep ?_ | refine codeStep ?_ | refine drawStep ?_
          refine decB_dec (fun h4 => ?_) (fun h4 => ?_)
          · rw [hw] at h4
            repeat first | refine VCode.ent ?_ (key 3 2048 ((bt s p : Int) - 224) (by omega) (by omega) (by omega) (by omega) (dec3 (by omega) (by omega))) | refine opsStep ?_ | refine codeStep ?_
            exact Ent.fr' ⟨(by kernel_rfl), (by kernel_rfl), (congrArg (AV.int .i64) ((congrArg (fun z => IntKind.wrap .i64 (z - 224)) hw).trans (cw 224 (by omega))) : _), (by kernel_rfl), (by kernel_rfl), trivial⟩ (by kernel_rfl)
          · rw [hw] at h4
            repeat first | refine opsStep ?_ | refine codeStep ?_ | refine drawStep ?_
            refine decB_dec (fun h5 => ?_) (fun h5 => ?_)
            · rw [hw] at h5
              repeat first | refine opsStep ?_ | refine codeStep ?_ | refine drawStep ?_
              refine decB_dec (fun h6 => ?_) (fun h6 => ?_)
              · rw [hw] at h6
                repeat first | refine VCode.ent ?_ (key 4 65536 ((bt s p : Int) - 240) (by omega) (by omega) (by omega) (by omega) (dec4 (by omega) (by omega))) | refine opsStep ?_ | refine codeStep ?_
                exact Ent.fr' ⟨(by kernel_rfl), (by kernel_rfl), (congrArg (AV.int .i64) ((congrArg (fun z => IntKind.wrap .i64 (z - 240)) hw).trans (cw 240 (by omega))) : _), (by kernel_rfl), (by kernel_rfl), trivial⟩ (by kernel_rfl)
              · rw [hw] at h6
                repeat first | refine opsStep ?_ | refine codeStep ?_ | refine drawStep ?_
                exact finV (v' := .tup [.int .i64 65533, .int .i64 1, .bool false]) (by kernel_rfl) (by rw [decX (by omega)]; simp)
            · exact absurd (hw ▸ h5) (by omega)
        · exact absurd (hw ▸ h3) (by omega)
    · rw [hw] at h1
      repeat first | refine opsStep ?_ | refine codeStep ?_ | refine drawStep ?_
      refine decB_dec (fun h3 => ?_) (fun h3 => ?_)
      · exact absurd (hw ▸ h3) (by omega)
      · repeat first | refine opsStep ?_ | refine codeStep ?_ | refine drawStep ?_
        refine decB_dec (fun h5 => ?_) (fun h5 => ?_)
        · exact absurd (hw ▸ h5) (by omega)
        · repeat first | refine opsStep ?_ | refine codeStep ?_ | refine drawStep ?_
          exact finV (v' := .tup [.int .i64 65533, .int .i64 1, .bool false]) (by kernel_rfl) (by rw [decX (by omega)]; simp)

attribute [irreducible] okd
end Tab

/- Lists compared. -/
namespace Tab
open Go Go.Proofs
set_option maxRecDepth 10000
set_option linter.unusedVariables false
set_option linter.unusedSimpArgs false
set_option linter.unusedSectionVars false

theorem r12_texts (k k' : SK) (a b : List (List UInt8)) (ha : a.length < 2^62) (hb : b.length < 2^62) : Pure Try.prog 46 [aSs k a, aSs k' b] (.bool (decide (a = b))) := by
  refine Pure.of_sw 26 Try.func46 rfl Try.ntmps46 (by kernel_rfl) (Nat.le_of_ble_eq_true (by kernel_rfl)) (by simp [closeds, AV.closed, aSs_closed, aIs_closed, aBs_closed, aRs_closed, aDen_closed]) (by simp [AV.closed, closeds, aSs_closed, aIs_closed, aBs_closed, aRs_closed, aDen_closed]) ?_; refine SW.of_vc ?_
  repeat first | refine opsStep ?_ | refine codeStep ?_ | refine drawStep ?_
  refine decB_split (fun h => ?_) (fun h => ?_)
  · repeat first | refine opsStep ?_ | refine codeStep ?_ | refine drawStep ?_
    exact finB rfl (by simp at h; simp; intro e; exact h (by rw [e]))
  · repeat first | refine opsStep ?_ | refine codeStep ?_ | refine drawStep ?_
    have hl : a.length = b.length := by simp at h; omega
    refine loopE_of (ι := {i : Nat // i ≤ a.length ∧ a.take i = b.take i}) (fun i => (fr [(0, aSs k a), (1, aSs k' b), (5, .int .i64 i.1)], [])) (fun i => a.length - i.1) ⟨0, by omega, by simp⟩ (Ent.fr ⟨rfl, rfl, rfl, trivial⟩) ?_
    rintro ⟨i, hi, hpre⟩
    repeat first | refine opsStep ?_ | refine codeStep ?_ | refine drawStep ?_
    refine decB_split (fun h => ?_) (fun h => ?_)
    · have hia : i < a.length := by simpa using h
      repeat first | refine opsStep ?_ | refine codeStep ?_ | refine drawStep ?_
      refine SW.drawn rfl (by kernel_rfl) ?_
      repeat first | refine opsStep ?_ | refine codeStep ?_ | refine drawStep ?_
      refine guardE_of (by simp; omega) ?_
      repeat first | refine opsStep ?_ | refine codeStep ?_ | refine drawStep ?_
      refine optE_of (c := .str a[i]) (by simp [Value.cells, hia]) ?_
      repeat first | refine opsStep ?_ | refine codeStep ?_ | refine drawStep ?_
      refine guardE_of (by simp; omega) ?_
      repeat first | refine opsStep ?_ | refine codeStep ?_ | refine drawStep ?_
      refine optE_of (c := .str b[i]) (by simp [Value.cells, hl ▸ hia]) ?_
      repeat first | refine opsStep ?_ | refine codeStep ?_ | refine drawStep ?_
      refine ⟨by kernel_rfl, ?_⟩
      repeat first | refine opsStep ?_ | refine codeStep ?_ | refine drawStep ?_
      refine decB_split (fun h => ?_) (fun h => ?_)
      · repeat first | refine opsStep ?_ | refine codeStep ?_ | refine drawStep ?_
        exact finB rfl (by simp at h; simp; rintro rfl; exact h rfl)
      · repeat first | refine opsStep ?_ | refine codeStep ?_ | refine drawStep ?_
        refine ⟨⟨i + 1, by omega, ?_⟩, (by show a.length - (i + 1) < a.length - i; omega), Ent.fr' ⟨(by kernel_rfl), (by kernel_rfl), inc_slot (i := i) (by omega), trivial⟩ (by kernel_rfl)⟩
        rw [List.take_succ_eq_append_getElem hia, List.take_succ_eq_append_getElem (hl ▸ hia), hpre]
        simp at h; rw [h]
    · repeat first | refine opsStep ?_ | refine codeStep ?_ | refine drawStep ?_
      have : i = a.length := by simp at h; omega
      exact finB rfl (by subst this; rw [List.take_length, hl, List.take_length] at hpre; simpa using hpre)

theorem r12_ints (k k' : SK) (a b : List Int) (ha : a.length < 2^62) (hb : b.length < 2^62) : Pure Try.prog 48 [aIs k a, aIs k' b] (.bool (decide (a = b))) := by
  refine Pure.of_sw 26 Try.func48 rfl Try.ntmps48 (by kernel_rfl) (Nat.le_of_ble_eq_true (by kernel_rfl)) (by simp [closeds, AV.closed, aSs_closed, aIs_closed, aBs_closed, aRs_closed, aDen_closed]) (by simp [AV.closed, closeds, aSs_closed, aIs_closed, aBs_closed, aRs_closed, aDen_closed]) ?_; refine SW.of_vc ?_
  repeat first | refine opsStep ?_ | refine codeStep ?_ | refine drawStep ?_
  refine decB_split (fun h => ?_) (fun h => ?_)
  · repeat first | refine opsStep ?_ | refine codeStep ?_ | refine drawStep ?_
    exact finB rfl (by simp at h; simp; intro e; exact h (by rw [e]))
  · repeat first | refine opsStep ?_ | refine codeStep ?_ | refine drawStep ?_
    have hl : a.length = b.length := by simp at h; omega
    refine loopE_of (ι := {i : Nat // i ≤ a.length ∧ a.take i = b.take i}) (fun i => (fr [(0, aIs k a), (1, aIs k' b), (5, .int .i64 i.1)], [])) (fun i => a.length - i.1) ⟨0, by omega, by simp⟩ (Ent.fr ⟨rfl, rfl, rfl, trivial⟩) ?_
    rintro ⟨i, hi, hpre⟩
    repeat first | refine opsStep ?_ | refine codeStep ?_ | refine drawStep ?_
    refine decB_split (fun h => ?_) (fun h => ?_)
    · have hia : i < a.length := by simpa using h
      repeat first | refine opsStep ?_ | refine codeStep ?_ | refine drawStep ?_
      refine SW.drawn rfl (by kernel_rfl) ?_
      repeat first | refine opsStep ?_ | refine codeStep ?_ | refine drawStep ?_
      refine guardE_of (by simp; omega) ?_
      repeat first | refine opsStep ?_ | refine codeStep ?_ | refine drawStep ?_
      refine optE_of (c := .int .i64 a[i]) (by simp [Value.cells, hia]) ?_
      repeat first | refine opsStep ?_ | refine codeStep ?_ | refine drawStep ?_
      refine guardE_of (by simp; omega) ?_
      repeat first | refine opsStep ?_ | refine codeStep ?_ | refine drawStep ?_
      refine optE_of (c := .int .i64 b[i]) (by simp [Value.cells, hl ▸ hia]) ?_
      repeat first | refine opsStep ?_ | refine codeStep ?_ | refine drawStep ?_
      refine ⟨by kernel_rfl, ?_⟩
      repeat first | refine opsStep ?_ | refine codeStep ?_ | refine drawStep ?_
      refine decB_split (fun h => ?_) (fun h => ?_)
      · repeat first | refine opsStep ?_ | refine codeStep ?_ | refine drawStep ?_
        exact finB rfl (by simp at h; simp; rintro rfl; exact h rfl)
      · repeat first | refine opsStep ?_ | refine codeStep ?_ | refine drawStep ?_
        refine ⟨⟨i + 1, by omega, ?_⟩, (by show a.length - (i + 1) < a.length - i; omega), Ent.fr' ⟨(by kernel_rfl), (by kernel_rfl), inc_slot (i := i) (by omega), trivial⟩ (by kernel_rfl)⟩
        rw [List.take_succ_eq_append_getElem hia, List.take_succ_eq_append_getElem (hl ▸ hia), hpre]
        simp at h; rw [h]
    · repeat first | refine opsStep ?_ | refine codeStep ?_ | refine drawStep ?_
      have : i = a.length := by simp at h; omega
      exact finB rfl (by subst this; rw [List.take_length, hl, List.take_length] at hpre; simpa using hpre)

theorem r12_flags (k k' : SK) (a b : List Bool) (ha : a.length < 2^62) (hb : b.length < 2^62) : Pure Try.prog 47 [aBs k a, aBs k' b] (.bool (decide (a = b))) := by
  refine Pure.of_sw 26 Try.func47 rfl Try.ntmps47 (by kernel_rfl) (Nat.le_of_ble_eq_true (by kernel_rfl)) (by simp [closeds, AV.closed, aSs_closed, aIs_closed, aBs_closed, aRs_closed, aDen_closed]) (by simp [AV.closed, closeds, aSs_closed, aIs_closed, aBs_closed, aRs_closed, aDen_closed]) ?_; refine SW.of_vc ?_
  repeat first | refine opsStep ?_ | refine codeStep ?_ | refine drawStep ?_
  refine decB_split (fun h => ?_) (fun h => ?_)
  · repeat first | refine opsStep ?_ | refine codeStep ?_ | refine drawStep ?_
    exact finB rfl (by simp at h; simp; intro e; exact h (by rw [e]))
  · repeat first | refine opsStep ?_ | refine codeStep ?_ | refine drawStep ?_
    have hl : a.length = b.length := by simp at h; omega
    refine loopE_of (ι := {i : Nat // i ≤ a.length ∧ a.take i = b.take i}) (fun i => (fr [(0, aBs k a), (1, aBs k' b), (5, .int .i64 i.1)], [])) (fun i => a.length - i.1) ⟨0, by omega, by simp⟩ (Ent.fr ⟨rfl, rfl, rfl, trivial⟩) ?_
    rintro ⟨i, hi, hpre⟩
    repeat first | refine opsStep ?_ | refine codeStep ?_ | refine drawStep ?_
    refine decB_split (fun h => ?_) (fun h => ?_)
    · have hia : i < a.length := by simpa using h
      repeat first | refine opsStep ?_ | refine codeStep ?_ | refine drawStep ?_
      refine SW.drawn rfl (by kernel_rfl) ?_
      repeat first | refine opsStep ?_ | refine codeStep ?_ | refine drawStep ?_
      refine guardE_of (by simp; omega) ?_
      repeat first | refine opsStep ?_ | refine codeStep ?_ | refine drawStep ?_
      refine optE_of (c := .bool a[i]) (by simp [Value.cells, hia]) ?_
      repeat first | refine opsStep ?_ | refine codeStep ?_ | refine drawStep ?_
      refine guardE_of (by simp; omega) ?_
      repeat first | refine opsStep ?_ | refine codeStep ?_ | refine drawStep ?_
      refine optE_of (c := .bool b[i]) (by simp [Value.cells, hl ▸ hia]) ?_
      repeat first | refine opsStep ?_ | refine codeStep ?_ | refine drawStep ?_
      refine ⟨by kernel_rfl, ?_⟩
      repeat first | refine opsStep ?_ | refine codeStep ?_ | refine drawStep ?_
      refine decB_split (fun h => ?_) (fun h => ?_)
      · repeat first | refine opsStep ?_ | refine codeStep ?_ | refine drawStep ?_
        exact finB rfl (by simp at h; simp; intro e; subst e; exact h rfl)
      · repeat first | refine opsStep ?_ | refine codeStep ?_ | refine drawStep ?_
        refine ⟨⟨i + 1, by omega, ?_⟩, (by show a.length - (i + 1) < a.length - i; omega), Ent.fr' ⟨(by kernel_rfl), (by kernel_rfl), inc_slot (i := i) (by omega), trivial⟩ (by kernel_rfl)⟩
        rw [List.take_succ_eq_append_getElem hia, List.take_succ_eq_append_getElem (hl ▸ hia), hpre]
        simp at h; rw [h]
    · repeat first | refine opsStep ?_ | refine codeStep ?_ | refine drawStep ?_
      have : i = a.length := by simp at h; omega
      exact finB rfl (by subst this; rw [List.take_length, hl, List.take_length] at hpre; simpa using hpre)
end Tab

/- Names, lists of names. -/
namespace Tab
open Go Go.Proofs
set_option maxRecDepth 10000
set_option linter.unusedVariables false
set_option linter.unusedSimpArgs false
set_option linter.unusedSectionVars false

def nmFrom (s : List UInt8) : Nat → Nat → Nat → Option Nat
  | 0, _, n => some n
  | f + 1, p, n => if p < s.length then (if ((decide (p = 0) && !startR (dec s p).1) || !restR (dec s p).1) = true then none else nmFrom s f (p + (dec s p).2) (n + 1)) else some n

def nameS (s : List UInt8) : Bool := match nmFrom s (s.length + 1) 0 0 with
  | none => false
  | some n => decide (0 < n) && decide (n ≤ 16) && !resS s

theorem dec_width (s : List UInt8) (p : Nat) : 1 ≤ (dec s p).2 ∧ (dec s p).2 ≤ 4 := by
  rw [dec_def]
  simp only []
  repeat' split
  all_goals simp

def NmInv (s : List UInt8) (x : Nat × Nat × Nat) : Prop :=
  nmFrom s (s.length + 1) 0 0 = nmFrom s x.2.2 x.1 x.2.1 ∧ s.length < x.1 + x.2.2 ∧ x.2.1 ≤ x.1 ∧ x.1 ≤ s.length + 3 ∧ (x.2.1 = 0 ↔ x.1 = 0)

theorem NmInv.step {s : List UInt8} {p n f : Nat} (h : NmInv s (p, n, f)) (hp : p < s.length) (hg : ((decide (p = 0) && !startR (dec s p).1) || !restR (dec s p).1) = false) : NmInv s (p + (dec s p).2, n + 1, f - 1) := by
  obtain ⟨h1, h2, h3, h4, h5⟩ := h
  have hw := dec_width s p
  simp only at h1 h2 h3 h4 h5
  refine ⟨?_, by simp only; omega, by simp only; omega, by simp only; omega, by simp only; omega⟩
  obtain ⟨f, rfl⟩ : ∃ k, f = k + 1 := ⟨f - 1, by omega⟩
  rw [h1, nmFrom, if_pos hp, if_neg (by rw [hg]; simp)]
  rfl
theorem NmInv.bad {s : List UInt8} {p n f : Nat} (h : NmInv s (p, n, f)) (hp : p < s.length) (hg : ((decide (p = 0) && !startR (dec s p).1) || !restR (dec s p).1) = true) : nameS s = false := by
  obtain ⟨h1, h2, h3, h4, h5⟩ := h
  simp only at h1 h2 h3 h4 h5
  obtain ⟨f, rfl⟩ : ∃ k, f = k + 1 := ⟨f - 1, by omega⟩
  have e : nmFrom s (f + 1) p n = none := by rw [nmFrom, if_pos hp, if_pos hg]
  rw [e] at h1
  simp [nameS, h1]
theorem NmInv.done {s : List UInt8} {p n f : Nat} (h : NmInv s (p, n, f)) (hp : ¬ p < s.length) : nameS s = (decide (0 < n) && decide (n ≤ 16) && !resS s) := by
  obtain ⟨h1, h2, h3, h4, h5⟩ := h
  simp only at h1 h2 h3 h4 h5
  have : nmFrom s f p n = some n := by
    cases f with
    | zero => rfl
    | succ f => rw [nmFrom, if_neg hp]
  rw [this] at h1
  simp [nameS, h1]

theorem glyph_Name (s : List UInt8) (hl : s.length < 2^62) : Pure Try.prog 100 [.str s] (.bool (nameS s)) := by
  refine Pure.of_sw 37 Try.func100 rfl Try.ntmps100 (by kernel_rfl) (Nat.le_of_ble_eq_true (by kernel_rfl)) (by simp [closeds, AV.closed, aSs_closed, aIs_closed, aBs_closed, aRs_closed, aDen_closed]) (by simp [AV.closed, closeds, aSs_closed, aIs_closed, aBs_closed, aRs_closed, aDen_closed]) ?_; refine SW.of_vc ?_
  repeat first | refine opsStep ?_ | refine codeStep ?_ | refine drawStep ?_
  refine loopE_of (ι := {x : Nat × Nat × Nat // NmInv s x}) (fun x => (fr [(0, .str s), (3, .int .i64 x.1.2.1), (7, .ref 0 0 0)], [.siter s x.1.1])) (fun x => s.length + 4 - x.1.1)
    ⟨(0, 0, s.length + 1), rfl, by simp, by simp, by simp, by simp⟩ (Ent.fr' ⟨(by kernel_rfl), (by kernel_rfl), (by kernel_rfl), trivial⟩ (by kernel_rfl)) ?_
  rintro ⟨⟨p, n, f⟩, hinv⟩
  have hw := dec_width s p
  have hinv' := hinv
  obtain ⟨-, -, hnp, hps, hn0⟩ := hinv'
  simp only at hnp hps hn0
  repeat first | refine opsStep ?_ | refine codeStep ?_ | refine drawStep ?_
  refine decB_dec (fun hp => ?_) (fun hp => ?_)
  · repeat first | refine opsStep ?_ | refine codeStep ?_ | refine drawStep ?_
    refine decB_split (fun h => ?_) (fun h => ?_)
    · repeat first | refine opsStep ?_ | refine codeStep ?_ | refine drawStep ?_
      refine callP (glyph_Start _) ?_
      repeat first | refine opsStep ?_ | refine codeStep ?_ | refine drawStep ?_
      refine decB_split (fun h => ?_) (fun h => ?_)
      · repeat first | refine opsStep ?_ | refine codeStep ?_ | refine drawStep ?_
        exact finB rfl (by rw [hinv.bad hp (by simp_all)])
      · repeat first | refine opsStep ?_ | refine codeStep ?_ | refine drawStep ?_
        refine callP (glyph_Rest _) ?_
        repeat first | refine opsStep ?_ | refine codeStep ?_ | refine drawStep ?_
        refine decB_split (fun h => ?_) (fun h => ?_)
        · repeat first | refine opsStep ?_ | refine codeStep ?_ | refine drawStep ?_
          exact finB rfl (by rw [hinv.bad hp (by simp_all)])
        · repeat first | refine opsStep ?_ | refine codeStep ?_ | refine drawStep ?_
          refine ⟨⟨(p + (dec s p).2, n + 1, f - 1), hinv.step hp (by simp_all)⟩, (by show s.length + 4 - (p + (dec s p).2) < s.length + 4 - p; have : p < s.length := hp; omega), Ent.fr' ⟨(by kernel_rfl), inc_slot (i := n) (by omega), (by kernel_rfl), trivial⟩ (by kernel_rfl)⟩
    · repeat first | refine opsStep ?_ | refine codeStep ?_ | refine drawStep ?_
      refine callP (glyph_Rest _) ?_
      repeat first | refine opsStep ?_ | refine codeStep ?_ | refine drawStep ?_
      refine decB_split (fun h => ?_) (fun h => ?_)
      · repeat first | refine opsStep ?_ | refine codeStep ?_ | refine drawStep ?_
        exact finB rfl (by rw [hinv.bad hp (by simp_all)])
      · repeat first | refine opsStep ?_ | refine codeStep ?_ | refine drawStep ?_
        refine ⟨⟨(p + (dec s p).2, n + 1, f - 1), hinv.step hp (by simp_all)⟩, (by show s.length + 4 - (p + (dec s p).2) < s.length + 4 - p; have : p < s.length := hp; omega), Ent.fr' ⟨(by kernel_rfl), inc_slot (i := n) (by omega), (by kernel_rfl), trivial⟩ (by kernel_rfl)⟩
  · repeat first | refine opsStep ?_ | refine codeStep ?_ | refine drawStep ?_
    refine decB_dec (fun h1 => ?_) (fun h1 => ?_)
    · repeat first | refine opsStep ?_ | refine codeStep ?_ | refine drawStep ?_
      refine decB_dec (fun h2 => ?_) (fun h2 => ?_)
      · repeat first | refine opsStep ?_ | refine codeStep ?_ | refine drawStep ?_
        refine callP (glyph_Reserved _) ?_
        repeat first | refine opsStep ?_ | refine codeStep ?_ | refine drawStep ?_
        exact finB rfl (by rw [hinv.done hp, decide_eq_true (show 0 < n by simp at h1; omega), decide_eq_true (show n ≤ 16 by simp at h2; omega)]; simp)
      · repeat first | refine opsStep ?_ | refine codeStep ?_ | refine drawStep ?_
        exact finB rfl (by rw [hinv.done hp, decide_eq_true (show 0 < n by simp at h1; omega), decide_eq_false (show ¬ n ≤ 16 by simp at h2; omega)]; simp)
    · repeat first | refine opsStep ?_ | refine codeStep ?_ | refine drawStep ?_
      exact finB rfl (by rw [hinv.done hp, decide_eq_false (show ¬ 0 < n by simp at h1; omega)]; simp)

theorem r04_Name (s : List UInt8) (hl : s.length < 2^62) : Pure Try.prog 120 [.str s] (.bool (nameS s)) := by
  refine Pure.of_sw 51 Try.func120 rfl Try.ntmps120 (by kernel_rfl) (Nat.le_of_ble_eq_true (by kernel_rfl)) (by simp [closeds, AV.closed, aSs_closed, aIs_closed, aBs_closed, aRs_closed, aDen_closed]) (by simp [AV.closed, closeds, aSs_closed, aIs_closed, aBs_closed, aRs_closed, aDen_closed]) ?_; refine SW.of_vc ?_
  repeat first | refine opsStep ?_ | refine codeStep ?_ | refine drawStep ?_
  refine loopE_of (ι := {x : Nat × Nat × Nat // NmInv s x}) (fun x => (fr [(0, .str s), (3, .int .i64 x.1.2.1), (4, .int .i64 x.1.1)], [])) (fun x => s.length + 4 - x.1.1)
    ⟨(0, 0, s.length + 1), rfl, by simp, by simp, by simp, by simp⟩ (Ent.fr' ⟨(by kernel_rfl), (by kernel_rfl), (by kernel_rfl), trivial⟩ (by kernel_rfl)) ?_
  rintro ⟨⟨p, n, f⟩, hinv⟩
  have hw := dec_width s p
  have hinv' := hinv
  obtain ⟨-, -, hnp, hps, hn0⟩ := hinv'
  simp only at hnp hps hn0
  repeat first | refine opsStep ?_ | refine codeStep ?_ | refine drawStep ?_
  refine decB_dec (fun hp0 => ?_) (fun hp0 => ?_)
  · have hp : p < s.length := by simpa using hp0
    repeat first | refine opsStep ?_ | refine codeStep ?_ | refine drawStep ?_
    refine callP (r04_Read s p hp hl) ?_
    have hbad : okd s p = false → nameS s = false := fun e => hinv.bad hp (by
      have e : dec s p = (65533, 1) := by rw [okd_eq] at e; simpa using e
      rw [e]; have : restR 65533 = false := by unfold restR startR; simp
      simp only [show ((65533, 1) : Nat × Nat).1 = 65533 from rfl]; rw [show ((65533 : Nat) : Int) = 65533 from rfl, this]; simp)
    repeat first | refine opsStep ?_ | refine codeStep ?_ | refine drawStep ?_
    refine decB_split (fun h => ?_) (fun h => ?_)
    · repeat first | refine opsStep ?_ | refine codeStep ?_ | refine drawStep ?_
      exact finB rfl (by rw [hbad (by simp_all)])
    · repeat first | refine opsStep ?_ | refine codeStep ?_ | refine drawStep ?_
      refine decB_split (fun h => ?_) (fun h => ?_)
      · repeat first | refine opsStep ?_ | refine codeStep ?_ | refine drawStep ?_
        refine callP (r04_Start _) ?_
        repeat first | refine opsStep ?_ | refine codeStep ?_ | refine drawStep ?_
        refine decB_split (fun h => ?_) (fun h => ?_)
        · repeat first | refine opsStep ?_ | refine codeStep ?_ | refine drawStep ?_
          exact finB rfl (by rw [hinv.bad hp (by simp_all)])
        · repeat first | refine opsStep ?_ | refine codeStep ?_ | refine drawStep ?_
          refine callP (r04_Rest _) ?_
          repeat first | refine opsStep ?_ | refine codeStep ?_ | refine drawStep ?_
          refine decB_split (fun h => ?_) (fun h => ?_)
          · repeat first | refine opsStep ?_ | refine codeStep ?_ | refine drawStep ?_
            exact finB rfl (by rw [hinv.bad hp (by simp_all)])
          · repeat first | refine opsStep ?_ | refine codeStep ?_ | refine drawStep ?_
            refine ⟨⟨(p + (dec s p).2, n + 1, f - 1), hinv.step hp (by simp_all)⟩, (by show s.length + 4 - (p + (dec s p).2) < s.length + 4 - p; omega), Ent.fr' ⟨(by kernel_rfl), inc_slot (i := n) (by omega), (congrArg (AV.int .i64) ((IntWalk.i64_in ((p : Int) + (dec s p).2) (by omega)).trans (Int.natCast_add _ _).symm) : _), trivial⟩ (by kernel_rfl)⟩
      · repeat first | refine opsStep ?_ | refine codeStep ?_ | refine drawStep ?_
        refine callP (r04_Rest _) ?_
        repeat first | refine opsStep ?_ | refine codeStep ?_ | refine drawStep ?_
        refine decB_split (fun h => ?_) (fun h => ?_)
        · repeat first | refine opsStep ?_ | refine codeStep ?_ | refine drawStep ?_
          exact finB rfl (by rw [hinv.bad hp (by simp_all)])
        · repeat first | refine opsStep ?_ | refine codeStep ?_ | refine drawStep ?_
          refine ⟨⟨(p + (dec s p).2, n + 1, f - 1), hinv.step hp (by simp_all)⟩, (by show s.length + 4 - (p + (dec s p).2) < s.length + 4 - p; omega), Ent.fr' ⟨(by kernel_rfl), inc_slot (i := n) (by omega), (congrArg (AV.int .i64) ((IntWalk.i64_in ((p : Int) + (dec s p).2) (by omega)).trans (Int.natCast_add _ _).symm) : _), trivial⟩ (by kernel_rfl)⟩
  · have hp : ¬ p < s.length := by simpa using hp0
    repeat first | refine opsStep ?_ | refine codeStep ?_ | refine drawStep ?_
    refine decB_dec (fun h1 => ?_) (fun h1 => ?_)
    · repeat first | refine opsStep ?_ | refine codeStep ?_ | refine drawStep ?_
      refine decB_dec (fun h2 => ?_) (fun h2 => ?_)
      · repeat first | refine opsStep ?_ | refine codeStep ?_ | refine drawStep ?_
        refine callP (r04_Reserved _) ?_
        repeat first | refine opsStep ?_ | refine codeStep ?_ | refine drawStep ?_
        exact finB rfl (by rw [hinv.done hp, decide_eq_true (show 0 < n by simp at h1; omega), decide_eq_true (show n ≤ 16 by simp at h2; omega)]; simp)
      · repeat first | refine opsStep ?_ | refine codeStep ?_ | refine drawStep ?_
        exact finB rfl (by rw [hinv.done hp, decide_eq_true (show 0 < n by simp at h1; omega), decide_eq_false (show ¬ n ≤ 16 by simp at h2; omega)]; simp)
    · repeat first | refine opsStep ?_ | refine codeStep ?_ | refine drawStep ?_
      exact finB rfl (by rw [hinv.done hp, decide_eq_false (show ¬ 0 < n by simp at h1; omega)]; simp)
attribute [irreducible] nameS
end Tab

/- Lists of names: places in them, rising ones. -/
namespace Tab
open Go Go.Proofs
set_option maxRecDepth 10000
set_option linter.unusedVariables false
set_option linter.unusedSimpArgs false
set_option linter.unusedSectionVars false

def idxS (l : List (List UInt8)) (s : List UInt8) : Int := if l.idxOf s < l.length then (l.idxOf s : Int) else -1

theorem idx_hit {l : List (List UInt8)} {s : List UInt8} {i : Nat} (hi : i < l.length) (hn : s ∉ l.take i) (h : l[i] = s) : idxS l s = i := by
  have e : l = l.take i ++ l[i] :: l.drop (i + 1) := by simp
  have : l.idxOf s = i := by
    rw [e, List.idxOf_append, if_neg hn, h, List.idxOf_cons_self]
    simp; omega
  rw [idxS, this, if_pos hi]
theorem idx_miss {l : List (List UInt8)} {s : List UInt8} (h : s ∉ l) : idxS l s = -1 := by
  rw [idxS, List.idxOf_eq_length h, if_neg (by omega)]

theorem slices_Index_S (k : SK) (l : List (List UInt8)) (s : List UInt8) (hl : l.length < 2^62) : Pure Try.prog 140 [aSs k l, .str s] (.int .i64 (idxS l s)) := by
  refine Pure.of_sw 19 Try.func140 rfl Try.ntmps140 (by kernel_rfl) (Nat.le_of_ble_eq_true (by kernel_rfl)) (by simp [closeds, AV.closed, aSs_closed, aIs_closed, aBs_closed, aRs_closed, aDen_closed]) (by simp [AV.closed, closeds, aSs_closed, aIs_closed, aBs_closed, aRs_closed, aDen_closed]) ?_; refine SW.of_vc ?_
  repeat first | refine opsStep ?_ | refine codeStep ?_ | refine drawStep ?_
  refine loopE_of (ι := {i : Nat // i ≤ l.length ∧ s ∉ l.take i}) (fun i => (fr [(0, aSs k l), (1, .str s), (7, .int .i64 l.length), (8, .int .i64 i.1)], [])) (fun i => l.length - i.1) ⟨0, by omega, by simp⟩ (Ent.fr' ⟨(by kernel_rfl), (by kernel_rfl), (by kernel_rfl), (by kernel_rfl), trivial⟩ (by kernel_rfl)) ?_
  rintro ⟨i, hi, hpre⟩
  repeat first | refine opsStep ?_ | refine codeStep ?_ | refine drawStep ?_
  refine decB_dec (fun h => ?_) (fun h => ?_)
  · have hia : i < l.length := by simpa using h
    repeat first | refine opsStep ?_ | refine codeStep ?_ | refine drawStep ?_
    refine guardE_of (by simp; omega) ?_
    repeat first | refine opsStep ?_ | refine codeStep ?_ | refine drawStep ?_
    refine optE_of (c := .str l[i]) (by simp [Value.cells, hia]) ?_
    repeat first | refine opsStep ?_ | refine codeStep ?_ | refine drawStep ?_
    refine decB_dec (fun h => ?_) (fun h => ?_)
    · repeat first | refine opsStep ?_ | refine codeStep ?_ | refine drawStep ?_
      exact finV (v' := .int .i64 i) (by kernel_rfl) (by rw [idx_hit hia hpre h.symm])
    · repeat first | refine opsStep ?_ | refine codeStep ?_ | refine drawStep ?_
      refine ⟨⟨i + 1, by omega, ?_⟩, (by show l.length - (i + 1) < l.length - i; omega), Ent.fr' ⟨(by kernel_rfl), (by kernel_rfl), (by kernel_rfl), inc_slot (i := i) (by omega), trivial⟩ (by kernel_rfl)⟩
      rw [List.take_succ_eq_append_getElem hia]
      exact fun e => (List.mem_append.1 e).elim hpre (fun e => h (List.mem_singleton.1 e))
  · repeat first | refine opsStep ?_ | refine codeStep ?_ | refine drawStep ?_
    have : i = l.length := by simp at h; omega
    exact finV (v' := .int .i64 (-1)) (by kernel_rfl) (by subst this; rw [List.take_length] at hpre; rw [idx_miss hpre])

theorem glyph_Index (k : SK) (l : List (List UInt8)) (s : List UInt8) (hl : l.length < 2^62) : Pure Try.prog 104 [aSs k l, .str s] (.int .i64 (idxS l s)) := by
  refine Pure.of_sw 8 Try.func104 rfl Try.ntmps104 (by kernel_rfl) (Nat.le_of_ble_eq_true (by kernel_rfl)) (by simp [closeds, AV.closed, aSs_closed, aIs_closed, aBs_closed, aRs_closed, aDen_closed]) (by simp [AV.closed, closeds, aSs_closed, aIs_closed, aBs_closed, aRs_closed, aDen_closed]) ?_; refine SW.of_vc ?_
  repeat first | refine opsStep ?_ | refine codeStep ?_ | refine drawStep ?_
  refine callP (slices_Index_S k l s hl) ?_
  repeat first | refine opsStep ?_ | refine codeStep ?_ | refine drawStep ?_
  exact finE_of (by kernel_rfl)

def badAt (l : List (List UInt8)) (i : Nat) : Bool := !nameS (l.getD i []) || (decide (0 < i) && !(Op.bytesLess (l.getD (i - 1) []) (l.getD i [])))
def risesS (l : List (List UInt8)) : Bool := (List.range l.length).all fun i => !badAt l i

theorem rises_bad {l : List (List UInt8)} {i : Nat} (hi : i < l.length) (h : badAt l i = true) : risesS l = false := by
  rw [risesS, ← Bool.not_eq_true, List.all_eq_true]
  intro k
  have := k i (by simp [hi])
  simp [h] at this
theorem rises_ok {l : List (List UInt8)} (h : ∀ j, j < l.length → badAt l j = false) : risesS l = true := by
  rw [risesS, List.all_eq_true]
  intro i hi
  simp [h i (by simpa using hi)]

theorem glyph_Rises (k : SK) (l : List (List UInt8)) (hl : l.length < 2^62) (hs : ∀ s ∈ l, s.length < 2^62) : Pure Try.prog 63 [aSs k l] (.bool (risesS l)) := by
  refine Pure.of_sw 29 Try.func63 rfl Try.ntmps63 (by kernel_rfl) (Nat.le_of_ble_eq_true (by kernel_rfl)) (by simp [closeds, AV.closed, aSs_closed, aIs_closed, aBs_closed, aRs_closed, aDen_closed]) (by simp [AV.closed, closeds, aSs_closed, aIs_closed, aBs_closed, aRs_closed, aDen_closed]) ?_; refine SW.of_vc ?_
  repeat first | refine opsStep ?_ | refine codeStep ?_ | refine drawStep ?_
  refine loopE_of (ι := {i : Nat // i ≤ l.length ∧ ∀ j, j < i → badAt l j = false}) (fun i => (fr [(0, aSs k l), (5, aSs k l), (6, .int .i64 l.length), (7, .int .i64 i.1)], [])) (fun i => l.length - i.1) ⟨0, by omega, by simp⟩ (Ent.fr' ⟨(by kernel_rfl), (by kernel_rfl), (by kernel_rfl), (by kernel_rfl), trivial⟩ (by kernel_rfl)) ?_
  rintro ⟨i, hi, hpre⟩
  repeat first | refine opsStep ?_ | refine codeStep ?_ | refine drawStep ?_
  refine decB_dec (fun h => ?_) (fun h => ?_)
  · have hia : i < l.length := by simpa using h
    have hg : l.getD i [] = l[i] := by simp [List.getD_eq_getElem?_getD, hia]
    have hnext : ∀ (hb : badAt l i = false) (j : Nat), j < i + 1 → badAt l j = false := fun hb j hj => by
      by_cases e : j = i
      · subst e; exact hb
      · exact hpre j (by omega)
    repeat first | refine opsStep ?_ | refine codeStep ?_ | refine drawStep ?_
    refine guardE_of (by simp; omega) ?_
    repeat first | refine opsStep ?_ | refine codeStep ?_ | refine drawStep ?_
    refine optE_of (c := .str l[i]) (by simp [Value.cells, hia]) ?_
    repeat first | refine opsStep ?_ | refine codeStep ?_ | refine drawStep ?_
    refine callP (glyph_Name l[i] (hs _ (List.getElem_mem hia))) ?_
    repeat first | refine opsStep ?_ | refine codeStep ?_ | refine drawStep ?_
    refine decB_split (fun h => ?_) (fun h => ?_)
    · repeat first | refine opsStep ?_ | refine codeStep ?_ | refine drawStep ?_
      exact finB rfl (by rw [rises_bad hia (by rw [badAt, hg]; simp at h; simp [h])])
    · repeat first | refine opsStep ?_ | refine codeStep ?_ | refine drawStep ?_
      rename_i h0
      have hn : nameS l[i] = true := by simpa using h
      refine decB_dec (fun h1 => ?_) (fun h1 => ?_)
      · have h1' : 0 < i := by simpa using h1
        have hw : IntKind.wrap .i64 ((i : Int) - 1) = ((i - 1 : Nat) : Int) := by rw [IntWalk.i64_in _ (by omega)]; omega
        have hg1 : l.getD (i - 1) [] = l[i - 1] := by simp [List.getD_eq_getElem?_getD, show i - 1 < l.length by omega]
        repeat first | refine opsStep ?_ | refine codeStep ?_ | refine drawStep ?_
        refine guardE_of (by rw [hw]; omega) ?_
        repeat first | refine opsStep ?_ | refine codeStep ?_ | refine drawStep ?_
        refine optE_of (c := .str l[i - 1]) (by rw [hw]; simp [Value.cells, show i - 1 < l.length by omega]) ?_
        repeat first | refine opsStep ?_ | refine codeStep ?_ | refine drawStep ?_
        refine decB_split (fun h => ?_) (fun h => ?_)
        · repeat first | refine opsStep ?_ | refine codeStep ?_ | refine drawStep ?_
          exact finB rfl (by rw [rises_bad hia (by rw [badAt, hg, hg1]; simp at h; simp [h, h1'])])
        · repeat first | refine opsStep ?_ | refine codeStep ?_ | refine drawStep ?_
          refine ⟨⟨i + 1, by omega, hnext (by rw [badAt, hg, hg1]; simp at h; simp [h, hn])⟩, (by show l.length - (i + 1) < l.length - i; omega), Ent.fr' ⟨(by kernel_rfl), (by kernel_rfl), (by kernel_rfl), inc_slot (i := i) (by omega), trivial⟩ (by kernel_rfl)⟩
      · repeat first | refine opsStep ?_ | refine codeStep ?_ | refine drawStep ?_
        have h1' : i = 0 := by simp at h1; omega
        refine ⟨⟨i + 1, by omega, hnext (by rw [badAt, hg, hn, decide_eq_false (show ¬ 0 < i by omega)]; simp)⟩, (by show l.length - (i + 1) < l.length - i; omega), Ent.fr' ⟨(by kernel_rfl), (by kernel_rfl), (by kernel_rfl), inc_slot (i := i) (by omega), trivial⟩ (by kernel_rfl)⟩
  · repeat first | refine opsStep ?_ | refine codeStep ?_ | refine drawStep ?_
    have : i = l.length := by simp at h; omega
    exact finB rfl (by subst this; rw [rises_ok hpre])

end Tab

/- Letters and their digits. -/
namespace Tab
open Go Go.Proofs
set_option maxRecDepth 10000
set_option linter.unusedVariables false
set_option linter.unusedSimpArgs false
set_option linter.unusedSectionVars false

theorem r04_Rises (k : SK) (l : List (List UInt8)) (hl : l.length < 2^62) (hs : ∀ s ∈ l, s.length < 2^62) : Pure Try.prog 92 [aSs k l] (.bool (risesS l)) := by
  refine Pure.of_sw 32 Try.func92 rfl Try.ntmps92 (by kernel_rfl) (Nat.le_of_ble_eq_true (by kernel_rfl)) (by simp [closeds, AV.closed, aSs_closed, aIs_closed, aBs_closed, aRs_closed, aDen_closed]) (by simp [AV.closed, closeds, aSs_closed, aIs_closed, aBs_closed, aRs_closed, aDen_closed]) ?_; refine SW.of_vc ?_
  repeat first | refine opsStep ?_ | refine codeStep ?_ | refine drawStep ?_
  refine loopE_of (ι := {i : Nat // i ≤ l.length ∧ ∀ j, j < i → badAt l j = false}) (fun i => (fr [(0, aSs k l), (3, .int .i64 i.1)], [])) (fun i => l.length - i.1) ⟨0, by omega, by simp⟩ (Ent.fr' ⟨(by kernel_rfl), (by kernel_rfl), trivial⟩ (by kernel_rfl)) ?_
  rintro ⟨i, hi, hpre⟩
  repeat first | refine opsStep ?_ | refine codeStep ?_ | refine drawStep ?_
  refine decB_dec (fun h => ?_) (fun h => ?_)
  · have hia : i < l.length := by simpa using h
    have hg : l.getD i [] = l[i] := by simp [List.getD_eq_getElem?_getD, hia]
    have hnext : ∀ (hb : badAt l i = false) (j : Nat), j < i + 1 → badAt l j = false := fun hb j hj => by
      by_cases e : j = i
      · subst e; exact hb
      · exact hpre j (by omega)
    repeat first | refine opsStep ?_ | refine codeStep ?_ | refine drawStep ?_
    refine SW.drawn rfl (by kernel_rfl) ?_
    repeat first | refine opsStep ?_ | refine codeStep ?_ | refine drawStep ?_
    refine guardE_of (by simp; omega) ?_
    repeat first | refine opsStep ?_ | refine codeStep ?_ | refine drawStep ?_
    refine optE_of (c := .str l[i]) (by simp [Value.cells, hia]) ?_
    repeat first | refine opsStep ?_ | refine codeStep ?_ | refine drawStep ?_
    refine .inl ⟨_, _, [], (r04_Name l[i] (hs _ (List.getElem_mem hia))), RdsN_refl _, .inr rfl, none_need, ?_⟩
    repeat first | refine opsStep ?_ | refine codeStep ?_ | refine drawStep ?_
    refine decB_split (fun h => ?_) (fun h => ?_)
    · repeat first | refine opsStep ?_ | refine codeStep ?_ | refine drawStep ?_
      refine ⟨by kernel_rfl, ?_⟩
      repeat first | refine opsStep ?_ | refine codeStep ?_ | refine drawStep ?_
      exact finB rfl (by rw [rises_bad hia (by rw [badAt, hg]; simp at h; simp [h])])
    · repeat first | refine opsStep ?_ | refine codeStep ?_ | refine drawStep ?_
      have hn : nameS l[i] = true := by simpa using h
      refine decB_dec (fun h1 => ?_) (fun h1 => ?_)
      · have h1' : 0 < i := by simpa using h1
        have hw : IntKind.wrap .i64 ((i : Int) - 1) = ((i - 1 : Nat) : Int) := by rw [IntWalk.i64_in _ (by omega)]; omega
        have hg1 : l.getD (i - 1) [] = l[i - 1] := by simp [List.getD_eq_getElem?_getD, show i - 1 < l.length by omega]
        repeat first | refine opsStep ?_ | refine codeStep ?_ | refine drawStep ?_
        refine guardE_of (by rw [hw]; omega) ?_
        repeat first | refine opsStep ?_ | refine codeStep ?_ | refine drawStep ?_
        refine optE_of (c := .str l[i - 1]) (by rw [hw]; simp [Value.cells, show i - 1 < l.length by omega]) ?_
        repeat first | refine opsStep ?_ | refine codeStep ?_ | refine drawStep ?_
        refine guardE_of (by simp; omega) ?_
        repeat first | refine opsStep ?_ | refine codeStep ?_ | refine drawStep ?_
        refine optE_of (c := .str l[i]) (by simp [Value.cells, hia]) ?_
        repeat first | refine opsStep ?_ | refine codeStep ?_ | refine drawStep ?_
        refine ⟨by kernel_rfl, ?_⟩
        repeat first | refine opsStep ?_ | refine codeStep ?_ | refine drawStep ?_
        refine decB_split (fun h => ?_) (fun h => ?_)
        · repeat first | refine opsStep ?_ | refine codeStep ?_ | refine drawStep ?_
          exact finB rfl (by rw [rises_bad hia (by rw [badAt, hg, hg1]; simp at h; simp [h, h1'])])
        · repeat first | refine opsStep ?_ | refine codeStep ?_ | refine drawStep ?_
          refine ⟨⟨i + 1, by omega, hnext (by rw [badAt, hg, hg1]; simp at h; simp [h, hn])⟩, (by show l.length - (i + 1) < l.length - i; omega), Ent.fr' ⟨(by kernel_rfl), inc_slot (i := i) (by omega), trivial⟩ (by kernel_rfl)⟩
      · repeat first | refine opsStep ?_ | refine codeStep ?_ | refine drawStep ?_
        refine ⟨by kernel_rfl, ?_⟩
        repeat first | refine opsStep ?_ | refine codeStep ?_ | refine drawStep ?_
        have h1' : i = 0 := by simp at h1; omega
        refine ⟨⟨i + 1, by omega, hnext (by rw [badAt, hg, hn, decide_eq_false (show ¬ 0 < i by omega)]; simp)⟩, (by show l.length - (i + 1) < l.length - i; omega), Ent.fr' ⟨(by kernel_rfl), inc_slot (i := i) (by omega), trivial⟩ (by kernel_rfl)⟩
  · repeat first | refine opsStep ?_ | refine codeStep ?_ | refine drawStep ?_
    have : i = l.length := by simp at h; omega
    exact finB rfl (by subst this; rw [rises_ok hpre])

def lettersS (k : Nat) : Int := IntKind.wrap .i64 (2 ^ k)
theorem lettersS_small {k : Nat} (h : k ≤ 62) : lettersS k = 2 ^ k := by
  have : 2 ^ k ≤ 2 ^ 62 := Nat.pow_le_pow_right (by omega) h
  have e : ((2 : Int) ^ k) = ((2 ^ k : Nat) : Int) := by simp
  rw [lettersS, e]
  generalize 2 ^ k = q at *
  exact IntWalk.i64_in _ (by constructor <;> omega)
theorem wrap_wrap_mul (a b : Int) : IntKind.wrap .i64 (IntKind.wrap .i64 a * b) = IntKind.wrap .i64 (a * b) := by
  simp only [IntKind.wrap_i64]
  have h1 : ∀ x : Int, (x + 9223372036854775808) % 18446744073709551616 - 9223372036854775808 = x - 18446744073709551616 * ((x + 9223372036854775808) / 18446744073709551616) := fun x => by omega
  rw [h1 a]
  generalize (a + 9223372036854775808) / 18446744073709551616 = q
  have : (a - 18446744073709551616 * q) * b = a * b + 18446744073709551616 * (- (q * b)) := by
    rw [Int.sub_mul, Int.mul_assoc, Int.mul_neg]; omega
  rw [this]
  omega

theorem r12_Letters (k : Nat) (hk : k < 2^62) : Pure Try.prog 69 [.int .i64 k] (.int .i64 (lettersS k)) := by
  refine Pure.of_sw 13 Try.func69 rfl Try.ntmps69 (by kernel_rfl) (Nat.le_of_ble_eq_true (by kernel_rfl)) (by simp [closeds, AV.closed, aSs_closed, aIs_closed, aBs_closed, aRs_closed, aDen_closed]) (by simp [AV.closed, closeds, aSs_closed, aIs_closed, aBs_closed, aRs_closed, aDen_closed]) ?_; refine SW.of_vc ?_
  repeat first | refine opsStep ?_ | refine codeStep ?_ | refine drawStep ?_
  refine loopE_of (ι := {i : Nat // i ≤ k}) (fun i => (fr [(0, .int .i64 k), (3, .int .i64 (lettersS i.1)), (4, .int .i64 i.1)], [])) (fun i => k - i.1) ⟨0, by omega⟩ (Ent.fr' ⟨(by kernel_rfl), (by kernel_rfl), (by kernel_rfl), trivial⟩ (by kernel_rfl)) ?_
  rintro ⟨i, hi⟩
  repeat first | refine opsStep ?_ | refine codeStep ?_ | refine drawStep ?_
  refine decB_dec (fun h => ?_) (fun h => ?_)
  · have hik : i < k := by simpa using h
    repeat first | refine opsStep ?_ | refine codeStep ?_ | refine drawStep ?_
    refine ⟨⟨i + 1, by omega⟩, (by show k - (i + 1) < k - i; omega), Ent.fr' ⟨(by kernel_rfl), ?_, inc_slot (i := i) (by omega), trivial⟩ (by kernel_rfl)⟩
    show AV.int .i64 (IntKind.wrap .i64 (IntKind.wrap .i64 (2 ^ i) * 2)) = AV.int .i64 (IntKind.wrap .i64 (2 ^ (i + 1)))
    rw [wrap_wrap_mul, Int.pow_succ]
  · repeat first | refine opsStep ?_ | refine codeStep ?_ | refine drawStep ?_
    have : i = k := by simp at h; omega
    subst this
    exact finE_of (by kernel_rfl)

def tracksS (l : List (List UInt8)) (n : Int) : Bool := decide (l.length ≤ 6) && risesS l && decide (1 ≤ n) && decide (n ≤ 256)

theorem r12_Frame (k : SK) (l : List (List UInt8)) (n : Int) (hl : l.length < 2^62) (hs : ∀ s ∈ l, s.length < 2^62) : Pure Try.prog 49 [aSs k l, .int .i64 n] (.bool (tracksS l n)) := by
  refine Pure.of_sw 20 Try.func49 rfl Try.ntmps49 (by kernel_rfl) (Nat.le_of_ble_eq_true (by kernel_rfl)) (by simp [closeds, AV.closed, aSs_closed, aIs_closed, aBs_closed, aRs_closed, aDen_closed]) (by simp [AV.closed, closeds, aSs_closed, aIs_closed, aBs_closed, aRs_closed, aDen_closed]) ?_; refine SW.of_vc ?_
  repeat first | refine opsStep ?_ | refine codeStep ?_ | refine drawStep ?_
  refine decB_dec (fun h1 => ?_) (fun h1 => ?_)
  · repeat first | refine opsStep ?_ | refine codeStep ?_ | refine drawStep ?_
    refine callP (r04_Rises k l hl hs) ?_
    repeat first | refine opsStep ?_ | refine codeStep ?_ | refine drawStep ?_
    have e1 : decide (l.length ≤ 6) = true := decide_eq_true (by have := h1; omega)
    refine decB_split (fun h => ?_) (fun h => ?_)
    · repeat first | refine opsStep ?_ | refine codeStep ?_ | refine drawStep ?_
      refine decB_dec (fun h2 => ?_) (fun h2 => ?_)
      · repeat first | refine opsStep ?_ | refine codeStep ?_ | refine drawStep ?_
        exact finB rfl (by rw [tracksS, e1, h, decide_eq_true (show 1 ≤ n from h2)]; simp)
      · repeat first | refine opsStep ?_ | refine codeStep ?_ | refine drawStep ?_
        exact finB rfl (by rw [tracksS, decide_eq_false (show ¬ 1 ≤ n from h2)]; simp)
    · repeat first | refine opsStep ?_ | refine codeStep ?_ | refine drawStep ?_
      exact finB rfl (by rw [tracksS, h]; simp)
  · repeat first | refine opsStep ?_ | refine codeStep ?_ | refine drawStep ?_
    exact finB rfl (by rw [tracksS, decide_eq_false (show ¬ l.length ≤ 6 by have := h1; omega)]; simp)

theorem table_tracks (k : SK) (l : List (List UInt8)) (n : Int) (hl : l.length < 2^62) (hs : ∀ s ∈ l, s.length < 2^62) : Pure Try.prog 107 [aSs k l, .int .i64 n] (.bool (tracksS l n)) := by
  refine Pure.of_sw 20 Try.func107 rfl Try.ntmps107 (by kernel_rfl) (Nat.le_of_ble_eq_true (by kernel_rfl)) (by simp [closeds, AV.closed, aSs_closed, aIs_closed, aBs_closed, aRs_closed, aDen_closed]) (by simp [AV.closed, closeds, aSs_closed, aIs_closed, aBs_closed, aRs_closed, aDen_closed]) ?_; refine SW.of_vc ?_
  repeat first | refine opsStep ?_ | refine codeStep ?_ | refine drawStep ?_
  refine decB_dec (fun h1 => ?_) (fun h1 => ?_)
  · repeat first | refine opsStep ?_ | refine codeStep ?_ | refine drawStep ?_
    have e1 : decide (l.length ≤ 6) = true := decide_eq_true (by have := h1; omega)
    refine decB_dec (fun h2 => ?_) (fun h2 => ?_)
    · repeat first | refine opsStep ?_ | refine codeStep ?_ | refine drawStep ?_
      refine decB_dec (fun h3 => ?_) (fun h3 => ?_)
      · repeat first | refine opsStep ?_ | refine codeStep ?_ | refine drawStep ?_
        refine callP (glyph_Rises k l hl hs) ?_
        repeat first | refine opsStep ?_ | refine codeStep ?_ | refine drawStep ?_
        exact finB rfl (by rw [tracksS, e1, decide_eq_true (show 1 ≤ n from h2), decide_eq_true (show n ≤ 256 from h3)]; simp)
      · repeat first | refine opsStep ?_ | refine codeStep ?_ | refine drawStep ?_
        exact finB rfl (by rw [tracksS, decide_eq_false (show ¬ n ≤ 256 from h3)]; simp)
    · repeat first | refine opsStep ?_ | refine codeStep ?_ | refine drawStep ?_
      exact finB rfl (by rw [tracksS, decide_eq_false (show ¬ 1 ≤ n from h2)]; simp)
  · repeat first | refine opsStep ?_ | refine codeStep ?_ | refine drawStep ?_
    exact finB rfl (by rw [tracksS, decide_eq_false (show ¬ l.length ≤ 6 by have := h1; omega)]; simp)

def digN : Nat → Nat → List Int
  | _, 0 => []
  | a, n + 1 => ((a % 2 : Nat) : Int) :: digN (a / 2) n

theorem digN_length (a n) : (digN a n).length = n := by
  induction n generalizing a with
  | zero => rfl
  | succ n ih => simp [digN, ih]
theorem digN_snoc (a n) : digN a (n + 1) = digN a n ++ [((a / 2 ^ n % 2 : Nat) : Int)] := by
  induction n generalizing a with
  | zero => simp [digN]
  | succ n ih =>
    rw [digN, ih, digN, Nat.div_div_eq_div_mul, Nat.pow_succ, Nat.mul_comm]
    rfl

end Tab

/- Letters out of digits, digits out of letters. -/
namespace Tab
open Go Go.Proofs
set_option maxRecDepth 10000
set_option linter.unusedVariables false
set_option linter.unusedSimpArgs false
set_option linter.unusedSectionVars false

def letS : List Int → Int
  | [] => 0
  | d :: l => 2 * letS l + d

theorem letS_bound : ∀ {l : List Int}, (∀ d ∈ l, 0 ≤ d ∧ d ≤ 1) → 0 ≤ letS l ∧ letS l < ((2 ^ l.length : Nat) : Int)
  | [], _ => by simp [letS]
  | d :: l, h => by
    have ih := letS_bound (l := l) (fun x hx => h x (List.mem_cons_of_mem _ hx))
    have hd := h d (List.mem_cons_self ..)
    simp only [letS, List.length_cons, Nat.pow_succ]
    generalize 2 ^ l.length = q at *
    omega

def plS (l : List Int) : Int := if 6 < l.length ∨ ∃ p ∈ l, p < 0 ∨ 6 ≤ p then 2 else 0

theorem bits_places (k : SK) (l : List Int) (hl : l.length < 2^62) : Pure Try.prog 164 [aIs k l] (.int .i64 (plS l)) := by
  refine Pure.of_sw 21 Try.func164 rfl Try.ntmps164 (by kernel_rfl) (Nat.le_of_ble_eq_true (by kernel_rfl)) (by simp [closeds, AV.closed, aSs_closed, aIs_closed, aBs_closed, aRs_closed, aDen_closed]) (by simp [AV.closed, closeds, aSs_closed, aIs_closed, aBs_closed, aRs_closed, aDen_closed]) ?_; refine SW.of_vc ?_
  repeat first | refine opsStep ?_ | refine codeStep ?_ | refine drawStep ?_
  refine decB_dec (fun h6 => ?_) (fun h6 => ?_)
  · repeat first | refine opsStep ?_ | refine codeStep ?_ | refine drawStep ?_
    exact finV (v' := .int .i64 2) (by kernel_rfl) (by rw [plS, if_pos (.inl (by have := h6; omega))])
  · repeat first | refine opsStep ?_ | refine codeStep ?_ | refine drawStep ?_
    refine loopE_of (ι := {i : Nat // i ≤ l.length ∧ ∀ p ∈ l.take i, 0 ≤ p ∧ p < 6}) (fun i => (fr [(0, aIs k l), (8, aIs k l), (9, .int .i64 l.length), (10, .int .i64 i.1)], [])) (fun i => l.length - i.1) ⟨0, by omega, by simp⟩ (Ent.fr' ⟨(by kernel_rfl), (by kernel_rfl), (by kernel_rfl), (by kernel_rfl), trivial⟩ (by kernel_rfl)) ?_
    rintro ⟨i, hi, hpre⟩
    repeat first | refine opsStep ?_ | refine codeStep ?_ | refine drawStep ?_
    refine decB_dec (fun h => ?_) (fun h => ?_)
    · have hia : i < l.length := by simpa using h
      repeat first | refine opsStep ?_ | refine codeStep ?_ | refine drawStep ?_
      refine guardE_of (by simp; omega) ?_
      repeat first | refine opsStep ?_ | refine codeStep ?_ | refine drawStep ?_
      refine optE_of (c := .int .i64 l[i]) (by simp [Value.cells, hia]) ?_
      repeat first | refine opsStep ?_ | refine codeStep ?_ | refine drawStep ?_
      refine decB_dec (fun h1 => ?_) (fun h1 => ?_)
      · repeat first | refine opsStep ?_ | refine codeStep ?_ | refine drawStep ?_
        exact finV (v' := .int .i64 2) (by kernel_rfl) (by rw [plS, if_pos (.inr ⟨_, List.getElem_mem hia, .inl h1⟩)])
      · repeat first | refine opsStep ?_ | refine codeStep ?_ | refine drawStep ?_
        refine decB_dec (fun h2 => ?_) (fun h2 => ?_)
        · repeat first | refine opsStep ?_ | refine codeStep ?_ | refine drawStep ?_
          exact finV (v' := .int .i64 2) (by kernel_rfl) (by rw [plS, if_pos (.inr ⟨_, List.getElem_mem hia, .inr h2⟩)])
        · repeat first | refine opsStep ?_ | refine codeStep ?_ | refine drawStep ?_
          refine ⟨⟨i + 1, by omega, ?_⟩, (by show l.length - (i + 1) < l.length - i; omega), Ent.fr' ⟨(by kernel_rfl), (by kernel_rfl), (by kernel_rfl), inc_slot (i := i) (by omega), trivial⟩ (by kernel_rfl)⟩
          rw [List.take_succ_eq_append_getElem hia]
          intro p hp
          rcases List.mem_append.1 hp with hp | hp
          · exact hpre p hp
          · rw [List.mem_singleton.1 hp]; omega
    · repeat first | refine opsStep ?_ | refine codeStep ?_ | refine drawStep ?_
      have : i = l.length := by simp at h; omega
      exact finV (v' := .int .i64 0) (by kernel_rfl) (by
        subst this
        rw [List.take_length] at hpre
        rw [plS, if_neg]
        rintro (h | ⟨p, hp, h⟩)
        · have := h6; omega
        · have := hpre p hp; omega)

theorem bits_letters (a n : Nat) (hn : n ≤ 61) : Pure Try.prog 165 [.int .i64 a, .int .i64 n] (.bool (decide (a < 2 ^ n))) := by
  refine Pure.of_sw 13 Try.func165 rfl Try.ntmps165 (by kernel_rfl) (Nat.le_of_ble_eq_true (by kernel_rfl)) (by simp [closeds, AV.closed, aSs_closed, aIs_closed, aBs_closed, aRs_closed, aDen_closed]) (by simp [AV.closed, closeds, aSs_closed, aIs_closed, aBs_closed, aRs_closed, aDen_closed]) ?_; refine SW.of_vc ?_
  have e : IntKind.wrap .i64 (1 * 2 ^ (min (n : Int).toNat 64)) = ((2 ^ n : Nat) : Int) := by
    have : 2 ^ n ≤ 2 ^ 61 := Nat.pow_le_pow_right (by omega) hn
    rw [show min (n : Int).toNat 64 = n by simp; omega, show (1 : Int) * 2 ^ n = ((2 ^ n : Nat) : Int) by simp]
    generalize 2 ^ n = q at *
    exact IntWalk.i64_in _ (by omega)
  repeat first | refine opsStep ?_ | refine codeStep ?_ | refine drawStep ?_
  exact finB (b' := decide ((a : Int) < IntKind.wrap .i64 (1 * 2 ^ (min (n : Int).toNat 64)))) (by kernel_rfl) (by rw [e, decide_eq_decide]; exact Int.ofNat_lt)

theorem and_one (x : Nat) (hx : x < 2^63) : IntKind.wrap .i64 ((BitVec.ofInt 64 (x : Int) &&& BitVec.ofInt 64 1).toNat) = ((x % 2 : Nat) : Int) := by
  have e : (BitVec.ofInt 64 (x : Int) &&& BitVec.ofInt 64 1).toNat = x % 2 := by
    rw [BitVec.toNat_and, BitVec.toNat_ofInt, BitVec.toNat_ofInt]
    rw [show ((x : Int) % ((2 ^ 64 : Nat) : Int)).toNat = x by omega]
    rw [show (((1 : Int)) % ((2 ^ 64 : Nat) : Int)).toNat = 1 by rfl]
    exact Nat.and_one_is_mod x
  rw [e]
  exact IntWalk.i64_in _ (by omega)

theorem bits_Digit (a t : Nat) (ha : a < 2^62) (ht : t ≤ 61) : Pure Try.prog 166 [.int .i64 a, .int .i64 t] (.int .i64 ((a / 2 ^ t % 2 : Nat) : Int)) := by
  refine Pure.of_sw 19 Try.func166 rfl Try.ntmps166 (by kernel_rfl) (Nat.le_of_ble_eq_true (by kernel_rfl)) (by simp [closeds, AV.closed, aSs_closed, aIs_closed, aBs_closed, aRs_closed, aDen_closed]) (by simp [AV.closed, closeds, aSs_closed, aIs_closed, aBs_closed, aRs_closed, aDen_closed]) ?_; refine SW.of_vc ?_
  have e1 : (a : Int).fdiv (2 ^ (min (t : Int).toNat 64)) = ((a / 2 ^ t : Nat) : Int) := by
    rw [show min (t : Int).toNat 64 = t by simp; omega, show (2 : Int) ^ t = ((2 ^ t : Nat) : Int) by simp]
    rw [Int.fdiv_eq_ediv_of_nonneg _ (Int.natCast_nonneg _)]
    rfl
  repeat first | refine opsStep ?_ | refine codeStep ?_ | refine drawStep ?_
  refine decB_dec (fun h => ?_) (fun h => ?_)
  · exact absurd h (by omega)
  · repeat first | refine opsStep ?_ | refine codeStep ?_ | refine drawStep ?_
    exact finV (v' := .int .i64 (IntKind.wrap .i64 ((BitVec.ofInt 64 ((a : Int).fdiv (2 ^ (min (t : Int).toNat 64))) &&& BitVec.ofInt 64 1).toNat))) (by kernel_rfl) (by
      rw [e1, and_one _ (Nat.lt_of_le_of_lt (Nat.div_le_self _ _) (by omega))])

theorem or_shift (x d i : Nat) (hx : x < 2 ^ i) (hd : d ≤ 1) (hi : i ≤ 60) : IntKind.wrap .i64 ((BitVec.ofInt 64 (x : Int) ||| BitVec.ofInt 64 (IntKind.wrap .i64 ((d : Int) * 2 ^ (min (i : Int).toNat 64)))).toNat) = ((x + d * 2 ^ i : Nat) : Int) := by
  have hp : 2 ^ i ≤ 2 ^ 60 := Nat.pow_le_pow_right (by omega) hi
  have hs : IntKind.wrap .i64 ((d : Int) * 2 ^ (min (i : Int).toNat 64)) = ((d * 2 ^ i : Nat) : Int) := by
    rw [show min (i : Int).toNat 64 = i by simp; omega, show (d : Int) * 2 ^ i = ((d * 2 ^ i : Nat) : Int) by simp]
    have : d * 2 ^ i ≤ 1 * 2 ^ i := Nat.mul_le_mul_right _ hd
    generalize d * 2 ^ i = q at *
    exact IntWalk.i64_in _ (by omega)
  have hd2 : d * 2 ^ i ≤ 1 * 2 ^ i := Nat.mul_le_mul_right _ hd
  have e : (BitVec.ofInt 64 (x : Int) ||| BitVec.ofInt 64 ((d * 2 ^ i : Nat) : Int)).toNat = x + d * 2 ^ i := by
    rw [BitVec.toNat_or, BitVec.toNat_ofInt, BitVec.toNat_ofInt]
    rw [show ((x : Int) % ((2 ^ 64 : Nat) : Int)).toNat = x by omega]
    rw [show (((d * 2 ^ i : Nat) : Int) % ((2 ^ 64 : Nat) : Int)).toNat = d * 2 ^ i by omega]
    rw [Nat.or_comm, Nat.mul_comm d, ← Nat.two_pow_add_eq_or_of_lt hx]
    omega
  rw [hs, e]
  exact IntWalk.i64_in _ (by omega)

/-- The letter made of the digits of a at these places. -/
def gatN (a : Nat) : List Nat → Nat
  | [] => 0
  | p :: l => a / 2 ^ p % 2 + 2 * gatN a l

theorem gatN_snoc (a : Nat) : ∀ (l : List Nat) (p : Nat), gatN a (l ++ [p]) = gatN a l + (a / 2 ^ p % 2) * 2 ^ l.length
  | [], p => by simp [gatN]
  | q :: l, p => by
    simp only [List.cons_append, gatN, gatN_snoc a l p, List.length_cons, Nat.pow_succ]
    rw [Nat.mul_add, Nat.mul_comm (2 ^ l.length) 2, ← Nat.mul_assoc, ← Nat.mul_assoc, Nat.mul_comm 2 (a / 2 ^ p % 2)]
    omega
theorem gatN_lt (a : Nat) : ∀ (l : List Nat), gatN a l < 2 ^ l.length
  | [] => by simp [gatN]
  | q :: l => by
    have := gatN_lt a l
    simp only [gatN, List.length_cons, Nat.pow_succ]
    omega

theorem bits_Gather (k : SK) (a : Nat) (l : List Nat) (ha : a < 64) (hl : l.length ≤ 6) (hp : ∀ p ∈ l, p < 6) : Pure Try.prog 141 [.int .i64 a, aIs k (l.map fun p : Nat => (p : Int))] (.tup [.int .i64 (gatN a l : Nat), .int .i64 0]) := by
  have hpl : plS (l.map fun p : Nat => (p : Int)) = 0 := by
    rw [plS, if_neg]
    rintro (h | ⟨p, hm, h⟩)
    · simp at h; omega
    · obtain ⟨q, hq, rfl⟩ := List.mem_map.1 hm
      have := hp q hq; omega
  have hlet := bits_letters a 6 (by omega)
  rw [decide_eq_true (show a < 2 ^ 6 by omega)] at hlet
  have hpc := bits_places k (l.map fun p : Nat => (p : Int)) (by simp; omega)
  rw [hpl] at hpc
  refine Pure.of_sw 33 Try.func141 rfl Try.ntmps141 (by kernel_rfl) (Nat.le_of_ble_eq_true (by kernel_rfl)) (by simp [closeds, AV.closed, aSs_closed, aIs_closed, aBs_closed, aRs_closed, aDen_closed]) (by simp [AV.closed, closeds, aSs_closed, aIs_closed, aBs_closed, aRs_closed, aDen_closed]) ?_; refine SW.of_vc ?_
  repeat first | refine opsStep ?_ | refine codeStep ?_ | refine drawStep ?_
  refine callP hpc ?_
  repeat first | refine opsStep ?_ | refine codeStep ?_ | refine drawStep ?_
  refine callP hlet ?_
  repeat first | refine opsStep ?_ | refine codeStep ?_ | refine drawStep ?_
  refine loopE_of (ι := {i : Nat // i ≤ l.length}) (fun i => (fr [(0, .int .i64 a), (1, aIs k (l.map fun p : Nat => (p : Int))), (6, .int .i64 (gatN a (l.take i.1) : Nat)), (17, aIs k (l.map fun p : Nat => (p : Int))), (18, .int .i64 l.length), (19, .int .i64 i.1)], [])) (fun i => l.length - i.1) ⟨0, by omega⟩
    (Ent.fr' ⟨(by kernel_rfl), (by kernel_rfl), (by kernel_rfl), (by kernel_rfl), (congrArg (fun n : Nat => AV.int .i64 n) (List.length_map _) : _), (by kernel_rfl), trivial⟩ (by kernel_rfl)) ?_
  rintro ⟨i, hi⟩
  repeat first | refine opsStep ?_ | refine codeStep ?_ | refine drawStep ?_
  refine decB_dec (fun h => ?_) (fun h => ?_)
  · have hia : i < l.length := by simpa using h
    have hpi := hp _ (List.getElem_mem hia)
    repeat first | refine opsStep ?_ | refine codeStep ?_ | refine drawStep ?_
    refine guardE_of (by simp; omega) ?_
    repeat first | refine opsStep ?_ | refine codeStep ?_ | refine drawStep ?_
    refine optE_of (c := .int .i64 ((l[i] : Nat) : Int)) (by simp [Value.cells, hia]) ?_
    repeat first | refine opsStep ?_ | refine codeStep ?_ | refine drawStep ?_
    refine callP (bits_Digit a l[i] (by omega) (by omega)) ?_
    repeat first | refine opsStep ?_ | refine codeStep ?_ | refine drawStep ?_
    have hgl := gatN_lt a (l.take i)
    rw [List.length_take, Nat.min_eq_left hi] at hgl
    refine ⟨⟨i + 1, by omega⟩, (by show l.length - (i + 1) < l.length - i; omega), Ent.fr' ⟨(by kernel_rfl), (by kernel_rfl), ?_, (by kernel_rfl), (by kernel_rfl), inc_slot (i := i) (by omega), trivial⟩ (by kernel_rfl)⟩
    have := or_shift (gatN a (l.take i)) (a / 2 ^ l[i] % 2) i hgl (by omega) (by omega)
    have e3 : gatN a (l.take (i + 1)) = gatN a (l.take i) + a / 2 ^ l[i] % 2 * 2 ^ i := by
      rw [List.take_succ_eq_append_getElem hia, gatN_snoc, List.length_take, Nat.min_eq_left hi]
    exact congrArg (AV.int .i64) (this.trans (congrArg (fun n : Nat => (n : Int)) e3.symm))
  · repeat first | refine opsStep ?_ | refine codeStep ?_ | refine drawStep ?_
    have : i = l.length := by simp at h; omega
    subst this
    exact finV (v' := .tup [.int .i64 (gatN a (l.take l.length) : Nat), .int .i64 0]) (by kernel_rfl) (by rw [List.take_length])

end Tab

/- Copies; least and greatest of a row. -/
namespace Tab
open Go Go.Proofs
set_option maxRecDepth 10000
set_option linter.unusedVariables false
set_option linter.unusedSimpArgs false
set_option linter.unusedSectionVars false

theorem slices_Clone_S (k : SK) (l : List (List UInt8)) (hl : l.length * 16 ≤ 140737488355328) : Pure Try.prog 64 [aSs k l] (aSs .any l) := by
  refine Pure.anyK (fun h0 _ => ?_) ?_
  · have : l = [] := List.length_eq_zero_iff.1 (by simpa using h0)
    subst this
    refine Pure.of_sw 8 Try.func64 rfl Try.ntmps64 (by kernel_rfl) (Nat.le_of_ble_eq_true (by kernel_rfl)) (by simp [closeds, AV.closed, aSs_closed, aIs_closed, aBs_closed, aRs_closed, aDen_closed]) (by simp [AV.closed, closeds, aSs_closed, aIs_closed, aBs_closed, aRs_closed, aDen_closed]) ?_; refine SW.of_vc ?_
    repeat first | refine opsStep ?_ | refine codeStep ?_ | refine drawStep ?_
    exact finTo 2 (x := .sl .nil 0 []) (by kernel_rfl) (fun _ _ _ _ h => sl_any h) (by kernel_rfl)
  · refine (?_ : Pure Try.prog _ [aSs .nn l] _)
    refine Pure.of_sw 8 Try.func64 rfl Try.ntmps64 (by kernel_rfl) (Nat.le_of_ble_eq_true (by kernel_rfl)) (by simp [closeds, AV.closed, aSs_closed, aIs_closed, aBs_closed, aRs_closed, aDen_closed]) (by simp [AV.closed, closeds, aSs_closed, aIs_closed, aBs_closed, aRs_closed, aDen_closed]) ?_; refine SW.of_vc ?_
    repeat first | refine opsStep ?_ | refine codeStep ?_ | refine drawStep ?_
    refine guardE_of (by simp [Value.cells]) ?_
    refine guardE_of ⟨by omega, by show (0 + l.length) * 16 ≤ 140737488355328; omega⟩ ?_
    repeat first | refine opsStep ?_ | refine codeStep ?_ | refine drawStep ?_
    exact finFrz 2 (b := 0) (g := 1) (es := 1) (Eq.trans (b := .hs 0 1 0 (0 + l.length) 1) (by kernel_rfl) (by rw [Nat.zero_add])) (by kernel_rfl) (by simp) (by kernel_rfl)

theorem slices_Clone_B (k : SK) (l : List Bool) (hl : l.length * 1 ≤ 140737488355328) : Pure Try.prog 75 [aBs k l] (aBs .any l) := by
  refine Pure.anyK (fun h0 _ => ?_) ?_
  · have : l = [] := List.length_eq_zero_iff.1 (by simpa using h0)
    subst this
    refine Pure.of_sw 8 Try.func75 rfl Try.ntmps75 (by kernel_rfl) (Nat.le_of_ble_eq_true (by kernel_rfl)) (by simp [closeds, AV.closed, aSs_closed, aIs_closed, aBs_closed, aRs_closed, aDen_closed]) (by simp [AV.closed, closeds, aSs_closed, aIs_closed, aBs_closed, aRs_closed, aDen_closed]) ?_; refine SW.of_vc ?_
    repeat first | refine opsStep ?_ | refine codeStep ?_ | refine drawStep ?_
    exact finTo 2 (x := .sl .nil 0 []) (by kernel_rfl) (fun _ _ _ _ h => sl_any h) (by kernel_rfl)
  · refine (?_ : Pure Try.prog _ [aBs .nn l] _)
    refine Pure.of_sw 8 Try.func75 rfl Try.ntmps75 (by kernel_rfl) (Nat.le_of_ble_eq_true (by kernel_rfl)) (by simp [closeds, AV.closed, aSs_closed, aIs_closed, aBs_closed, aRs_closed, aDen_closed]) (by simp [AV.closed, closeds, aSs_closed, aIs_closed, aBs_closed, aRs_closed, aDen_closed]) ?_; refine SW.of_vc ?_
    repeat first | refine opsStep ?_ | refine codeStep ?_ | refine drawStep ?_
    refine guardE_of (by simp [Value.cells]) ?_
    refine guardE_of ⟨by omega, by show (0 + l.length) * 1 ≤ 140737488355328; omega⟩ ?_
    repeat first | refine opsStep ?_ | refine codeStep ?_ | refine drawStep ?_
    exact finFrz 2 (b := 0) (g := 1) (es := 1) (Eq.trans (b := .hs 0 1 0 (0 + l.length) 1) (by kernel_rfl) (by rw [Nat.zero_add])) (by kernel_rfl) (by simp) (by kernel_rfl)

theorem slices_Clone_S_new (k : SK) (l : List (List UInt8)) (hl : l.length * 16 ≤ 140737488355328) : PureNew Try.prog 64 [aSs k l] l.length 1 (l.map .str) := by
  refine ⟨by simp [closeds, aSs_closed], by simp only [closeds_iff, List.mem_map]; rintro _ ⟨_, _, rfl⟩; simp [AV.closed], ACall.anyK (fun h0 _ => ?_) (?_ : ACall Try.prog _ [aSs .nn l] _ _)⟩
  · have : l = [] := List.length_eq_zero_iff.1 (by simpa using h0)
    subst this
    refine ACall.of_sw 8 Try.func64 rfl Try.ntmps64 (by kernel_rfl) (Nat.le_of_ble_eq_true (by kernel_rfl)) ?_; refine SW.of_vc ?_
    repeat first | refine opsStep ?_ | refine codeStep ?_ | refine drawStep ?_
    refine finR (l := [(2, .sl .nil 0 [])]) (H₁ := []) (v := .hs 0 0 0 0 1) ⟨(by kernel_rfl), trivial⟩ (by kernel_rfl) (Ent.nil 2 1 rfl) (by kernel_rfl) ?_
    exact ⟨0, rfl, rfl⟩
  · refine ACall.of_sw 8 Try.func64 rfl Try.ntmps64 (by kernel_rfl) (Nat.le_of_ble_eq_true (by kernel_rfl)) ?_; refine SW.of_vc ?_
    repeat first | refine opsStep ?_ | refine codeStep ?_ | refine drawStep ?_
    refine guardE_of (by simp [Value.cells]) ?_
    refine guardE_of ⟨by omega, by show (0 + l.length) * 16 ≤ 140737488355328; omega⟩ ?_
    repeat first | refine opsStep ?_ | refine codeStep ?_ | refine drawStep ?_
    refine finR (l := [(2, .hs 0 1 0 (0 + l.length) 1)]) (H₁ := [.cells 1 (l.map .str)]) (v := .hs 0 1 0 (0 + l.length) 1) ⟨(by kernel_rfl), trivial⟩ (by kernel_rfl) (Ent.refl _ _ _) (by kernel_rfl) ?_
    exact ⟨1, by rw [Nat.zero_add], rfl⟩

theorem slices_Clone_B_new (k : SK) (l : List Bool) (hl : l.length * 1 ≤ 140737488355328) : PureNew Try.prog 75 [aBs k l] l.length 1 (l.map .bool) := by
  refine ⟨by simp [closeds, aBs_closed], by simp only [closeds_iff, List.mem_map]; rintro _ ⟨_, _, rfl⟩; simp [AV.closed], ACall.anyK (fun h0 _ => ?_) (?_ : ACall Try.prog _ [aBs .nn l] _ _)⟩
  · have : l = [] := List.length_eq_zero_iff.1 (by simpa using h0)
    subst this
    refine ACall.of_sw 8 Try.func75 rfl Try.ntmps75 (by kernel_rfl) (Nat.le_of_ble_eq_true (by kernel_rfl)) ?_; refine SW.of_vc ?_
    repeat first | refine opsStep ?_ | refine codeStep ?_ | refine drawStep ?_
    refine finR (l := [(2, .sl .nil 0 [])]) (H₁ := []) (v := .hs 0 0 0 0 1) ⟨(by kernel_rfl), trivial⟩ (by kernel_rfl) (Ent.nil 2 1 rfl) (by kernel_rfl) ?_
    exact ⟨0, rfl, rfl⟩
  · refine ACall.of_sw 8 Try.func75 rfl Try.ntmps75 (by kernel_rfl) (Nat.le_of_ble_eq_true (by kernel_rfl)) ?_; refine SW.of_vc ?_
    repeat first | refine opsStep ?_ | refine codeStep ?_ | refine drawStep ?_
    refine guardE_of (by simp [Value.cells]) ?_
    refine guardE_of ⟨by omega, by show (0 + l.length) * 1 ≤ 140737488355328; omega⟩ ?_
    repeat first | refine opsStep ?_ | refine codeStep ?_ | refine drawStep ?_
    refine finR (l := [(2, .hs 0 1 0 (0 + l.length) 1)]) (H₁ := [.cells 1 (l.map .bool)]) (v := .hs 0 1 0 (0 + l.length) 1) ⟨(by kernel_rfl), trivial⟩ (by kernel_rfl) (Ent.refl _ _ _) (by kernel_rfl) ?_
    exact ⟨1, by rw [Nat.zero_add], rfl⟩

def minL : Int → List Int → Int
  | m, [] => m
  | m, x :: l => minL (if x < m then x else m) l
theorem minL_snoc : ∀ (l : List Int) (m x : Int), minL m (l ++ [x]) = if x < minL m l then x else minL m l
  | [], _, _ => rfl
  | y :: l, m, x => minL_snoc l _ x

theorem slices_Min (k : SK) (a : Int) (l : List Int) (hl : l.length < 2^60) : Pure Try.prog 138 [aIs k (a :: l)] (.int .i64 (minL a l)) := by
  refine Pure.of_sw 25 Try.func138 rfl Try.ntmps138 (by kernel_rfl) (Nat.le_of_ble_eq_true (by kernel_rfl)) (by simp [closeds, AV.closed, aSs_closed, aIs_closed, aBs_closed, aRs_closed, aDen_closed]) (by simp [AV.closed, closeds, aSs_closed, aIs_closed, aBs_closed, aRs_closed, aDen_closed]) ?_; refine SW.of_vc ?_
  repeat first | refine opsStep ?_ | refine codeStep ?_ | refine drawStep ?_
  refine guardE_of (by simp) ?_
  repeat first | refine opsStep ?_ | refine codeStep ?_ | refine drawStep ?_
  refine loopE_of (ι := {i : Nat // i ≤ l.length}) (fun i => (fr [(0, aIs k (a :: l)), (3, .int .i64 (minL a (l.take i.1))), (4, .int .i64 ((i.1 + 1 : Nat) : Int))], [])) (fun i => l.length - i.1) ⟨0, by omega⟩ (Ent.fr' ⟨(by kernel_rfl), (by kernel_rfl), (by kernel_rfl), trivial⟩ (by kernel_rfl)) ?_
  rintro ⟨i, hi⟩
  repeat first | refine opsStep ?_ | refine codeStep ?_ | refine drawStep ?_
  refine decB_dec (fun h => ?_) (fun h => ?_)
  · have hia : i < l.length := by have := h; simp at this; omega
    repeat first | refine opsStep ?_ | refine codeStep ?_ | refine drawStep ?_
    refine guardE_of (by simp; omega) ?_
    repeat first | refine opsStep ?_ | refine codeStep ?_ | refine drawStep ?_
    refine optE_of (c := .int .i64 l[i]) (by simp [Value.cells, hia]) ?_
    repeat first | refine opsStep ?_ | refine codeStep ?_ | refine drawStep ?_
    refine ⟨⟨i + 1, by omega⟩, (by show l.length - (i + 1) < l.length - i; omega), Ent.fr' ⟨(by kernel_rfl), ?_, inc_slot (i := i + 1) (by omega), trivial⟩ (by kernel_rfl)⟩
    rw [List.take_succ_eq_append_getElem hia, minL_snoc]
    kernel_rfl
  · repeat first | refine opsStep ?_ | refine codeStep ?_ | refine drawStep ?_
    have : i = l.length := by have := h; simp at this; omega
    subst this
    exact finV (v' := .int .i64 (minL a (l.take l.length))) (by kernel_rfl) (by rw [List.take_length])

def maxL : Int → List Int → Int
  | m, [] => m
  | m, x :: l => maxL (if x > m then x else m) l
theorem maxL_snoc : ∀ (l : List Int) (m x : Int), maxL m (l ++ [x]) = if x > maxL m l then x else maxL m l
  | [], _, _ => rfl
  | y :: l, m, x => maxL_snoc l _ x

theorem slices_Max (k : SK) (a : Int) (l : List Int) (hl : l.length < 2^60) : Pure Try.prog 139 [aIs k (a :: l)] (.int .i64 (maxL a l)) := by
  refine Pure.of_sw 25 Try.func139 rfl Try.ntmps139 (by kernel_rfl) (Nat.le_of_ble_eq_true (by kernel_rfl)) (by simp [closeds, AV.closed, aSs_closed, aIs_closed, aBs_closed, aRs_closed, aDen_closed]) (by simp [AV.closed, closeds, aSs_closed, aIs_closed, aBs_closed, aRs_closed, aDen_closed]) ?_; refine SW.of_vc ?_
  repeat first | refine opsStep ?_ | refine codeStep ?_ | refine drawStep ?_
  refine guardE_of (by simp) ?_
  repeat first | refine opsStep ?_ | refine codeStep ?_ | refine drawStep ?_
  refine loopE_of (ι := {i : Nat // i ≤ l.length}) (fun i => (fr [(0, aIs k (a :: l)), (3, .int .i64 (maxL a (l.take i.1))), (4, .int .i64 ((i.1 + 1 : Nat) : Int))], [])) (fun i => l.length - i.1) ⟨0, by omega⟩ (Ent.fr' ⟨(by kernel_rfl), (by kernel_rfl), (by kernel_rfl), trivial⟩ (by kernel_rfl)) ?_
  rintro ⟨i, hi⟩
  repeat first | refine opsStep ?_ | refine codeStep ?_ | refine drawStep ?_
  refine decB_dec (fun h => ?_) (fun h => ?_)
  · have hia : i < l.length := by have := h; simp at this; omega
    repeat first | refine opsStep ?_ | refine codeStep ?_ | refine drawStep ?_
    refine guardE_of (by simp; omega) ?_
    repeat first | refine opsStep ?_ | refine codeStep ?_ | refine drawStep ?_
    refine optE_of (c := .int .i64 l[i]) (by simp [Value.cells, hia]) ?_
    repeat first | refine opsStep ?_ | refine codeStep ?_ | refine drawStep ?_
    refine ⟨⟨i + 1, by omega⟩, (by show l.length - (i + 1) < l.length - i; omega), Ent.fr' ⟨(by kernel_rfl), ?_, inc_slot (i := i + 1) (by omega), trivial⟩ (by kernel_rfl)⟩
    rw [List.take_succ_eq_append_getElem hia, maxL_snoc]
    kernel_rfl
  · repeat first | refine opsStep ?_ | refine codeStep ?_ | refine drawStep ?_
    have : i = l.length := by have := h; simp at this; omega
    subst this
    exact finV (v' := .int .i64 (maxL a (l.take l.length))) (by kernel_rfl) (by rw [List.take_length])


end Tab

/- Machines: which are right, copies, comparing. -/
namespace Tab
open Go Go.Proofs
set_option maxRecDepth 10000
set_option linter.unusedVariables false
set_option linter.unusedSimpArgs false
set_option linter.unusedSectionVars false

structure DenOk (d : Den) : Prop where
  tracks : d.tracks.length * 16 ≤ 140737488351232
  names : ∀ s ∈ d.tracks, s.length ≤ 140737488351232
  accept : d.accept.length ≤ 140737488351232
  next : d.next.length * 24 ≤ 140737488351232
  rows : ∀ r ∈ d.next, r.2.length * 8 ≤ 140737488351232

def rowOk (k n : Nat) (r : List Int) : Bool := decide (r.length = 2 ^ k) && r.all fun x => decide (0 ≤ x) && decide (x < n)
def rightS (d : Den) : Bool := tracksS d.tracks d.accept.length && decide (d.next.length = d.accept.length) && d.next.all fun r => rowOk d.tracks.length d.accept.length r.2

theorem minL_lt : ∀ (l : List Int) (a : Int), minL a l < 0 ↔ ∃ x ∈ a :: l, x < 0
  | [], a => by simp [minL]
  | y :: l, a => by
    rw [minL, minL_lt l]
    simp only [List.mem_cons, exists_eq_or_imp]
    split
    · rename_i h
      constructor
      · rintro (h | h)
        · exact .inr (.inl h)
        · exact .inr (.inr h)
      · rintro (h' | h' | h')
        · exact .inl (by omega)
        · exact .inl h'
        · exact .inr h'
    · rename_i h
      constructor
      · rintro (h | h)
        · exact .inl h
        · exact .inr (.inr h)
      · rintro (h' | h' | h')
        · exact .inl h'
        · exact .inl (by omega)
        · exact .inr h'
theorem maxL_ge (n : Int) : ∀ (l : List Int) (a : Int), n ≤ maxL a l ↔ ∃ x ∈ a :: l, n ≤ x
  | [], a => by simp [maxL]
  | y :: l, a => by
    rw [maxL, maxL_ge n l]
    simp only [List.mem_cons, exists_eq_or_imp]
    split
    · rename_i h
      constructor
      · rintro (h | h)
        · exact .inr (.inl h)
        · exact .inr (.inr h)
      · rintro (h' | h' | h')
        · exact .inl (by omega)
        · exact .inl h'
        · exact .inr h'
    · rename_i h
      constructor
      · rintro (h | h)
        · exact .inl h
        · exact .inr (.inr h)
      · rintro (h' | h' | h')
        · exact .inl h'
        · exact .inl (by omega)
        · exact .inr h'

theorem rightS_bad {d : Den} {i : Nat} (hi : i < d.next.length) (h : rowOk d.tracks.length d.accept.length (d.next[i]).2 = false) : rightS d = false := by
  rw [rightS, ← Bool.not_eq_true, Bool.and_eq_true, List.all_eq_true]
  rintro ⟨_, k⟩
  have := k _ (List.getElem_mem hi)
  simp [h] at this

theorem tracksS_le {l : List (List UInt8)} {n : Int} (h : tracksS l n = true) : l.length ≤ 6 := by
  simp only [tracksS, Bool.and_eq_true, decide_eq_true_eq] at h
  exact h.1.1.1

theorem tracksS_parts {l : List (List UInt8)} {n : Int} (h : tracksS l n = true) : l.length ≤ 6 ∧ risesS l = true ∧ 1 ≤ n ∧ n ≤ 256 := by
  simp only [tracksS, Bool.and_eq_true, decide_eq_true_eq] at h
  exact ⟨h.1.1.1, h.1.1.2, h.1.2, h.2⟩
theorem tracksS_mk {l : List (List UInt8)} {n : Int} (h1 : l.length ≤ 6) (h2 : risesS l = true) (h3 : 1 ≤ n) (h4 : n ≤ 256) : tracksS l n = true := by
  simp [tracksS, h1, h2, h3, h4]

theorem shl_one {k : Nat} (hk : k ≤ 60) : IntKind.wrap .i64 (1 * 2 ^ (min (k : Int).toNat (IntKind.bits .i64))) = ((2 ^ k : Nat) : Int) := by
  show IntKind.wrap .i64 (1 * 2 ^ (min (k : Int).toNat 64)) = ((2 ^ k : Nat) : Int)
  have : 2 ^ k ≤ 2 ^ 60 := Nat.pow_le_pow_right (by omega) hk
  rw [show min (k : Int).toNat 64 = k by simp; omega, show (1 : Int) * 2 ^ k = ((2 ^ k : Nat) : Int) by simp]
  generalize 2 ^ k = q at *
  exact IntWalk.i64_in _ (by omega)

@[irreducible] def rightE (d : Den) : Int := if rightS d = true then 0 else 3
theorem rightE_ok {d : Den} (h : rightS d = true) : rightE d = 0 := by rw [rightE, if_pos h]
theorem rightE_bad {d : Den} (h : rightS d = false) : rightE d = 3 := by rw [rightE, h]; rfl

theorem table_Right (d : Den) (hd : DenOk d) : Pure Try.prog 103 [aDen d] (.int .i64 (rightE d)) := by
  have h1 := hd.tracks
  have h2 := hd.accept
  have h3 := hd.next
  refine Pure.of_sw 47 Try.func103 rfl Try.ntmps103 (by kernel_rfl) (Nat.le_of_ble_eq_true (by kernel_rfl)) (by simp [closeds, AV.closed, aSs_closed, aIs_closed, aBs_closed, aRs_closed, aDen_closed]) (by simp [AV.closed, closeds, aSs_closed, aIs_closed, aBs_closed, aRs_closed, aDen_closed]) ?_; refine SW.of_vc ?_
  repeat first | refine opsStep ?_ | refine codeStep ?_ | refine drawStep ?_
  refine callP (table_tracks d.tk d.tracks d.accept.length (by omega) (fun s hs => by have := hd.names s hs; omega)) ?_
  repeat first | refine opsStep ?_ | refine codeStep ?_ | refine drawStep ?_
  refine decB_split (fun h => ?_) (fun h => ?_)
  · repeat first | refine opsStep ?_ | refine codeStep ?_ | refine drawStep ?_
    have ht : tracksS d.tracks d.accept.length = false := by simpa using h
    exact finV (v' := .int .i64 3) (by kernel_rfl) (by rw [rightE_bad (by rw [rightS, ht]; simp)])
  · repeat first | refine opsStep ?_ | refine codeStep ?_ | refine drawStep ?_
    have ht : tracksS d.tracks d.accept.length = true := by simpa using h
    have hk := tracksS_le ht
    have hpow : 2 ^ d.tracks.length ≤ 2 ^ 6 := Nat.pow_le_pow_right (by omega) hk
    refine decB_dec (fun hn => ?_) (fun hn => ?_)
    · repeat first | refine opsStep ?_ | refine codeStep ?_ | refine drawStep ?_
      exact finV (v' := .int .i64 3) (by kernel_rfl) (by rw [rightE_bad (by rw [rightS, decide_eq_false (show ¬ d.next.length = d.accept.length by have := hn; omega)]; simp)])
    · repeat first | refine opsStep ?_ | refine codeStep ?_ | refine drawStep ?_
      have hn' : d.next.length = d.accept.length := by have := hn; omega
      refine loopE_of (ι := {i : Nat // i ≤ d.next.length ∧ ∀ r ∈ d.next.take i, rowOk d.tracks.length d.accept.length r.2 = true})
        (fun i => (fr [(1, .ref 0 0 0), (3, .int .i64 d.accept.length), (22, aRs d.nk d.next), (23, .int .i64 d.next.length), (24, .int .i64 i.1)], [.cells 0 d.cells])) (fun i => d.next.length - i.1) ⟨0, by omega, by simp⟩ (Ent.fr' ⟨(by kernel_rfl), (by kernel_rfl), (by kernel_rfl), (by kernel_rfl), (by kernel_rfl), trivial⟩ (by kernel_rfl)) ?_
      rintro ⟨i, hi, hpre⟩
      repeat first | refine opsStep ?_ | refine codeStep ?_ | refine drawStep ?_
      refine decB_dec (fun h => ?_) (fun h => ?_)
      · have hia : i < d.next.length := by simpa using h
        have hbad : rowOk d.tracks.length d.accept.length (d.next[i]).2 = false → rightE d = 3 := fun e => rightE_bad (rightS_bad hia e)
        repeat first | refine opsStep ?_ | refine codeStep ?_ | refine drawStep ?_
        refine guardE_of (by simp; omega) ?_
        repeat first | refine opsStep ?_ | refine codeStep ?_ | refine drawStep ?_
        refine optE_of (c := aIs (d.next[i]).1 (d.next[i]).2) (by simp [Value.cells, hia]) ?_
        have hsh := shl_one (k := d.tracks.length) (by omega)
        repeat first | refine opsStep ?_ | refine codeStep ?_ | refine drawStep ?_
        refine decB_dec (fun hlen => ?_) (fun hlen => ?_)
        · repeat first | refine opsStep ?_ | refine codeStep ?_ | refine drawStep ?_
          exact finV (v' := .int .i64 3) (by kernel_rfl) (by
            rw [hbad (by rw [rowOk, decide_eq_false (fun e => hlen (by rw [hsh, ← e])), Bool.false_and])])
        · have hlen' : (d.next[i]).2.length = 2 ^ d.tracks.length := by
            have h5 := Decidable.of_not_not hlen
            rw [hsh] at h5
            exact Int.ofNat_inj.1 h5
          obtain ⟨a, l, hr⟩ : ∃ a l, (d.next[i]).2 = a :: l := by
            cases e : (d.next[i]).2 with
            | nil => rw [e] at hlen'; simp at hlen'; have := Nat.two_pow_pos d.tracks.length; omega
            | cons a l => exact ⟨a, l, rfl⟩
          have hll : l.length < 2 ^ 60 := by rw [hr] at hlen'; simp at hlen'; omega
          have hmin := slices_Min (d.next[i]).1 a l hll
          have hmax := slices_Max (d.next[i]).1 a l hll
          rw [← hr] at hmin hmax
          have hbad2 : ∀ x ∈ (d.next[i]).2, ¬ (0 ≤ x ∧ x < d.accept.length) → rowOk d.tracks.length d.accept.length (d.next[i]).2 = false := fun x hx hn => by
            rw [rowOk, ← Bool.not_eq_true, Bool.and_eq_true, List.all_eq_true]
            rintro ⟨_, k⟩
            have := k x hx
            simp at this
            exact hn this
          repeat first | refine opsStep ?_ | refine codeStep ?_ | refine drawStep ?_
          refine callP hmin ?_
          repeat first | refine opsStep ?_ | refine codeStep ?_ | refine drawStep ?_
          refine decB_dec (fun hmn => ?_) (fun hmn => ?_)
          · repeat first | refine opsStep ?_ | refine codeStep ?_ | refine drawStep ?_
            exact finV (v' := .int .i64 3) (by kernel_rfl) (by
              obtain ⟨x, hx, h0⟩ := (minL_lt l a).1 hmn
              rw [hbad (hbad2 x (by rw [hr]; exact hx) (by omega))])
          · repeat first | refine opsStep ?_ | refine codeStep ?_ | refine drawStep ?_
            refine callP hmax ?_
            repeat first | refine opsStep ?_ | refine codeStep ?_ | refine drawStep ?_
            refine decB_dec (fun hmx => ?_) (fun hmx => ?_)
            · repeat first | refine opsStep ?_ | refine codeStep ?_ | refine drawStep ?_
              exact finV (v' := .int .i64 3) (by kernel_rfl) (by
                obtain ⟨x, hx, h0⟩ := (maxL_ge _ l a).1 hmx
                rw [hbad (hbad2 x (by rw [hr]; exact hx) (by omega))])
            · repeat first | refine opsStep ?_ | refine codeStep ?_ | refine drawStep ?_
              have hok : rowOk d.tracks.length d.accept.length (d.next[i]).2 = true := by
                rw [rowOk, decide_eq_true hlen', Bool.true_and, List.all_eq_true]
                intro x hx
                rw [hr] at hx
                have c1 : ¬ x < 0 := fun k => hmn ((minL_lt l a).2 ⟨x, hx, k⟩)
                have c2 : ¬ (d.accept.length : Int) ≤ x := fun k => hmx ((maxL_ge _ l a).2 ⟨x, hx, k⟩)
                simp
                omega
              refine ⟨⟨i + 1, by omega, ?_⟩, (by show d.next.length - (i + 1) < d.next.length - i; omega), Ent.fr' ⟨(by kernel_rfl), (by kernel_rfl), (by kernel_rfl), (by kernel_rfl), inc_slot (i := i) (by omega), trivial⟩ (by kernel_rfl)⟩
              rw [List.take_succ_eq_append_getElem hia]
              intro r hr'
              rcases List.mem_append.1 hr' with hr' | hr'
              · exact hpre r hr'
              · rw [List.mem_singleton.1 hr']; exact hok
      · repeat first | refine opsStep ?_ | refine codeStep ?_ | refine drawStep ?_
        have : i = d.next.length := by simp at h; omega
        exact finV (v' := .int .i64 0) (by kernel_rfl) (by
          subst this
          rw [List.take_length] at hpre
          rw [rightE_ok (by rw [rightS, ht, decide_eq_true hn', List.all_eq_true.2 hpre]; simp)])

theorem r12_Right (d : Den) (hd : DenOk d) : Pure Try.prog 68 [aDen d] (.bool (rightS d)) := by
  have h1 := hd.tracks
  have h2 := hd.accept
  have h3 := hd.next
  refine Pure.of_sw 68 Try.func68 rfl Try.ntmps68 (by kernel_rfl) (Nat.le_of_ble_eq_true (by kernel_rfl)) (by simp [closeds, AV.closed, aSs_closed, aIs_closed, aBs_closed, aRs_closed, aDen_closed]) (by simp [AV.closed, closeds, aSs_closed, aIs_closed, aBs_closed, aRs_closed, aDen_closed]) ?_; refine SW.of_vc ?_
  repeat first | refine opsStep ?_ | refine codeStep ?_ | refine drawStep ?_
  refine callP (r12_Frame d.tk d.tracks d.accept.length (by omega) (fun s hs => by have := hd.names s hs; omega)) ?_
  repeat first | refine opsStep ?_ | refine codeStep ?_ | refine drawStep ?_
  refine decB_split (fun h => ?_) (fun h => ?_)
  · repeat first | refine opsStep ?_ | refine codeStep ?_ | refine drawStep ?_
    have ht : tracksS d.tracks d.accept.length = false := by simpa using h
    exact finB (b' := false) (by kernel_rfl) (by rw [rightS, ht]; simp)
  · repeat first | refine opsStep ?_ | refine codeStep ?_ | refine drawStep ?_
    have ht : tracksS d.tracks d.accept.length = true := by simpa using h
    have hk := tracksS_le ht
    have hpow : 2 ^ d.tracks.length ≤ 2 ^ 6 := Nat.pow_le_pow_right (by omega) hk
    refine decB_dec (fun hn => ?_) (fun hn => ?_)
    · repeat first | refine opsStep ?_ | refine codeStep ?_ | refine drawStep ?_
      exact finB (b' := false) (by kernel_rfl) (by rw [rightS, decide_eq_false (show ¬ d.next.length = d.accept.length by have := hn; omega)]; simp)
    · repeat first | refine opsStep ?_ | refine codeStep ?_ | refine drawStep ?_
      have hn' : d.next.length = d.accept.length := by have := hn; omega
      refine loopE_of (ι := {i : Nat // i ≤ d.next.length ∧ ∀ r ∈ d.next.take i, rowOk d.tracks.length d.accept.length r.2 = true})
        (fun i => (fr [(1, .ref 0 0 0), (3, .int .i64 d.accept.length), (4, .int .i64 i.1)], [.cells 0 d.cells])) (fun i => d.next.length - i.1) ⟨0, by omega, by simp⟩ (Ent.fr' ⟨(by kernel_rfl), (by kernel_rfl), (by kernel_rfl), trivial⟩ (by kernel_rfl)) ?_
      rintro ⟨i, hi, hpre⟩
      repeat first | refine opsStep ?_ | refine codeStep ?_ | refine drawStep ?_
      refine decB_dec (fun h => ?_) (fun h => ?_)
      · have hia : i < d.next.length := by have := h; simp at this; omega
        have hrow := hd.rows _ (List.getElem_mem hia)
        have hlet : lettersS d.tracks.length = ((2 ^ d.tracks.length : Nat) : Int) := by rw [lettersS_small (by omega)]; simp
        have hbad : rowOk d.tracks.length d.accept.length (d.next[i]).2 = false → rightS d = false := fun e => rightS_bad hia e
        have hbad2 : ∀ x ∈ (d.next[i]).2, ¬ (0 ≤ x ∧ x < d.accept.length) → rowOk d.tracks.length d.accept.length (d.next[i]).2 = false := fun x hx hn => by
          rw [rowOk, ← Bool.not_eq_true, Bool.and_eq_true, List.all_eq_true]
          rintro ⟨_, k⟩
          have := k x hx
          simp at this
          exact hn this
        repeat first | refine opsStep ?_ | refine codeStep ?_ | refine drawStep ?_
        refine SW.drawn rfl (by kernel_rfl) ?_
        repeat first | refine opsStep ?_ | refine codeStep ?_ | refine drawStep ?_
        refine guardE_of (by simp; omega) ?_
        repeat first | refine opsStep ?_ | refine codeStep ?_ | refine drawStep ?_
        refine optE_of (c := aIs (d.next[i]).1 (d.next[i]).2) (by simp [Value.cells, hia]) ?_
        repeat first | refine opsStep ?_ | refine codeStep ?_ | refine drawStep ?_
        refine .inl ⟨_, _, [], (r12_Letters d.tracks.length (by omega)), RdsN_refl _, .inr rfl, none_need, ?_⟩
        repeat first | refine opsStep ?_ | refine codeStep ?_ | refine drawStep ?_
        refine ⟨by kernel_rfl, ?_⟩
        repeat first | refine opsStep ?_ | refine codeStep ?_ | refine drawStep ?_
        refine decB_dec (fun hlen => ?_) (fun hlen => ?_)
        · repeat first | refine opsStep ?_ | refine codeStep ?_ | refine drawStep ?_
          exact finB (b' := false) (by kernel_rfl) (by rw [hbad (by rw [rowOk, decide_eq_false (fun e => hlen (by rw [hlet, ← e])), Bool.false_and])])
        · have hlen' : (d.next[i]).2.length = 2 ^ d.tracks.length := by
            have h5 := Decidable.of_not_not hlen
            rw [hlet] at h5
            exact Int.ofNat_inj.1 h5
          repeat first | refine opsStep ?_ | refine codeStep ?_ | refine drawStep ?_
          refine loopE_of (ι := {a : Nat // a ≤ (d.next[i]).2.length ∧ ∀ x ∈ (d.next[i]).2.take a, 0 ≤ x ∧ x < (d.accept.length : Int)})
            (fun a => (fr [(1, .ref 0 0 0), (3, .int .i64 d.accept.length), (4, .int .i64 i), (5, .int .i64 a.1)], [.cells 0 d.cells])) (fun a => (d.next[i]).2.length - a.1) ⟨0, by omega, by simp⟩ (Ent.fr' ⟨(by kernel_rfl), (by kernel_rfl), (by kernel_rfl), (by kernel_rfl), trivial⟩ (by kernel_rfl)) ?_
          rintro ⟨a, ha, hpa⟩
          repeat first | refine opsStep ?_ | refine codeStep ?_ | refine drawStep ?_
          refine guardE_of (by simp; omega) ?_
          repeat first | refine opsStep ?_ | refine codeStep ?_ | refine drawStep ?_
          refine optE_of (c := aIs (d.next[i]).1 (d.next[i]).2) (by simp [Value.cells, hia]) ?_
          repeat first | refine opsStep ?_ | refine codeStep ?_ | refine drawStep ?_
          refine decB_dec (fun hal => ?_) (fun hal => ?_)
          · have hal' : a < (d.next[i]).2.length := by have := hal; simp at this; omega
            repeat first | refine opsStep ?_ | refine codeStep ?_ | refine drawStep ?_
            refine guardE_of (by simp; omega) ?_
            repeat first | refine opsStep ?_ | refine codeStep ?_ | refine drawStep ?_
            refine optE_of (c := aIs (d.next[i]).1 (d.next[i]).2) (by simp [Value.cells, hia]) ?_
            repeat first | refine opsStep ?_ | refine codeStep ?_ | refine drawStep ?_
            refine guardE_of (by simp; omega) ?_
            repeat first | refine opsStep ?_ | refine codeStep ?_ | refine drawStep ?_
            refine optE_of (c := .int .i64 (d.next[i]).2[a]) (by simp [Value.cells, hal']) ?_
            repeat first | refine opsStep ?_ | refine codeStep ?_ | refine drawStep ?_
            refine decB_dec (fun hx0 => ?_) (fun hx0 => ?_)
            · repeat first | refine opsStep ?_ | refine codeStep ?_ | refine drawStep ?_
              exact finB (b' := false) (by kernel_rfl) (by rw [hbad (hbad2 _ (List.getElem_mem hal') (by omega))])
            · repeat first | refine opsStep ?_ | refine codeStep ?_ | refine drawStep ?_
              refine guardE_of (by simp; omega) ?_
              repeat first | refine opsStep ?_ | refine codeStep ?_ | refine drawStep ?_
              refine optE_of (c := aIs (d.next[i]).1 (d.next[i]).2) (by simp [Value.cells, hia]) ?_
              repeat first | refine opsStep ?_ | refine codeStep ?_ | refine drawStep ?_
              refine guardE_of (by simp; omega) ?_
              repeat first | refine opsStep ?_ | refine codeStep ?_ | refine drawStep ?_
              refine optE_of (c := .int .i64 (d.next[i]).2[a]) (by simp [Value.cells, hal']) ?_
              repeat first | refine opsStep ?_ | refine codeStep ?_ | refine drawStep ?_
              refine decB_dec (fun hx1 => ?_) (fun hx1 => ?_)
              · repeat first | refine opsStep ?_ | refine codeStep ?_ | refine drawStep ?_
                exact finB (b' := false) (by kernel_rfl) (by rw [hbad (hbad2 _ (List.getElem_mem hal') (by omega))])
              · repeat first | refine opsStep ?_ | refine codeStep ?_ | refine drawStep ?_
                refine ⟨⟨a + 1, by omega, ?_⟩, (by show (d.next[i]).2.length - (a + 1) < (d.next[i]).2.length - a; omega), Ent.fr' ⟨(by kernel_rfl), (by kernel_rfl), (by kernel_rfl), inc_slot (i := a) (by omega), trivial⟩ (by kernel_rfl)⟩
                rw [List.take_succ_eq_append_getElem hal']
                intro x hx
                rcases List.mem_append.1 hx with hx | hx
                · exact hpa x hx
                · rw [List.mem_singleton.1 hx]; omega
          · repeat first | refine opsStep ?_ | refine codeStep ?_ | refine drawStep ?_
            have : a = (d.next[i]).2.length := by have := hal; simp at this; omega
            refine ⟨⟨i + 1, by omega, ?_⟩, (by show d.next.length - (i + 1) < d.next.length - i; omega), Ent.fr' ⟨(by kernel_rfl), (by kernel_rfl), inc_slot (i := i) (by omega), trivial⟩ (by kernel_rfl)⟩
            rw [List.take_succ_eq_append_getElem hia]
            intro r hr'
            rcases List.mem_append.1 hr' with hr' | hr'
            · exact hpre r hr'
            · rw [List.mem_singleton.1 hr', rowOk, decide_eq_true hlen', Bool.true_and, List.all_eq_true]
              intro x hx
              rw [this, List.take_length] at hpa
              have := hpa x hx
              simp
              omega
      · repeat first | refine opsStep ?_ | refine codeStep ?_ | refine drawStep ?_
        have : i = d.next.length := by have := h; simp at this; omega
        exact finB (b' := true) (by kernel_rfl) (by
          subst this
          rw [List.take_length] at hpre
          rw [rightS, ht, decide_eq_true hn', List.all_eq_true.2 hpre]; simp)

end Tab

/- Machines compared, copied. -/
namespace Tab
open Go Go.Proofs
set_option maxRecDepth 10000
set_option linter.unusedVariables false
set_option linter.unusedSimpArgs false
set_option linter.unusedSectionVars false

def Den.rows (d : Den) : List (List Int) := d.next.map (·.2)
@[irreducible] def sameD (d e : Den) : Bool := decide (d.tracks = e.tracks) && decide (d.accept = e.accept) && decide (d.rows = e.rows)
theorem sameD_eq (d e : Den) : sameD d e = (decide (d.tracks = e.tracks) && decide (d.accept = e.accept) && decide (d.rows = e.rows)) := by unfold sameD; rfl

theorem r12_SameDense (d e : Den) (hd : DenOk d) (he : DenOk e) : Pure Try.prog 33 [aDen d, aDen e] (.bool (sameD d e)) := by
  have d1 := hd.tracks
  have d2 := hd.accept
  have d3 := hd.next
  have e1 := he.tracks
  have e2 := he.accept
  have e3 := he.next
  refine Pure.of_sw 48 Try.func33 rfl Try.ntmps33 (by kernel_rfl) (Nat.le_of_ble_eq_true (by kernel_rfl)) (by simp [closeds, AV.closed, aSs_closed, aIs_closed, aBs_closed, aRs_closed, aDen_closed]) (by simp [AV.closed, closeds, aSs_closed, aIs_closed, aBs_closed, aRs_closed, aDen_closed]) ?_; refine SW.of_vc ?_
  repeat first | refine opsStep ?_ | refine codeStep ?_ | refine drawStep ?_
  refine callP (r12_texts d.tk e.tk d.tracks e.tracks (by omega) (by omega)) ?_
  repeat first | refine opsStep ?_ | refine codeStep ?_ | refine drawStep ?_
  refine decB_split (fun h => ?_) (fun h => ?_)
  · repeat first | refine opsStep ?_ | refine codeStep ?_ | refine drawStep ?_
    exact finB (b' := false) (by kernel_rfl) (by
      have : decide (d.tracks = e.tracks) = false := by simpa using h
      rw [sameD_eq, this]; simp)
  · have ht : decide (d.tracks = e.tracks) = true := by simpa using h
    repeat first | refine opsStep ?_ | refine codeStep ?_ | refine drawStep ?_
    refine callP (r12_flags d.ak e.ak d.accept e.accept (by omega) (by omega)) ?_
    repeat first | refine opsStep ?_ | refine codeStep ?_ | refine drawStep ?_
    refine decB_split (fun h => ?_) (fun h => ?_)
    · repeat first | refine opsStep ?_ | refine codeStep ?_ | refine drawStep ?_
      exact finB (b' := false) (by kernel_rfl) (by
        have : decide (d.accept = e.accept) = false := by simpa using h
        rw [sameD_eq, this]; simp)
    · have ha : decide (d.accept = e.accept) = true := by simpa using h
      repeat first | refine opsStep ?_ | refine codeStep ?_ | refine drawStep ?_
      refine decB_dec (fun hn => ?_) (fun hn => ?_)
      · repeat first | refine opsStep ?_ | refine codeStep ?_ | refine drawStep ?_
        exact finB (b' := false) (by kernel_rfl) (by
          rw [sameD_eq, decide_eq_false (show ¬ d.rows = e.rows from fun k => hn (by have := congrArg List.length k; simp [Den.rows] at this; omega))]; simp)
      · have hn' : d.next.length = e.next.length := by have := hn; omega
        repeat first | refine opsStep ?_ | refine codeStep ?_ | refine drawStep ?_
        refine loopE_of (ι := {i : Nat // i ≤ d.next.length ∧ d.rows.take i = e.rows.take i})
          (fun i => (fr [(2, .ref 0 0 0), (3, .ref 1 0 0), (5, .int .i64 i.1)], [.cells 0 d.cells, .cells 0 e.cells])) (fun i => d.next.length - i.1) ⟨0, by omega, by simp⟩ (Ent.fr' ⟨(by kernel_rfl), (by kernel_rfl), (by kernel_rfl), trivial⟩ (by kernel_rfl)) ?_
        rintro ⟨i, hi, hpre⟩
        repeat first | refine opsStep ?_ | refine codeStep ?_ | refine drawStep ?_
        refine decB_dec (fun h => ?_) (fun h => ?_)
        · have hia : i < d.next.length := by have := h; simp at this; omega
          have hib : i < e.next.length := by omega
          have hra := hd.rows _ (List.getElem_mem hia)
          have hrb := he.rows _ (List.getElem_mem hib)
          have ga : d.rows[i]'(by simpa [Den.rows] using hia) = (d.next[i]).2 := by simp [Den.rows]
          have gb : e.rows[i]'(by simpa [Den.rows] using hib) = (e.next[i]).2 := by simp [Den.rows]
          repeat first | refine opsStep ?_ | refine codeStep ?_ | refine drawStep ?_
          refine SW.drawn rfl (by kernel_rfl) ?_
          repeat first | refine opsStep ?_ | refine codeStep ?_ | refine drawStep ?_
          refine guardE_of (by simp; omega) ?_
          repeat first | refine opsStep ?_ | refine codeStep ?_ | refine drawStep ?_
          refine optE_of (c := aIs (d.next[i]).1 (d.next[i]).2) (by simp [Value.cells, hia]) ?_
          repeat first | refine opsStep ?_ | refine codeStep ?_ | refine drawStep ?_
          refine guardE_of (by simp; omega) ?_
          repeat first | refine opsStep ?_ | refine codeStep ?_ | refine drawStep ?_
          refine optE_of (c := aIs (e.next[i]).1 (e.next[i]).2) (by simp [Value.cells, hib]) ?_
          repeat first | refine opsStep ?_ | refine codeStep ?_ | refine drawStep ?_
          refine .inl ⟨_, _, [], (r12_ints (d.next[i]).1 (e.next[i]).1 (d.next[i]).2 (e.next[i]).2 (by omega) (by omega)), RdsN_refl _, .inr rfl, none_need, ?_⟩
          repeat first | refine opsStep ?_ | refine codeStep ?_ | refine drawStep ?_
          refine ⟨by kernel_rfl, ?_⟩
          repeat first | refine opsStep ?_ | refine codeStep ?_ | refine drawStep ?_
          refine decB_split (fun h => ?_) (fun h => ?_)
          · repeat first | refine opsStep ?_ | refine codeStep ?_ | refine drawStep ?_
            exact finB (b' := false) (by kernel_rfl) (by
              have hne : ¬ (d.next[i]).2 = (e.next[i]).2 := by simpa using h
              rw [sameD_eq, decide_eq_false (show ¬ d.rows = e.rows from fun k => hne (by rw [← ga, ← gb]; simp only [k]))]; simp)
          · repeat first | refine opsStep ?_ | refine codeStep ?_ | refine drawStep ?_
            have heq : (d.next[i]).2 = (e.next[i]).2 := by simpa using h
            refine ⟨⟨i + 1, by omega, ?_⟩, (by show d.next.length - (i + 1) < d.next.length - i; omega), Ent.fr' ⟨(by kernel_rfl), (by kernel_rfl), inc_slot (i := i) (by omega), trivial⟩ (by kernel_rfl)⟩
            rw [List.take_succ_eq_append_getElem (by simpa [Den.rows] using hia), List.take_succ_eq_append_getElem (by simpa [Den.rows] using hib), hpre, ga, gb, heq]
        · repeat first | refine opsStep ?_ | refine codeStep ?_ | refine drawStep ?_
          have : i = d.next.length := by have := h; simp at this; omega
          exact finB (b' := true) (by kernel_rfl) (by
            have l1 : d.rows.length = d.next.length := by simp [Den.rows]
            have l2 : e.rows.length = d.next.length := by simp [Den.rows, hn']
            rw [List.take_of_length_le (by omega), List.take_of_length_le (by omega)] at hpre
            rw [sameD_eq, ht, ha, decide_eq_true hpre]; simp)

end Tab

/- A machine copied. -/
namespace Tab
open Go Go.Proofs
set_option maxRecDepth 10000
set_option linter.unusedVariables false
set_option linter.unusedSimpArgs false
set_option linter.unusedSectionVars false

def copyD (d : Den) : Den := ⟨.any, d.tracks, .any, d.accept, .any, d.rows.map fun r => (.any, r)⟩

end Tab

/- A machine over more tracks: its rows, in new memory. -/
namespace Tab
open Go Go.Proofs
set_option maxRecDepth 10000
set_option linter.unusedVariables false
set_option linter.unusedSimpArgs false
set_option linter.unusedSectionVars false

def ovRow (n : Nat) (pl : List Nat) (r : List Int) : List Int := (List.range (2 ^ n)).map fun a => r.getD (gatN a pl) 0

def ovHs (n i : Nat) : List AV := (List.range i).map fun j => .hs (6 + j) 0 0 n 1
def ovBlks (rows : List (List Int)) : List Blk := rows.map fun r => .cells 0 (r.map (.int .i64))
def ovH (d : Den) (names : List (List UInt8)) (k : Nat) (rows : List (List Int)) : List Blk :=
  [.cells 0 d.cells, .cells 0 [.sl .nil 0 [], .sl .nil 0 [], .sl .nil 0 []], .cells 0 (names.map .str), .cells 0 (d.accept.map .bool),
    .cells 0 [.hs 2 0 0 names.length 1, .hs 3 0 0 d.accept.length 1, .hs 5 rows.length 0 rows.length 1], .cells rows.length (ovHs k rows.length)] ++ ovBlks rows
theorem ovH_length (d names k rows) : (ovH d names k rows).length = 6 + rows.length := by simp [ovH, ovBlks]; omega

theorem track_over (kn kp : SK) (d : Den) (names : List (List UInt8)) (pl : List Nat) (q : Nat) (hq : 2 ^ names.length = q) (hd : DenOk d) (hn : names.length ≤ 6) (hp : pl.length ≤ 6) (hpl : ∀ p ∈ pl, p < 6) (hrow : ∀ r ∈ d.next, r.2.length = 2 ^ pl.length) :
    ACall Try.prog 105 [aDen d, aSs kn names, aIs kp (pl.map fun p : Nat => (p : Int))] [] fun o H' => o = .ret (.agg [.hs 2 0 0 names.length 1, .hs 3 0 0 d.accept.length 1, .hs 5 d.next.length 0 d.next.length 1]) ∧
      ∃ x, H' = [.cells 0 d.cells, x, .cells 0 (names.map .str), .cells 0 (d.accept.map .bool), .cells 0 [.hs 2 0 0 names.length 1, .hs 3 0 0 d.accept.length 1, .hs 5 d.next.length 0 d.next.length 1], .cells d.next.length (ovHs q d.next.length)]
        ++ ovBlks (d.rows.map (ovRow names.length pl)) := by
  have h1 := hd.tracks
  have h2 := hd.accept
  have h3 := hd.next
  have hb : IntKind.wrap .i64 (1 * 2 ^ (min (names.length : Int).toNat (IntKind.bits .i64))) = (q : Int) := by rw [← hq]; exact shl_one (k := names.length) (by omega)
  have hpow : q ≤ 64 := by rw [← hq]; exact Nat.pow_le_pow_right (by omega) hn
  have hrl : d.rows.length = d.next.length := by simp [Den.rows]
  refine ACall.of_sw 58 Try.func105 rfl Try.ntmps105 (by kernel_rfl) (Nat.le_of_ble_eq_true (by kernel_rfl)) ?_; refine SW.of_vc ?_
  repeat first | refine opsStep ?_ | refine codeStep ?_ | refine drawStep ?_
  refine SW.drawn rfl (by kernel_rfl) ?_
  repeat first | refine opsStep ?_ | refine codeStep ?_ | refine drawStep ?_
  refine .inr ⟨_, _, _, (slices_Clone_S_new kn names (by omega)), ?_⟩
  repeat first | refine opsStep ?_ | refine codeStep ?_ | refine drawStep ?_
  refine .inr ⟨_, _, _, (slices_Clone_B_new d.ak d.accept (by omega)), ?_⟩
  repeat first | refine opsStep ?_ | refine codeStep ?_ | refine drawStep ?_
  refine ⟨by kernel_rfl, ?_⟩
  repeat first | refine opsStep ?_ | refine codeStep ?_ | refine drawStep ?_
  refine loopE_of (ι := {i : Nat // i ≤ d.next.length})
    (fun i => (fr [(1, aSs kn names), (2, aIs kp (pl.map fun p : Nat => (p : Int))), (6, .ref 1 0 0), (7, .ref 4 0 0), (21, aRs d.nk d.next), (22, .int .i64 d.next.length), (23, .int .i64 i.1)], ovH d names q ((d.rows.take i.1).map (ovRow names.length pl))))
    (fun i => d.next.length - i.1) ⟨0, by omega⟩ ?_ ?_
  · refine ((Ent.fr' (l := [(1, aSs kn names), (2, aIs kp (pl.map fun p : Nat => (p : Int))), (6, .ref 1 0 0), (7, .ref 4 0 0), (21, aRs d.nk d.next), (22, .int .i64 d.next.length), (23, .int .i64 (0 : Nat))])
      (H' := [.cells 0 d.cells, .cells 0 [.sl .nil 0 [], .sl .nil 0 [], .sl .nil 0 []], .cells 0 (names.map .str), .cells 0 (d.accept.map .bool), .cells 0 [.hs 2 0 0 names.length 1, .hs 3 0 0 d.accept.length 1, .sl .nil 0 []]]) ⟨(by kernel_rfl), (by kernel_rfl), (by kernel_rfl), (by kernel_rfl), (by kernel_rfl), (by kernel_rfl), (by kernel_rfl), trivial⟩ (by kernel_rfl)).trans (Ent.nilCell 4 2 1 rfl rfl)).to rfl
  rintro ⟨i, hi⟩
  repeat first | refine opsStep ?_ | refine codeStep ?_ | refine drawStep ?_
  refine decB_dec (fun h => ?_) (fun h => ?_)
  · have hia : i < d.next.length := by have := h; simp at this; omega
    have hlr : i < d.rows.length := by omega
    have ga : d.rows[i] = (d.next[i]).2 := by simp [Den.rows]
    have hri := hrow _ (List.getElem_mem hia)
    obtain ⟨rs, hrs⟩ : ∃ rs, (d.rows.take i).map (ovRow names.length pl) = rs := ⟨_, rfl⟩
    have hrsl : rs.length = i := by rw [← hrs]; simp; omega
    have hnext : (d.rows.take (i + 1)).map (ovRow names.length pl) = rs ++ [ovRow names.length pl (d.next[i]).2] := by
      rw [List.take_succ_eq_append_getElem hlr, List.map_append, hrs, ga]; rfl
    repeat first | refine opsStep ?_ | refine codeStep ?_ | refine drawStep ?_
    refine guardE_of (by simp; omega) ?_
    repeat first | refine opsStep ?_ | refine codeStep ?_ | refine drawStep ?_
    refine optE_of (c := aIs (d.next[i]).1 (d.next[i]).2) (by simp [Value.cells, hia]) ?_
    repeat first | refine opsStep ?_ | refine codeStep ?_ | refine drawStep ?_
    refine guardE_of (by rw [hb]; exact ⟨by omega, by omega, by show (8 : Int) * (q : Int) ≤ 281474976710656; omega, by omega⟩) ?_
    repeat first | refine opsStep ?_ | refine codeStep ?_ | refine drawStep ?_
    refine loopE_of (ι := {a : Nat // a ≤ q})
      (fun a => (fr [(1, aSs kn names), (2, aIs kp (pl.map fun p : Nat => (p : Int))), (6, .ref 1 0 0), (7, .ref 4 0 0), (9, aIs (d.next[i]).1 (d.next[i]).2), (10, .hs (ovH d names q rs).length 0 0 q 1),
        (21, aRs d.nk d.next), (22, .int .i64 d.next.length), (23, .int .i64 i), (32, .int .i64 q), (33, .int .i64 a.1)],
        ovH d names q rs ++ [.cells 0 ((partL (fun a => (d.next[i]).2.getD (gatN a pl) 0) q a.1).map (.int .i64))]))
      (fun a => q - a.1) ⟨0, by omega⟩ (Ent.fr' ⟨(by kernel_rfl), (by kernel_rfl), (by kernel_rfl), (by kernel_rfl), (by kernel_rfl), ?_, (by kernel_rfl), (by kernel_rfl), (by kernel_rfl), ?_, (by kernel_rfl), trivial⟩ ?_) ?_
    · refine Eq.trans (b := .hs (ovH d names q ((d.rows.take i).map (ovRow names.length pl))).length 0 0 (IntKind.wrap .i64 (1 * 2 ^ (min (names.length : Int).toNat (IntKind.bits .i64)))).toNat 1) (by kernel_rfl) ?_
      rw [hb, hrs]; rfl
    · refine Eq.trans (b := .int .i64 ((IntKind.wrap .i64 (1 * 2 ^ (min (names.length : Int).toNat (IntKind.bits .i64)))).toNat : Nat)) (by kernel_rfl) ?_
      rw [hb]; rfl
    · refine Eq.trans (b := ovH d names q ((d.rows.take i).map (ovRow names.length pl)) ++ [.cells 0 (reps [.int .i64 0] (IntKind.wrap .i64 (1 * 2 ^ (min (names.length : Int).toNat (IntKind.bits .i64)))).toNat)]) (by kernel_rfl) ?_
      rw [hb, hrs, reps_one, partL_zero]; simp
    rintro ⟨a, ha⟩
    repeat first | refine opsStep ?_ | refine codeStep ?_ | refine drawStep ?_
    refine decB_dec (fun g => ?_) (fun g => ?_)
    · have haq : a < q := by have := g; simp at this; omega
      repeat first | refine opsStep ?_ | refine codeStep ?_ | refine drawStep ?_
      refine callP (bits_Gather kp a pl (by omega) hp hpl) ?_
      have hgl : gatN a pl < (d.next[i]).2.length := by rw [hri]; exact gatN_lt a pl
      repeat first | refine opsStep ?_ | refine codeStep ?_ | refine drawStep ?_
      refine guardE_of (by simp; omega) ?_
      repeat first | refine opsStep ?_ | refine codeStep ?_ | refine drawStep ?_
      refine optE_of (c := .int .i64 ((d.next[i]).2[gatN a pl])) (by simp [Value.cells, hgl]) ?_
      repeat first | refine opsStep ?_ | refine codeStep ?_ | refine drawStep ?_
      refine guardE_of (by simp; omega) ?_
      repeat first | refine opsStep ?_ | refine codeStep ?_ | refine drawStep ?_
      refine optE_of (get_last _ _) ?_
      refine guardE_of rfl ?_
      refine guardE_of ⟨rfl, by decide, by show 0 + a * 1 + 1 ≤ ((partL (fun a => (d.next[i]).2.getD (gatN a pl) 0) q a).map (AV.int .i64)).length; simp [partL_length]; omega⟩ ?_
      repeat first | refine opsStep ?_ | refine codeStep ?_ | refine drawStep ?_
      refine ⟨⟨a + 1, by omega⟩, (by show q - (a + 1) < q - a; omega), Ent.fr' ⟨(by kernel_rfl), (by kernel_rfl), (by kernel_rfl), (by kernel_rfl), (by kernel_rfl), (by kernel_rfl), (by kernel_rfl), (by kernel_rfl), (by kernel_rfl), (by kernel_rfl), inc_slot (i := a) (by omega), trivial⟩ ?_⟩
      refine Eq.trans (b := (ovH d names q rs ++ [Blk.cells 0 ((partL (fun a => (d.next[i]).2.getD (gatN a pl) 0) q a).map (.int .i64))]).set (ovH d names q rs).length (Blk.cells 0 (over ((partL (fun a => (d.next[i]).2.getD (gatN a pl) 0) q a).map (.int .i64)) (0 + a * 1) [.int .i64 ((d.next[i]).2[gatN a pl])]))) (by kernel_rfl) ?_
      show _ = ovH d names q rs ++ [Blk.cells 0 ((partL (fun a => (d.next[i]).2.getD (gatN a pl) 0) q (a + 1)).map (.int .i64))]
      rw [set_last, Nat.zero_add, Nat.mul_one, over_one (by simp [partL_length]; omega), ← partL_step, List.map_set]
      simp [List.getD_eq_getElem?_getD, hgl]
    · have haq : a = q := by have := g; simp at this; omega
      subst haq
      repeat first | refine opsStep ?_ | refine codeStep ?_ | refine drawStep ?_
      refine guardE_of ⟨rfl, by simp [ovHs]⟩ ?_
      refine guardE_of rfl ?_
      refine optE_of (get_last _ _) ?_
      refine guardE_of ⟨rfl, Nat.le_refl _⟩ ?_
      refine guardE_of ⟨by omega, by show (rs.length + 1) * 24 ≤ 140737488355328; omega⟩ ?_
      repeat first | refine opsStep ?_ | refine codeStep ?_ | refine drawStep ?_
      refine ⟨⟨i + 1, by omega⟩, (by show d.next.length - (i + 1) < d.next.length - i; omega), Ent.to (Ent.frD (X := [.cells 0 [.hs (ovH d names a rs).length 0 0 a 1]])
        (H' := [.cells 0 d.cells, .cells 0 [.sl .nil 0 [], .sl .nil 0 [], .sl .nil 0 []], .cells 0 (names.map .str), .cells 0 (d.accept.map .bool), .cells 0 [.hs 2 0 0 names.length 1, .hs 3 0 0 d.accept.length 1, .hs 5 (rs.length + 1) 0 (rs.length + 1) 1],
          .cells (rs.length + 1) (((ovHs a rs.length).drop 0).take (rs.length * 1) ++ [.hs (ovH d names a rs).length 0 0 a 1])] ++ (ovBlks rs ++ [.cells 0 ((partL (fun a => (d.next[i]).2.getD (gatN a pl) 0) a a).map (.int .i64))]))
        ⟨(by kernel_rfl), (by kernel_rfl), (by kernel_rfl), (by kernel_rfl), (by kernel_rfl), (by kernel_rfl), inc_slot (i := i) (by omega), trivial⟩ (by kernel_rfl) (Nat.zero_le _) ?_ ?_) ?_⟩
      · simp [frBel, AV.bel, aSs_bel, aIs_bel, aRs_bel]
      · simp only [ovBlks, blksBel_append, blksBel, blksBel_map, Blk.bel, bels_append, bels, bels_map, AV.bel, aSs_bel, cells_bel, ovH_length]
        refine ⟨⟨trivial, ⟨trivial, trivial, trivial, trivial⟩, ?_, ?_, ⟨?_, ?_, ?_, trivial⟩, ⟨bels_td ?_, ?_, trivial⟩, trivial⟩, ?_, ?_, trivial⟩
        all_goals first | (refine bels_map.2 fun j hj => ?_; have := List.mem_range.1 hj; simp only [AV.bel]; simp; omega) | (simp; done) | (simp; omega)
      · show _ = ovH d names a ((d.rows.take (i + 1)).map (ovRow names.length pl))
        rw [hnext, td_all (by simp [ovHs]), partL_full, ovH_length]
        have e1 : ovHs a rs.length ++ [.hs (6 + rs.length) 0 0 a 1] = ovHs a (rs.length + 1) := by simp [ovHs, List.range_succ]
        have e2 : ovBlks rs ++ [Blk.cells 0 (((List.range a).map fun a => (d.next[i]).2.getD (gatN a pl) 0).map (.int .i64))] = ovBlks (rs ++ [ovRow names.length pl (d.next[i]).2]) := by simp [ovBlks, ovRow, hq]
        rw [e1, e2]
        simp [ovH]
  · repeat first | refine opsStep ?_ | refine codeStep ?_ | refine drawStep ?_
    have : i = d.next.length := by have := h; simp at this; omega
    subst this
    refine finR (l := [(6, .ref 1 0 0)]) (H₁ := [.cells 0 d.cells, .cells 0 [.hs 2 0 0 names.length 1, .hs 3 0 0 d.accept.length 1, .hs 5 ((d.rows.take d.next.length).map (ovRow names.length pl)).length 0 ((d.rows.take d.next.length).map (ovRow names.length pl)).length 1], .cells 0 (names.map .str), .cells 0 (d.accept.map .bool),
      .cells 0 [.hs 2 0 0 names.length 1, .hs 3 0 0 d.accept.length 1, .hs 5 ((d.rows.take d.next.length).map (ovRow names.length pl)).length 0 ((d.rows.take d.next.length).map (ovRow names.length pl)).length 1], .cells ((d.rows.take d.next.length).map (ovRow names.length pl)).length (ovHs q ((d.rows.take d.next.length).map (ovRow names.length pl)).length)] ++ ovBlks ((d.rows.take d.next.length).map (ovRow names.length pl)))
      (v := .agg [.hs 2 0 0 names.length 1, .hs 3 0 0 d.accept.length 1, .hs 5 ((d.rows.take d.next.length).map (ovRow names.length pl)).length 0 ((d.rows.take d.next.length).map (ovRow names.length pl)).length 1]) ⟨(by kernel_rfl), trivial⟩ (by kernel_rfl) (Ent.refl _ _ _) (by kernel_rfl) ?_
    have hl : ((d.rows.take d.next.length).map (ovRow names.length pl)).length = d.next.length := by simp [hrl]
    rw [hl, List.take_of_length_le (by omega)]
    exact ⟨rfl, _, rfl⟩

end Tab

/- A machine over more tracks. -/
namespace Tab
open Go Go.Proofs
set_option maxRecDepth 10000
set_option linter.unusedVariables false
set_option linter.unusedSimpArgs false
set_option linter.unusedSectionVars false

def den0 : Den := ⟨.nil, [], .nil, [], .nil, []⟩
def inAll (ts names : List (List UInt8)) : Bool := ts.all fun s => decide (s ∈ names)
def placesOf (ts names : List (List UInt8)) : List Nat := ts.map (names.idxOf ·)
@[irreducible] def widenE (d : Den) (names : List (List UInt8)) : Int := if (rightS d && risesS names) = true then (if names.length ≤ 6 then (if inAll d.tracks names = true then 0 else 4) else 150) else 3
theorem widenE_shape {d names} (h : rightS d = false ∨ risesS names = false) : widenE d names = 3 := by
  rw [widenE, if_neg]; rcases h with h | h <;> simp [h]
theorem widenE_wide {d names} (h1 : rightS d = true) (h2 : risesS names = true) (h : ¬ names.length ≤ 6) : widenE d names = 150 := by
  rw [widenE, h1, h2, if_neg h]; rfl
theorem widenE_none {d names} (h1 : rightS d = true) (h2 : risesS names = true) (h : names.length ≤ 6) (h3 : inAll d.tracks names = false) : widenE d names = 4 := by
  rw [widenE, h1, h2, if_pos h, h3]; rfl
theorem widenE_ok {d names} (h1 : rightS d = true) (h2 : risesS names = true) (h : names.length ≤ 6) (h3 : inAll d.tracks names = true) : widenE d names = 0 := by
  rw [widenE, h1, h2, if_pos h, h3]; rfl

theorem widenE_of_ok {d names} (h : widenE d names = 0) : rightS d = true ∧ risesS names = true ∧ names.length ≤ 6 ∧ inAll d.tracks names = true := by
  cases h1 : rightS d with
  | false => rw [widenE_shape (.inl h1)] at h; omega
  | true =>
    cases h2 : risesS names with
    | false => rw [widenE_shape (.inr h2)] at h; omega
    | true =>
      by_cases h3 : names.length ≤ 6
      · cases h4 : inAll d.tracks names with
        | false => rw [widenE_none h1 h2 h3 h4] at h; omega
        | true => exact ⟨rfl, rfl, h3, rfl⟩
      · rw [widenE_wide h1 h2 h3] at h; omega

theorem rightS_parts {d : Den} (h : rightS d = true) : tracksS d.tracks d.accept.length = true ∧ d.next.length = d.accept.length ∧ ∀ r ∈ d.next, rowOk d.tracks.length d.accept.length r.2 = true := by
  simp only [rightS, Bool.and_eq_true, decide_eq_true_eq, List.all_eq_true] at h
  exact ⟨h.1.1, h.1.2, h.2⟩
theorem rowOk_parts {k n : Nat} {r : List Int} (h : rowOk k n r = true) : r.length = 2 ^ k ∧ ∀ x ∈ r, 0 ≤ x ∧ x < n := by
  simp only [rowOk, Bool.and_eq_true, decide_eq_true_eq, List.all_eq_true] at h
  exact h
theorem rows_len {d : Den} (h : rightS d = true) : ∀ r ∈ d.rows, r.length = 2 ^ d.tracks.length := by
  intro r hr
  obtain ⟨x, hx, rfl⟩ := List.mem_map.1 hr
  exact (rowOk_parts ((rightS_parts h).2.2 x hx)).1

def wdHeap (d : Den) (names : List (List UInt8)) (b0 b1 b2 b3 b4 b7 : Blk) : List Blk :=
  [b0, b1, b2, b3, b4, .cells 0 (names.map .str), .cells 0 (d.accept.map .bool), b7, .cells d.next.length ((List.range d.next.length).map fun j => .hs (9 + j) 0 0 (2 ^ names.length) 1)] ++ ovBlks (d.rows.map (ovRow names.length (placesOf d.tracks names)))
def wdRes (d : Den) (names : List (List UInt8)) : AV := .agg [.hs 5 0 0 names.length 1, .hs 6 0 0 d.accept.length 1, .hs 8 d.next.length 0 d.next.length 1]

theorem ovBlks_sh (k : Nat) (rs : List (List Int)) : (ovBlks rs).map (Blk.sh k) = ovBlks rs := by
  rw [ovBlks, List.map_map]
  refine List.map_congr_left fun r _ => ?_
  simp only [Function.comp, Blk.sh]
  rw [closeds_sh]
  exact closeds_iff.2 fun a ha => by obtain ⟨x, _, rfl⟩ := List.mem_map.1 ha; simp only [AV.closed]
theorem ovHs_sh (k n i : Nat) : shs k (ovHs n i) = (List.range i).map fun j => .hs (6 + j + k) 0 0 n 1 := by
  rw [shs_map, ovHs, List.map_map]
  rfl
theorem strs_sh (k : Nat) (l : List (List UInt8)) : shs k (l.map .str) = l.map .str := closeds_sh _ (closeds_iff.2 fun a ha => by obtain ⟨x, _, rfl⟩ := List.mem_map.1 ha; simp only [AV.closed])
theorem bools_sh (k : Nat) (l : List Bool) : shs k (l.map .bool) = l.map .bool := closeds_sh _ (closeds_iff.2 fun a ha => by obtain ⟨x, _, rfl⟩ := List.mem_map.1 ha; simp only [AV.closed])

theorem track_Widen (kn : SK) (d : Den) (names : List (List UInt8)) (hd : DenOk d) (hn : names.length * 16 ≤ 140737488351232) (hns : ∀ s ∈ names, s.length ≤ 140737488351232) :
    ACall Try.prog 67 [aDen d, aSs kn names] [] fun o H' => (widenE d names ≠ 0 ∧ o = .ret (.tup [aDen den0, .int .i64 (widenE d names)])) ∨
      (widenE d names = 0 ∧ o = .ret (.tup [wdRes d names, .int .i64 0]) ∧ ∃ b0 b1 b2 b3 b4 b7, H' = wdHeap d names b0 b1 b2 b3 b4 b7) := by
  have h1 := hd.tracks
  have h2 := hd.accept
  have h3 := hd.next
  refine ACall.of_sw 47 Try.func67 rfl Try.ntmps67 (by kernel_rfl) (Nat.le_of_ble_eq_true (by kernel_rfl)) ?_; refine SW.of_vc ?_
  repeat first | refine opsStep ?_ | refine codeStep ?_ | refine drawStep ?_
  refine callP (table_Right d hd) ?_
  repeat first | refine opsStep ?_ | refine codeStep ?_ | refine drawStep ?_
  refine decB_dec (fun hr => ?_) (fun hr => ?_)
  · have hr' : rightS d = false := by cases h : rightS d with | true => exact absurd (rightE_ok h) hr | false => rfl
    repeat first | refine opsStep ?_ | refine codeStep ?_ | refine drawStep ?_
    refine finR (l := [(4, .ref 1 0 0), (5, .int .i64 3)]) (H₁ := [.cells 0 d.cells, .cells 0 den0.cells]) (v := .tup [aDen den0, .int .i64 3]) ⟨(by kernel_rfl), (by kernel_rfl), trivial⟩ (by kernel_rfl) (Ent.refl _ _ _) (by kernel_rfl) ?_
    refine .inl ?_
    rw [widenE_shape (.inl hr')]
    exact ⟨by decide, rfl⟩
  · have hr' : rightS d = true := by cases h : rightS d with | true => rfl | false => exact absurd (fun e => by rw [rightE_bad h] at e; omega) hr
    repeat first | refine opsStep ?_ | refine codeStep ?_ | refine drawStep ?_
    refine callP (glyph_Rises kn names (by omega) (fun s hs => by have := hns s hs; omega)) ?_
    repeat first | refine opsStep ?_ | refine codeStep ?_ | refine drawStep ?_
    refine decB_split (fun h => ?_) (fun h => ?_)
    · repeat first | refine opsStep ?_ | refine codeStep ?_ | refine drawStep ?_
      refine finR (l := [(4, .ref 1 0 0), (5, .int .i64 3)]) (H₁ := [.cells 0 d.cells, .cells 0 den0.cells]) (v := .tup [aDen den0, .int .i64 3]) ⟨(by kernel_rfl), (by kernel_rfl), trivial⟩ (by kernel_rfl) (Ent.refl _ _ _) (by kernel_rfl) ?_
      refine .inl ?_
      rw [widenE_shape (.inr (by simpa using h))]
      exact ⟨by decide, rfl⟩
    · have hs' : risesS names = true := by simpa using h
      repeat first | refine opsStep ?_ | refine codeStep ?_ | refine drawStep ?_
      refine decB_dec (fun hl => ?_) (fun hl => ?_)
      · repeat first | refine opsStep ?_ | refine codeStep ?_ | refine drawStep ?_
        refine finR (l := [(4, .ref 1 0 0), (5, .int .i64 150)]) (H₁ := [.cells 0 d.cells, .cells 0 den0.cells]) (v := .tup [aDen den0, .int .i64 150]) ⟨(by kernel_rfl), (by kernel_rfl), trivial⟩ (by kernel_rfl) (Ent.refl _ _ _) (by kernel_rfl) ?_
        refine .inl ?_
        rw [widenE_wide hr' hs' (by omega)]
        exact ⟨by decide, rfl⟩
      · have hl' : names.length ≤ 6 := by omega
        obtain ⟨ht, hnn, hrows⟩ := rightS_parts hr'
        have hk := tracksS_le ht
        repeat first | refine opsStep ?_ | refine codeStep ?_ | refine drawStep ?_
        refine loopE_of (ι := {i : Nat // i ≤ d.tracks.length ∧ inAll (d.tracks.take i) names = true})
          (fun i => (fr [(1, aSs kn names), (2, .ref 0 0 0), (4, .ref 1 0 0), (6, .hs 2 i.1 0 i.1 1), (26, aSs d.tk d.tracks), (27, .int .i64 d.tracks.length), (28, .int .i64 i.1)],
            [.cells 0 d.cells, .cells 0 den0.cells, .cells i.1 (((d.tracks.take i.1).map fun s => ((names.idxOf s : Nat) : Int)).map (.int .i64))]))
          (fun i => d.tracks.length - i.1) ⟨0, by omega, by simp [inAll]⟩ ?_ ?_
        · exact ((Ent.fr' (l := [(1, aSs kn names), (2, .ref 0 0 0), (4, .ref 1 0 0), (6, .sl .nil 0 []), (26, aSs d.tk d.tracks), (27, .int .i64 d.tracks.length), (28, .int .i64 (0 : Nat))])
            (H' := [.cells 0 d.cells, .cells 0 den0.cells]) ⟨(by kernel_rfl), (by kernel_rfl), (by kernel_rfl), (by kernel_rfl), (by kernel_rfl), (by kernel_rfl), (by kernel_rfl), trivial⟩ (by kernel_rfl)).trans (Ent.nil 6 1 rfl)).trans (Ent.fr' ⟨(by kernel_rfl), (by kernel_rfl), (by kernel_rfl), (by kernel_rfl), (by kernel_rfl), (by kernel_rfl), (by kernel_rfl), trivial⟩ (by kernel_rfl))
        rintro ⟨i, hi, hpre⟩
        repeat first | refine opsStep ?_ | refine codeStep ?_ | refine drawStep ?_
        refine decB_dec (fun h => ?_) (fun h => ?_)
        · have hia : i < d.tracks.length := by have := h; simp at this; omega
          repeat first | refine opsStep ?_ | refine codeStep ?_ | refine drawStep ?_
          refine guardE_of (by simp; omega) ?_
          repeat first | refine opsStep ?_ | refine codeStep ?_ | refine drawStep ?_
          refine optE_of (c := .str d.tracks[i]) (by simp [Value.cells, hia]) ?_
          repeat first | refine opsStep ?_ | refine codeStep ?_ | refine drawStep ?_
          refine callP (glyph_Index kn names d.tracks[i] (by omega)) ?_
          repeat first | refine opsStep ?_ | refine codeStep ?_ | refine drawStep ?_
          refine decB_dec (fun hx => ?_) (fun hx => ?_)
          · repeat first | refine opsStep ?_ | refine codeStep ?_ | refine drawStep ?_
            refine finR (l := [(4, .ref 1 0 0), (5, .int .i64 4)]) (H₁ := [.cells 0 d.cells, .cells 0 den0.cells, .cells i (((d.tracks.take i).map fun s => ((names.idxOf s : Nat) : Int)).map (.int .i64))]) (v := .tup [aDen den0, .int .i64 4]) ⟨(by kernel_rfl), (by kernel_rfl), trivial⟩ (by kernel_rfl) (Ent.refl _ _ _) (by kernel_rfl) ?_
            refine .inl ?_
            rw [widenE_none hr' hs' hl' (by
              rw [← Bool.not_eq_true, inAll, List.all_eq_true]
              intro k
              have := k _ (List.getElem_mem hia)
              have hm : d.tracks[i] ∈ names := by simpa using this
              rw [idxS, if_pos (List.idxOf_lt_length_of_mem hm)] at hx
              omega)]
            exact ⟨by decide, rfl⟩
          · have hm : d.tracks[i] ∈ names := by
              rw [idxS] at hx
              split at hx
              · rename_i e; exact List.idxOf_lt_length_iff.1 e
              · omega
            have hix : idxS names d.tracks[i] = (names.idxOf d.tracks[i] : Nat) := by rw [idxS, if_pos (List.idxOf_lt_length_of_mem hm)]
            repeat first | refine opsStep ?_ | refine codeStep ?_ | refine drawStep ?_
            refine guardE_of ⟨rfl, by simp; omega⟩ ?_
            refine guardE_of rfl ?_
            refine guardE_of ⟨by omega, by show (i + 1) * 8 ≤ 140737488355328; omega⟩ ?_
            repeat first | refine opsStep ?_ | refine codeStep ?_ | refine drawStep ?_
            refine ⟨⟨i + 1, by omega, ?_⟩, (by show d.tracks.length - (i + 1) < d.tracks.length - i; omega), Ent.to (Ent.frD (X := [.cells 0 [.int .i64 (idxS names d.tracks[i])]])
              (H' := [.cells 0 d.cells, .cells 0 den0.cells, .cells (i + 1) (((((d.tracks.take i).map fun s => ((names.idxOf s : Nat) : Int)).map (AV.int .i64)).drop 0).take (i * 1) ++ [.int .i64 (idxS names d.tracks[i])])])
              ⟨(by kernel_rfl), (by kernel_rfl), (by kernel_rfl), (by kernel_rfl), (by kernel_rfl), (by kernel_rfl), inc_slot (i := i) (by omega), trivial⟩ (by kernel_rfl) (Nat.zero_le _) (by first | (simp [frBel, blksBel, Blk.bel, AV.bel, bels, bels_append, bels_map, aSs_bel, aIs_bel, aBs_bel, aRs_bel, aDen_bel, cells_bel]; done) | (simp only [List.drop_zero, ← List.map_take, ← List.map_drop, List.map_map, frBel, blksBel, Blk.bel, AV.bel, bels, bels_append, bels_map, aSs_bel, aIs_bel, aBs_bel, aRs_bel, aDen_bel, cells_bel]; simp [AV.bel, aSs_bel, aIs_bel, aBs_bel, aRs_bel, aDen_bel, cells_bel])) ?_) ?_⟩
            · rw [inAll, List.take_succ_eq_append_getElem hia, List.all_append, ← inAll, hpre]
              simp [hm]
            · exact ⟨cells_bel _ _, cells_bel _ _, (bels_append.2 ⟨bels_td (bels_map.2 fun _ _ => trivial), trivial, trivial⟩), trivial⟩
            · show _ = [Blk.cells 0 d.cells, .cells 0 den0.cells, .cells (i + 1) (((d.tracks.take (i + 1)).map fun s => ((names.idxOf s : Nat) : Int)).map (.int .i64))]
              rw [td_all (by simp; omega), hix, List.take_succ_eq_append_getElem hia, List.map_append, List.map_append]
              rfl
        · have : i = d.tracks.length := by have := h; simp at this; omega
          subst this
          rw [List.take_length] at hpre
          obtain ⟨pl, hpl⟩ : ∃ pl, placesOf d.tracks names = pl := ⟨_, rfl⟩
          have hplm : ((d.tracks.take d.tracks.length).map fun s => ((names.idxOf s : Nat) : Int)) = pl.map fun p : Nat => (p : Int) := by rw [← hpl, List.take_length]; simp [placesOf]
          have hpll : pl.length = d.tracks.length := by rw [← hpl]; simp [placesOf]
          refine VCode.ent (s' := fr [(1, aSs kn names), (2, .ref 0 0 0), (4, .ref 1 0 0), (6, aIs .any (pl.map fun p : Nat => (p : Int)))]) (H' := [.cells 0 d.cells, .cells 0 den0.cells, .fro d.tracks.length ((pl.map fun p : Nat => (p : Int)).map (.int .i64))]) ?_ ?_
          · refine (Ent.fr' (l := [(1, aSs kn names), (2, .ref 0 0 0), (4, .ref 1 0 0), (6, .hs 2 d.tracks.length 0 d.tracks.length 1)]) (H' := [.cells 0 d.cells, .cells 0 den0.cells, .cells d.tracks.length ((pl.map fun p : Nat => (p : Int)).map (.int .i64))]) ⟨(by kernel_rfl), (by kernel_rfl), (by kernel_rfl), (by kernel_rfl), trivial⟩ (by rw [← hplm]; kernel_rfl)).trans ?_
            refine (Ent.freeze (n := d.tracks.length) (g := d.tracks.length) (es := 1) (cs := (pl.map fun p : Nat => (p : Int)).map (.int .i64)) 6 (b := 2) rfl rfl (by simp [hpll])).trans (Ent.fr' (l := [(1, aSs kn names), (2, .ref 0 0 0), (4, .ref 1 0 0), (6, aIs .any (pl.map fun p : Nat => (p : Int)))]) ⟨(by kernel_rfl), (by kernel_rfl), (by kernel_rfl), Eq.trans (b := .sl .any d.tracks.length ((pl.map fun p : Nat => (p : Int)).map (.int .i64))) (by kernel_rfl) (by simp [aIs, hpll]), trivial⟩ (by kernel_rfl))
          repeat first | refine opsStep ?_ | refine codeStep ?_ | refine drawStep ?_
          refine callS (show closeds [aDen d, aSs kn names, aIs .any (pl.map fun p : Nat => (p : Int))] from by simp [closeds, aDen_closed, aSs_closed, aIs_closed]) (track_over kn .any d names pl (2 ^ names.length) rfl hd hl' (by omega) (fun p hp => ?_) (fun r hr => by rw [hpll]; exact (rowOk_parts (hrows r hr)).1)) (fun X h => by simp at h) ?_
          · rw [← hpl] at hp
            obtain ⟨s, hs, rfl⟩ := List.mem_map.1 hp
            have : s ∈ names := by have := List.all_eq_true.1 hpre s hs; simpa using this
            have := List.idxOf_lt_length_of_mem this
            omega
          rintro v X ⟨hv, x, hX⟩
          have hv := Out.ret.inj hv
          subst hv
          subst hX
          repeat first | refine opsStep ?_ | refine codeStep ?_ | refine drawStep ?_
          refine finR (l := [(4, .ref 1 0 0), (5, .int .i64 0)]) (H₁ := [.cells 0 d.cells, .cells 0 [.hs 5 0 0 names.length 1, .hs 6 0 0 d.accept.length 1, .hs 8 d.next.length 0 d.next.length 1], .fro d.tracks.length ((pl.map fun p : Nat => (p : Int)).map (.int .i64))] ++
            ([.cells 0 d.cells, x, .cells 0 (names.map .str), .cells 0 (d.accept.map .bool), .cells 0 [.hs 2 0 0 names.length 1, .hs 3 0 0 d.accept.length 1, .hs 5 d.next.length 0 d.next.length 1], .cells d.next.length (ovHs (2 ^ names.length) d.next.length)]
        ++ ovBlks (d.rows.map (ovRow names.length pl))).map (Blk.sh 3)) (v := .tup [wdRes d names, .int .i64 0]) ⟨(by kernel_rfl), (by kernel_rfl), trivial⟩ (by kernel_rfl) (Ent.refl _ _ _) (by kernel_rfl) ?_
          refine .inr ⟨widenE_ok hr' hs' hl' hpre, rfl, .cells 0 d.cells, .cells 0 [.hs 5 0 0 names.length 1, .hs 6 0 0 d.accept.length 1, .hs 8 d.next.length 0 d.next.length 1], .fro d.tracks.length ((pl.map fun p : Nat => (p : Int)).map (.int .i64)), .cells 0 (shs 3 d.cells), x.sh 3, .cells 0 [.hs 5 0 0 names.length 1, .hs 6 0 0 d.accept.length 1, .hs 8 d.next.length 0 d.next.length 1], ?_⟩
          rw [wdHeap, hpl, List.map_append, ovBlks_sh]
          simp only [List.map_cons, List.map_nil, Blk.sh, strs_sh, bools_sh, ovHs_sh]
          simp only [show ∀ j, 6 + j + 3 = 9 + j from fun j => by omega]
          rfl

end Tab

/- A machine's run over a word: plain, and the reference's. -/
namespace Tab
open Go Go.Proofs
set_option maxRecDepth 10000
set_option linter.unusedVariables false
set_option linter.unusedSimpArgs false
set_option linter.unusedSectionVars false

def stepN (rows : List (List Int)) (q a : Nat) : Nat := ((rows.getD q []).getD a 0).toNat
def runN (rows : List (List Int)) (q : Nat) (w : List Nat) : Nat := w.foldl (stepN rows) q

theorem stepN_ok {d : Den} (hr : rightS d = true) {q a : Nat} (hq : q < d.accept.length) (ha : a < 2 ^ d.tracks.length) :
    ∃ (h1 : q < d.next.length) (h2 : a < (d.next[q]).2.length), (d.next[q]).2[a] = (stepN d.rows q a : Int) ∧ stepN d.rows q a < d.accept.length := by
  obtain ⟨_, hn, hrows⟩ := rightS_parts hr
  have h1 : q < d.next.length := by omega
  obtain ⟨l1, l2⟩ := rowOk_parts (hrows _ (List.getElem_mem h1))
  have h2 : a < (d.next[q]).2.length := by rw [l1]; exact ha
  have h3 := l2 _ (List.getElem_mem h2)
  have e : stepN d.rows q a = ((d.next[q]).2[a]).toNat := by
    simp [stepN, Den.rows, List.getD_eq_getElem?_getD, h1, h2]
  refine ⟨h1, h2, ?_, ?_⟩
  · rw [e]; omega
  · rw [e]; omega
theorem runN_ok {d : Den} (hr : rightS d = true) : ∀ (w : List Nat) {q : Nat}, q < d.accept.length → (∀ a ∈ w, a < 2 ^ d.tracks.length) → runN d.rows q w < d.accept.length
  | [], _, hq, _ => hq
  | a :: w, q, hq, h => by
    obtain ⟨_, _, _, h3⟩ := stepN_ok hr hq (h a (by simp))
    exact runN_ok hr w h3 fun x hx => h x (by simp [hx])

theorem r12_Run (k : SK) (d : Den) (hd : DenOk d) (hr : rightS d = true) (q : Nat) (hq : q < d.accept.length) (w : List Nat) (hwl : w.length < 2^60) (hw : ∀ a ∈ w, a < 2 ^ d.tracks.length) :
    Pure Try.prog 70 [aDen d, .int .i64 q, aIs k (w.map fun a : Nat => (a : Int))] (.int .i64 (runN d.rows q w : Nat)) := by
  have h3 := hd.next
  refine Pure.of_sw 26 Try.func70 rfl Try.ntmps70 (by kernel_rfl) (Nat.le_of_ble_eq_true (by kernel_rfl)) (by simp [closeds, AV.closed, aSs_closed, aIs_closed, aBs_closed, aRs_closed, aDen_closed]) (by simp [AV.closed, closeds, aSs_closed, aIs_closed, aBs_closed, aRs_closed, aDen_closed]) ?_; refine SW.of_vc ?_
  repeat first | refine opsStep ?_ | refine codeStep ?_ | refine drawStep ?_
  refine loopE_of (ι := {i : Nat // i ≤ w.length})
    (fun i => (fr [(1, .int .i64 (runN d.rows q (w.take i.1) : Nat)), (2, aIs k (w.map fun a : Nat => (a : Int))), (3, .ref 0 0 0), (7, .int .i64 i.1)], [.cells 0 d.cells]))
    (fun i => w.length - i.1) ⟨0, by omega⟩ (Ent.fr' ⟨(by kernel_rfl), (by kernel_rfl), (by kernel_rfl), (by kernel_rfl), trivial⟩ (by kernel_rfl)) ?_
  rintro ⟨i, hi⟩
  repeat first | refine opsStep ?_ | refine codeStep ?_ | refine drawStep ?_
  refine decB_dec (fun h => ?_) (fun h => ?_)
  · have hia : i < w.length := by have := h; simp at this; omega
    have hqi := runN_ok hr (w.take i) hq fun a ha => hw a (List.mem_of_mem_take ha)
    have hai := hw _ (List.getElem_mem hia)
    obtain ⟨g1, g2, g3, g4⟩ := stepN_ok hr hqi hai
    have hnx : runN d.rows q (w.take (i + 1)) = stepN d.rows (runN d.rows q (w.take i)) w[i] := by
      rw [List.take_succ_eq_append_getElem hia, runN, List.foldl_append]; rfl
    have hrow := hd.rows _ (List.getElem_mem g1)
    refine VCode.ent (Ent.fr' (l := [(1, .int .i64 (runN d.rows q (w.take i) : Nat)), (2, aIs k (w.map fun a : Nat => (a : Int))), (3, .ref 0 0 0), (7, .int .i64 i)]) (H' := [.cells 0 d.cells]) ⟨(by kernel_rfl), (by kernel_rfl), (by kernel_rfl), (by kernel_rfl), trivial⟩ (by kernel_rfl)) ?_
    generalize runN d.rows q (w.take i) = qi at *
    repeat first | refine opsStep ?_ | refine codeStep ?_ | refine drawStep ?_
    refine SW.drawn rfl (by kernel_rfl) ?_
    repeat first | refine opsStep ?_ | refine codeStep ?_ | refine drawStep ?_
    refine guardE_of (by simp; omega) ?_
    repeat first | refine opsStep ?_ | refine codeStep ?_ | refine drawStep ?_
    refine optE_of (c := aIs (d.next[qi]).1 (d.next[qi]).2) (by simp [Value.cells, g1]) ?_
    repeat first | refine opsStep ?_ | refine codeStep ?_ | refine drawStep ?_
    refine guardE_of (by simp; omega) ?_
    repeat first | refine opsStep ?_ | refine codeStep ?_ | refine drawStep ?_
    refine optE_of (c := .int .i64 (w[i] : Nat)) (by simp [Value.cells, hia]) ?_
    repeat first | refine opsStep ?_ | refine codeStep ?_ | refine drawStep ?_
    refine guardE_of (by simp; omega) ?_
    repeat first | refine opsStep ?_ | refine codeStep ?_ | refine drawStep ?_
    refine optE_of (c := .int .i64 (stepN d.rows qi w[i] : Nat)) (by simp [Value.cells, g2, g3]) ?_
    repeat first | refine opsStep ?_ | refine codeStep ?_ | refine drawStep ?_
    refine ⟨by kernel_rfl, ?_⟩
    repeat first | refine opsStep ?_ | refine codeStep ?_ | refine drawStep ?_
    refine ⟨⟨i + 1, by omega⟩, (by show w.length - (i + 1) < w.length - i; omega), Ent.fr' ⟨?_, (by kernel_rfl), (by kernel_rfl), inc_slot (i := i) (by omega), trivial⟩ (by kernel_rfl)⟩
    show AV.int .i64 (stepN d.rows qi w[i] : Nat) = AV.int .i64 (runN d.rows q (w.take (i + 1)) : Nat)
    rw [hnx]
  · repeat first | refine opsStep ?_ | refine codeStep ?_ | refine drawStep ?_
    have : i = w.length := by have := h; simp at this; omega
    subst this
    have hf : w.take w.length = w := List.take_length
    exact finV (v' := .int .i64 (runN d.rows q (w.take w.length) : Nat)) (by kernel_rfl) (by rw [hf])

def takesB (d : Den) (w : List Nat) : Bool := d.accept.getD (runN d.rows 0 w) false
theorem right_pos {d : Den} (hr : rightS d = true) : 0 < d.accept.length := by
  obtain ⟨h, _, _⟩ := rightS_parts hr
  simp only [tracksS, Bool.and_eq_true, decide_eq_true_eq] at h
  omega
theorem r12_Takes (k : SK) (d : Den) (hd : DenOk d) (hr : rightS d = true) (w : List Nat) (hwl : w.length < 2^60) (hw : ∀ a ∈ w, a < 2 ^ d.tracks.length) :
    Pure Try.prog 29 [aDen d, aIs k (w.map fun a : Nat => (a : Int))] (.bool (takesB d w)) := by
  have h2 := hd.accept
  have hp := right_pos hr
  have hrun := r12_Run k d hd hr 0 hp w hwl hw
  have hok := runN_ok hr w hp hw
  have ht : d.accept[runN d.rows 0 w]? = some (takesB d w) := by simp [takesB, List.getD_eq_getElem?_getD, hok]
  generalize takesB d w = b at *
  generalize runN d.rows 0 w = r at *
  refine Pure.of_sw 12 Try.func29 rfl Try.ntmps29 (by kernel_rfl) (Nat.le_of_ble_eq_true (by kernel_rfl)) (by simp [closeds, AV.closed, aSs_closed, aIs_closed, aBs_closed, aRs_closed, aDen_closed]) (by simp [AV.closed, closeds, aSs_closed, aIs_closed, aBs_closed, aRs_closed, aDen_closed]) ?_; refine SW.of_vc ?_
  repeat first | refine opsStep ?_ | refine codeStep ?_ | refine drawStep ?_
  refine SW.drawn rfl (by kernel_rfl) ?_
  repeat first | refine opsStep ?_ | refine codeStep ?_ | refine drawStep ?_
  refine .inl ⟨_, _, [], hrun, RdsN_refl _, .inr rfl, none_need, ?_⟩
  repeat first | refine opsStep ?_ | refine codeStep ?_ | refine drawStep ?_
  refine guardE_of (by simp; omega) ?_
  repeat first | refine opsStep ?_ | refine codeStep ?_ | refine drawStep ?_
  refine optE_of (c := .bool b) (by simp [Value.cells, ht]) ?_
  repeat first | refine opsStep ?_ | refine codeStep ?_ | refine drawStep ?_
  refine ⟨by kernel_rfl, ?_⟩
  repeat first | refine opsStep ?_ | refine codeStep ?_ | refine drawStep ?_
  exact finB (b' := b) (by kernel_rfl) rfl

end Tab

/- Rows as cubes: plain. -/
namespace Tab
open Go
set_option maxRecDepth 10000
set_option linter.unusedVariables false
set_option linter.unusedSimpArgs false
set_option linter.unusedSectionVars false

abbrev Cb := Int × Int × Int
def cubR : Nat → List Int → Nat → Nat → List Cb
  | 0, r, m, b => [((m : Int), (b : Int), r.getD 0 0)]
  | k + 1, r, m, b => if r.take (2 ^ k) = r.drop (2 ^ k) then cubR k (r.take (2 ^ k)) m b else cubR k (r.take (2 ^ k)) (m + 2 ^ k) b ++ cubR k (r.drop (2 ^ k)) (m + 2 ^ k) (b + 2 ^ k)
theorem cubR_len : ∀ (k : Nat) (r : List Int) (m b : Nat), (cubR k r m b).length ≤ 2 ^ k ∧ 1 ≤ (cubR k r m b).length
  | 0, r, m, b => by simp [cubR]
  | k + 1, r, m, b => by
    rw [cubR]
    have hp : 2 ^ (k + 1) = 2 ^ k + 2 ^ k := by rw [Nat.pow_succ]; omega
    split
    · obtain ⟨h1, h2⟩ := cubR_len k (r.take (2 ^ k)) m b
      omega
    · obtain ⟨h1, h2⟩ := cubR_len k (r.take (2 ^ k)) (m + 2 ^ k) b
      obtain ⟨h3, h4⟩ := cubR_len k (r.drop (2 ^ k)) (m + 2 ^ k) (b + 2 ^ k)
      rw [List.length_append]
      omega

def andI (a b : Int) : Int := IntKind.wrap .i64 ((BitVec.ofInt 64 a &&& BitVec.ofInt 64 b).toNat : Nat)
def orI (a b : Int) : Int := IntKind.wrap .i64 ((BitVec.ofInt 64 a ||| BitVec.ofInt 64 b).toNat : Nat)
theorem orI_nat {a b : Nat} (ha : a < 2 ^ 62) (hb : b < 2 ^ 62) : orI a b = ((a ||| b : Nat) : Int) := by
  have h : a ||| b < 2 ^ 62 := Nat.or_lt_two_pow ha hb
  rw [orI, BitVec.toNat_or, BitVec.ofInt_natCast, BitVec.ofInt_natCast, BitVec.toNat_ofNat, BitVec.toNat_ofNat, Nat.mod_eq_of_lt (by omega), Nat.mod_eq_of_lt (by omega), IntWalk.i64_in _ (by omega)]
theorem or_add {m k : Nat} (h : 2 ^ (k + 1) ∣ m) : m ||| 2 ^ k = m + 2 ^ k := by
  obtain ⟨a, rfl⟩ := h
  exact (Nat.two_pow_add_eq_or_of_lt (Nat.pow_lt_pow_right (by omega) (by omega)) a).symm

def hitC (i : Int) (c : Cb) : Bool := decide (andI i c.1 = c.2.1)
/-- Where a letter leads. -/
def atC (cs : List Cb) (i : Int) : Option Int := (cs.find? (hitC i)).map fun c => c.2.2
def rowC (cs : List Cb) (k : Nat) : List Int := (List.range (2 ^ k)).map fun i : Nat => (atC cs i).getD 0
/-- Are they a row's cubes? -/
def cubesOk (cs : List Cb) (k : Nat) : Bool := decide (cs.length ≤ 2 ^ k) && ((List.range (2 ^ k)).all fun i : Nat => (atC cs i).isSome) && ((rowC cs k).all fun x => decide (0 ≤ x)) && decide (cubR k (rowC cs k) 0 0 = cs)
theorem rowC_length (cs k) : (rowC cs k).length = 2 ^ k := by simp [rowC]
theorem rowC_get {cs : List Cb} {k i : Nat} (h : i < 2 ^ k) : (rowC cs k)[i]? = some ((atC cs i).getD 0) := by simp [rowC, h]

theorem atC_find {cs : List Cb} {i : Int} {j : Nat} (hj : j < cs.length) (hn : ∀ j' (h' : j' < j), hitC i (cs[j']'(by omega)) = false) (h : hitC i cs[j] = true) : atC cs i = some (cs[j]).2.2 := by
  rw [atC]
  have : cs.find? (hitC i) = some cs[j] := by
    rw [List.find?_eq_some_iff_getElem]
    exact ⟨h, j, hj, rfl, fun j' h' => by simp [hn j' h']⟩
  rw [this]; rfl
theorem atC_none {cs : List Cb} {i : Int} (hn : ∀ j (h : j < cs.length), hitC i cs[j] = false) : atC cs i = none := by
  rw [atC]
  have : cs.find? (hitC i) = none := by
    rw [List.find?_eq_none]
    intro c hc
    obtain ⟨j, hj, rfl⟩ := List.getElem_of_mem hc
    simp [hn j hj]
  rw [this]; rfl

structure Aut where
  tk : SK
  tracks : List (List UInt8)
  ak : SK
  accept : List Bool
  sk : SK
  starts : List Int
  ck : SK
  arena : List Cb
def Aut.st (a : Aut) (q : Nat) : Nat := (a.starts.getD q 0).toNat
def Aut.row (a : Aut) (q : Nat) : List Cb := (a.arena.drop (a.st q)).take (a.st (q + 1) - a.st q)
def sortedI : List Int → Bool
  | a :: b :: l => decide (a ≤ b) && sortedI (b :: l)
  | _ => true
/-- The frame of a table: what is checked ahead of its rows. -/
def frameS (a : Aut) : Bool := tracksS a.tracks a.accept.length && decide (a.starts.length = a.accept.length + 1) && decide (a.starts.getD 0 0 = 0) && decide (a.starts.getD a.accept.length 0 = a.arena.length) && sortedI a.starts
def rowOkS (a : Aut) (q : Nat) : Bool := decide ((a.row q).length ≤ 32) && cubesOk (a.row q) a.tracks.length && ((rowC (a.row q) a.tracks.length).all fun x => decide (x < a.accept.length))
def checkS (a : Aut) : Bool := frameS a && (List.range a.accept.length).all (rowOkS a)
@[irreducible] def unpE (a : Aut) : Int := if checkS a = true then 0 else 3
@[irreducible] def unpD (a : Aut) : Den := if checkS a = true then ⟨.any, a.tracks, .any, a.accept, .any, (List.range a.accept.length).map fun q => (.any, rowC (a.row q) a.tracks.length)⟩ else den0
theorem unpE_zero {a : Aut} : unpE a = 0 ↔ checkS a = true := by
  rw [unpE]; split <;> simp_all
theorem unpE_bad {a : Aut} (h : checkS a = false) : unpE a = 3 := by rw [unpE, h]; rfl
theorem unpD_ok {a : Aut} (h : checkS a = true) : unpD a = ⟨.any, a.tracks, .any, a.accept, .any, (List.range a.accept.length).map fun q => (.any, rowC (a.row q) a.tracks.length)⟩ := by rw [unpD, if_pos h]
theorem unpD_bad {a : Aut} (h : checkS a = false) : unpD a = den0 := by rw [unpD, h]; rfl

theorem sorted_get : ∀ {l : List Int}, sortedI l = true → ∀ i (h : i + 1 < l.length), l[i] ≤ l[i + 1]
  | [], _, i, h => by simp at h
  | [a], _, i, h => by simp at h
  | a :: b :: l, hs, i, h => by
    simp only [sortedI, Bool.and_eq_true, decide_eq_true_eq] at hs
    cases i with
    | zero => exact hs.1
    | succ i => exact sorted_get hs.2 i (by simpa using h)
theorem sorted_of : ∀ {l : List Int}, (∀ i (h : i + 1 < l.length), l[i] ≤ l[i + 1]) → sortedI l = true
  | [], _ => rfl
  | [a], _ => rfl
  | a :: b :: l, hs => by
    simp only [sortedI, Bool.and_eq_true, decide_eq_true_eq]
    exact ⟨hs 0 (by simp), sorted_of fun i h => hs (i + 1) (by simpa using h)⟩
theorem sorted_le {l : List Int} (hs : sortedI l = true) : ∀ {j i : Nat} (hj : j < l.length) (hij : i ≤ j), l[i]'(by omega) ≤ l[j]
  | 0, i, hj, hij => by have : i = 0 := by omega
                        subst this; omega
  | j + 1, i, hj, hij => by
    by_cases e : i = j + 1
    · subst e; omega
    · have h1 := sorted_le hs (j := j) (i := i) (by omega) (by omega)
      have h2 := sorted_get hs j hj
      omega
structure FrameOk (a : Aut) : Prop where
  tracks : tracksS a.tracks a.accept.length = true
  len : a.starts.length = a.accept.length + 1
  zero : a.starts.getD 0 0 = 0
  last : a.starts.getD a.accept.length 0 = a.arena.length
  sorted : sortedI a.starts = true
theorem frameS_iff {a : Aut} : frameS a = true ↔ FrameOk a := by
  simp only [frameS, Bool.and_eq_true, decide_eq_true_eq]
  exact ⟨fun ⟨⟨⟨⟨h1, h2⟩, h3⟩, h4⟩, h5⟩ => ⟨h1, h2, h3, h4, h5⟩, fun h => ⟨⟨⟨⟨h.1, h.2⟩, h.3⟩, h.4⟩, h.5⟩⟩
theorem FrameOk.get {a : Aut} (h : FrameOk a) {q : Nat} (hq : q ≤ a.accept.length) : a.starts[q]? = some (a.st q : Int) ∧ a.st q ≤ a.arena.length := by
  have hl := h.len
  have e : ∀ i, i < a.starts.length → a.starts.getD i 0 = a.starts[i]! := fun i hi => by simp [List.getD_eq_getElem?_getD, hi]
  have hz : a.starts[0]'(by omega) = 0 := by have := h.zero; rw [List.getD_eq_getElem?_getD, List.getElem?_eq_getElem (by omega)] at this; simpa using this
  have hL : a.starts[a.accept.length]'(by omega) = a.arena.length := by have := h.last; rw [List.getD_eq_getElem?_getD, List.getElem?_eq_getElem (by omega)] at this; simpa using this
  have h1 := sorted_le h.sorted (j := q) (i := 0) (by omega) (by omega)
  have h2 := sorted_le h.sorted (j := a.accept.length) (i := q) (by omega) hq
  have h3 : a.starts.getD q 0 = a.starts[q]'(by omega) := by rw [List.getD_eq_getElem?_getD, List.getElem?_eq_getElem (by omega)]; rfl
  refine ⟨?_, ?_⟩
  · rw [List.getElem?_eq_getElem (by omega), Aut.st, h3]; congr 1; omega
  · rw [Aut.st, h3]; omega
theorem FrameOk.le {a : Aut} (h : FrameOk a) {q : Nat} (hq : q < a.accept.length) : a.st q ≤ a.st (q + 1) := by
  have hl := h.len
  have h1 := sorted_get h.sorted q (by omega)
  obtain ⟨g1, _⟩ := h.get (q := q) (by omega)
  obtain ⟨g2, _⟩ := h.get (q := q + 1) (by omega)
  rw [List.getElem?_eq_getElem (by omega), Option.some.injEq] at g1 g2
  rw [g1, g2] at h1
  omega
theorem unpD_right {a : Aut} (h : checkS a = true) : rightS (unpD a) = true ∧ (unpD a).tracks = a.tracks ∧ (unpD a).accept = a.accept := by
  rw [unpD_ok h]
  refine ⟨?_, rfl, rfl⟩
  simp only [checkS, Bool.and_eq_true, List.all_eq_true, List.mem_range] at h
  obtain ⟨h1, h2⟩ := h
  have hf := frameS_iff.1 h1
  rw [rightS]
  simp only [Bool.and_eq_true, decide_eq_true_eq, List.all_eq_true, List.length_map, List.length_range, List.mem_map, List.mem_range]
  refine ⟨⟨hf.tracks, trivial⟩, ?_⟩
  rintro r ⟨q, hq, rfl⟩
  have hr := h2 q hq
  simp only [rowOkS, Bool.and_eq_true, decide_eq_true_eq, List.all_eq_true] at hr
  obtain ⟨⟨_, h4⟩, h5⟩ := hr
  simp only [cubesOk, Bool.and_eq_true, decide_eq_true_eq, List.all_eq_true] at h4
  rw [rowOk]
  simp only [Bool.and_eq_true, decide_eq_true_eq, List.all_eq_true]
  refine ⟨rowC_length _ _, fun x hx => ⟨h4.1.2 x hx, h5 x hx⟩⟩

end Tab

/- Lists compared, sorted; where a letter leads; cubes out of a row. -/
namespace Tab
open Go Go.Proofs
set_option maxRecDepth 10000
set_option linter.unusedVariables false
set_option linter.unusedSimpArgs false
set_option linter.unusedSectionVars false

def cb3 (c : Cb) : List AV := [.int .i64 c.1, .int .i64 c.2.1, .int .i64 c.2.2]
def cc3 (L : List Cb) : List AV := L.flatMap cb3
def aCs (k : SK) (l : List Cb) : AV := .sl k l.length (cc3 l)
def okI (x : Int) : Prop := -(2 ^ 63) ≤ x ∧ x < 2 ^ 63
def okC (c : Cb) : Prop := okI c.1 ∧ okI c.2.1 ∧ okI c.2.2
theorem cc3_length : ∀ L, (cc3 L).length = L.length * 3
  | [] => rfl
  | p :: L => by have := cc3_length L; simp only [cc3, cb3, List.flatMap_cons, List.length_append, List.length_cons, List.length_nil] at this ⊢; omega
theorem cc3_append (L M : List Cb) : cc3 (L ++ M) = cc3 L ++ cc3 M := by simp [cc3]
theorem cc3_drop : ∀ (L : List Cb) (i : Nat), (cc3 L).drop (i * 3) = cc3 (L.drop i)
  | L, 0 => by simp
  | [], i + 1 => by simp [cc3]
  | c :: L, i + 1 => by
    rw [show (i + 1) * 3 = i * 3 + 3 by omega, List.drop_succ_cons, ← cc3_drop L i]
    simp [cc3, cb3]
theorem cc3_take : ∀ (L : List Cb) (i : Nat), (cc3 L).take (i * 3) = cc3 (L.take i)
  | L, 0 => by simp [cc3]
  | [], i + 1 => by simp [cc3]
  | c :: L, i + 1 => by
    rw [show (i + 1) * 3 = i * 3 + 3 by omega, List.take_succ_cons]
    have := cc3_take L i
    simp only [cc3, cb3, List.flatMap_cons, List.cons_append, List.nil_append, List.take_succ_cons] at this ⊢
    rw [this]
theorem cc3_get {L : List Cb} {i : Nat} {c : Cb} (h : L[i]? = some c) : ((cc3 L).drop (i * 3)).take 3 = cb3 c ∧ 3 ≤ ((cc3 L).drop (i * 3)).length := by
  obtain ⟨h1, h2⟩ := List.getElem?_eq_some_iff.1 h
  have e : L.drop i = c :: L.drop (i + 1) := by rw [← h2]; exact List.drop_eq_getElem_cons h1
  rw [cc3_drop, e]
  simp [cc3, cb3]
theorem cb3_closed (c : Cb) : closeds (cb3 c) := by simp [cb3, closeds, AV.closed]
theorem cc3_closed (L : List Cb) : closeds (cc3 L) := by
  rw [closeds_iff]
  intro a ha
  obtain ⟨p, _, hp⟩ := List.mem_flatMap.1 ha
  exact closeds_iff.1 (cb3_closed p) a hp
theorem aCs_closed (k l) : (aCs k l).closed := cc3_closed l
def Aut.cells (a : Aut) : List AV := [aSs a.tk a.tracks, aBs a.ak a.accept, aIs a.sk a.starts, aCs a.ck a.arena]
def aAut (a : Aut) : AV := .agg a.cells
theorem aAut_closed (a : Aut) : (aAut a).closed := by simp [aAut, Aut.cells, AV.closed, closeds, aSs_closed, aBs_closed, aIs_closed, aCs_closed]
@[simp] theorem aCs_bel (n k l) : (aCs k l).bel n := AV.closed_bel _ (aCs_closed k l)
@[simp] theorem aAut_bel (n a) : (aAut a).bel n := AV.closed_bel _ (aAut_closed a)
theorem ldAgg {cs xs : List AV} {n : Nat} {k : Eff → Prop} (h : cs.take n = xs) (hl : n ≤ cs.length) (hk : k { v := .agg xs }) : guardE (n ≤ cs.length) (k { v := .agg (cs.take n) }) := by subst h; exact guardE_of hl hk

theorem lits3 {a b c : Int} (ha : okI a) (hb : okI b) (hc : okI c) (n : Nat) : Try.prog.keyLits (n + 2) 92 [.int .i64 a, .int .i64 b, .int .i64 c] = some [.int .i64 a, .int .i64 b, .int .i64 c] := by
  have hi : Try.prog.underlying 3 = some (.int .i64) := (by kernel_rfl)
  have hc1 : Try.prog.cellsOf 3 = 1 := (by kernel_rfl)
  have hcC : Try.prog.cellsOf 92 = 3 := (by kernel_rfl)
  have hu : Try.prog.underlying 92 = some (.struct #[{ name := "Mask", type := 3, offset := 0, embedded := false, tag := "", pkgPath := "", byteOffset := 0 }, { name := "Bits", type := 3, offset := 1, embedded := false, tag := "", pkgPath := "", byteOffset := 8 }, { name := "To", type := 3, offset := 2, embedded := false, tag := "", pkgPath := "", byteOffset := 16 }]) := (by kernel_rfl)
  have hw : ∀ x : Int, okI x → (Lit.int .i64 x).wf = true := fun x h => by
    obtain ⟨h1, h2⟩ := h
    simp only [Lit.wf, Bool.and_eq_true, decide_eq_true_eq, show IntKind.i64.min = -9223372036854775808 from rfl, show IntKind.i64.max = 9223372036854775807 from rfl]
    omega
  have e1 : ∀ (n : Nat) (x : Int), okI x → Try.prog.keyLits (n + 1) 3 [.int .i64 x] = some [.int .i64 x] := fun n x h => by
    unfold Program.keyLits
    rw [hi]
    exact if_pos ⟨rfl, hw x h⟩
  unfold Program.keyLits
  rw [hu]
  simp only
  rw [if_pos ⟨by rw [hcC]; rfl, (by kernel_rfl)⟩]
  simp [hc1, e1 n a ha, e1 n b hb, e1 n c hc]
theorem eqlC {c c' : Cb} (h : okC c) (h' : okC c') : EqlE Try.prog 92 (cb3 c) (cb3 c') (decide (c = c')) := by
  have hu : Try.prog.underlying 92 = some (.struct #[{ name := "Mask", type := 3, offset := 0, embedded := false, tag := "", pkgPath := "", byteOffset := 0 }, { name := "Bits", type := 3, offset := 1, embedded := false, tag := "", pkgPath := "", byteOffset := 8 }, { name := "To", type := 3, offset := 2, embedded := false, tag := "", pkgPath := "", byteOffset := 16 }]) := (by kernel_rfl)
  have hcC : Try.prog.cellsOf 92 = 3 := (by kernel_rfl)
  have hf : ∀ x y z : Int, Value.formed Try.prog 92 (.agg #[.int .i64 x, .int .i64 y, .int .i64 z]) = true := fun x y z => by simp only [Value.formed, hu, hcC]; rfl
  obtain ⟨a, b, c⟩ := c
  obtain ⟨a', b', c'⟩ := c'
  refine .mk (xs := [.int .i64 a, .int .i64 b, .int .i64 c]) (ys := [.int .i64 a', .int .i64 b', .int .i64 c']) (la := [.int .i64 a, .int .i64 b, .int .i64 c]) (lb := [.int .i64 a', .int .i64 b', .int .i64 c']) (D := 0 + 2) (D' := 0 + 2) (m := 2) ?_ rfl rfl (lits3 h.1 h.2.1 h.2.2 0) (lits3 h'.1 h'.2.1 h'.2.2 0) (by kernel_rfl) (by decide) (hf a b c) (hf a' b' c') (by kernel_rfl)
  rw [decide_eq_true_eq]
  simp

theorem slices_Equal_I (k k' : SK) (a b : List Int) (ha : a.length < 2^62) (hb : b.length < 2^62) : Pure Try.prog 167 [aIs k a, aIs k' b] (.bool (decide (a = b))) := by
  refine Pure.of_sw 26 Try.func167 rfl Try.ntmps167 (by kernel_rfl) (Nat.le_of_ble_eq_true (by kernel_rfl)) (by simp [closeds, AV.closed, aSs_closed, aIs_closed, aBs_closed, aRs_closed, aDen_closed]) (by simp [AV.closed, closeds, aSs_closed, aIs_closed, aBs_closed, aRs_closed, aDen_closed]) ?_; refine SW.of_vc ?_
  repeat first | refine opsStep ?_ | refine codeStep ?_ | refine drawStep ?_
  refine decB_split (fun h => ?_) (fun h => ?_)
  · repeat first | refine opsStep ?_ | refine codeStep ?_ | refine drawStep ?_
    exact finB rfl (by simp at h; simp; intro e; exact h (by rw [e]))
  · repeat first | refine opsStep ?_ | refine codeStep ?_ | refine drawStep ?_
    have hl : a.length = b.length := by simp at h; omega
    refine loopE_of (ι := {i : Nat // i ≤ a.length ∧ a.take i = b.take i}) (fun i => (fr [(0, aIs k a), (1, aIs k' b), (12, .int .i64 a.length), (13, .int .i64 i.1)], [])) (fun i => a.length - i.1) ⟨0, by omega, by simp⟩ (Ent.fr' ⟨(by kernel_rfl), (by kernel_rfl), (by kernel_rfl), (by kernel_rfl), trivial⟩ (by kernel_rfl)) ?_
    rintro ⟨i, hi, hpre⟩
    repeat first | refine opsStep ?_ | refine codeStep ?_ | refine drawStep ?_
    refine decB_split (fun h => ?_) (fun h => ?_)
    · have hia : i < a.length := by simpa using h
      repeat first | refine opsStep ?_ | refine codeStep ?_ | refine drawStep ?_
      refine SW.drawn rfl (by kernel_rfl) ?_
      repeat first | refine opsStep ?_ | refine codeStep ?_ | refine drawStep ?_
      refine guardE_of (by simp; omega) ?_
      repeat first | refine opsStep ?_ | refine codeStep ?_ | refine drawStep ?_
      refine optE_of (c := .int .i64 a[i]) (by simp [Value.cells, hia]) ?_
      repeat first | refine opsStep ?_ | refine codeStep ?_ | refine drawStep ?_
      refine guardE_of (by simp; omega) ?_
      repeat first | refine opsStep ?_ | refine codeStep ?_ | refine drawStep ?_
      refine optE_of (c := .int .i64 b[i]) (by simp [Value.cells, hl ▸ hia]) ?_
      repeat first | refine opsStep ?_ | refine codeStep ?_ | refine drawStep ?_
      refine ⟨by kernel_rfl, ?_⟩
      repeat first | refine opsStep ?_ | refine codeStep ?_ | refine drawStep ?_
      refine decB_split (fun h => ?_) (fun h => ?_)
      · repeat first | refine opsStep ?_ | refine codeStep ?_ | refine drawStep ?_
        exact finB rfl (by simp at h; simp; rintro rfl; exact h rfl)
      · repeat first | refine opsStep ?_ | refine codeStep ?_ | refine drawStep ?_
        refine ⟨⟨i + 1, by omega, ?_⟩, (by show a.length - (i + 1) < a.length - i; omega), Ent.fr' ⟨(by kernel_rfl), (by kernel_rfl), (by kernel_rfl), inc_slot (i := i) (by omega), trivial⟩ (by kernel_rfl)⟩
        rw [List.take_succ_eq_append_getElem hia, List.take_succ_eq_append_getElem (hl ▸ hia), hpre]
        simp at h; rw [h]
    · repeat first | refine opsStep ?_ | refine codeStep ?_ | refine drawStep ?_
      have : i = a.length := by simp at h; omega
      exact finB rfl (by subst this; rw [List.take_length, hl, List.take_length] at hpre; simpa using hpre)

theorem slices_Equal_C (k k' : SK) (a b : List Cb) (ha : a.length < 2^60) (hb : b.length < 2^60) (oa : ∀ c ∈ a, okC c) (ob : ∀ c ∈ b, okC c) : Pure Try.prog 112 [aCs k a, aCs k' b] (.bool (decide (a = b))) := by
  refine Pure.of_sw 26 Try.func112 rfl Try.ntmps112 (by kernel_rfl) (Nat.le_of_ble_eq_true (by kernel_rfl)) (by simp [closeds, AV.closed, aSs_closed, aIs_closed, aBs_closed, aRs_closed, aDen_closed, aCs_closed, aAut_closed]) (by simp [AV.closed, closeds, aSs_closed, aIs_closed, aBs_closed, aRs_closed, aDen_closed, aCs_closed, aAut_closed]) ?_; refine SW.of_vc ?_
  repeat first | refine opsStep ?_ | refine codeStep ?_ | refine drawStep ?_
  refine decB_split (fun h => ?_) (fun h => ?_)
  · repeat first | refine opsStep ?_ | refine codeStep ?_ | refine drawStep ?_
    exact finB rfl (by simp at h; simp; intro e; exact h (by rw [e]))
  · repeat first | refine opsStep ?_ | refine codeStep ?_ | refine drawStep ?_
    have hl : a.length = b.length := by simp at h; omega
    refine loopE_of (ι := {i : Nat // i ≤ a.length ∧ a.take i = b.take i}) (fun i => (fr [(0, aCs k a), (1, aCs k' b), (12, .int .i64 a.length), (13, .int .i64 i.1)], [])) (fun i => a.length - i.1) ⟨0, by omega, by simp⟩ (Ent.fr' ⟨(by kernel_rfl), (by kernel_rfl), (by kernel_rfl), (by kernel_rfl), trivial⟩ (by kernel_rfl)) ?_
    rintro ⟨i, hi, hpre⟩
    repeat first | refine opsStep ?_ | refine codeStep ?_ | refine drawStep ?_
    refine decB_split (fun h => ?_) (fun h => ?_)
    · have hia : i < a.length := by simpa using h
      obtain ⟨g1, g2⟩ := cc3_get (List.getElem?_eq_getElem hia)
      obtain ⟨g3, g4⟩ := cc3_get (List.getElem?_eq_getElem (show i < b.length by omega))
      have he : EqlE Try.prog 92 (((cc3 a).drop (i * 3)).take 3) (((cc3 b).drop (i * 3)).take 3) (decide (a[i] = b[i])) := by rw [g1, g3]; exact eqlC (oa _ (List.getElem_mem hia)) (ob _ (List.getElem_mem (show i < b.length by omega)))
      repeat first | refine opsStep ?_ | refine codeStep ?_ | refine drawStep ?_
      refine SW.drawn rfl (by kernel_rfl) ?_
      repeat first | refine opsStep ?_ | refine codeStep ?_ | refine drawStep ?_
      refine guardE_of (by simp; omega) ?_
      repeat first | refine opsStep ?_ | refine codeStep ?_ | refine drawStep ?_
      refine guardE_of g2 ?_
      repeat first | refine opsStep ?_ | refine codeStep ?_ | refine drawStep ?_
      refine guardE_of (by simp; omega) ?_
      repeat first | refine opsStep ?_ | refine codeStep ?_ | refine drawStep ?_
      refine guardE_of g4 ?_
      repeat first | refine opsStep ?_ | refine codeStep ?_ | refine drawStep ?_
      refine ⟨_, he, ?_⟩
      repeat first | refine opsStep ?_ | refine codeStep ?_ | refine drawStep ?_
      refine ⟨by kernel_rfl, ?_⟩
      repeat first | refine opsStep ?_ | refine codeStep ?_ | refine drawStep ?_
      refine decB_split (fun h => ?_) (fun h => ?_)
      · repeat first | refine opsStep ?_ | refine codeStep ?_ | refine drawStep ?_
        exact finB rfl (by simp at h; simp; rintro rfl; exact h rfl)
      · repeat first | refine opsStep ?_ | refine codeStep ?_ | refine drawStep ?_
        refine ⟨⟨i + 1, by omega, ?_⟩, (by show a.length - (i + 1) < a.length - i; omega), Ent.fr' ⟨(by kernel_rfl), (by kernel_rfl), (by kernel_rfl), inc_slot (i := i) (by omega), trivial⟩ (by kernel_rfl)⟩
        rw [List.take_succ_eq_append_getElem hia, List.take_succ_eq_append_getElem (hl ▸ hia), hpre]
        simp at h; rw [h]
    · repeat first | refine opsStep ?_ | refine codeStep ?_ | refine drawStep ?_
      have : i = a.length := by simp at h; omega
      exact finB rfl (by subst this; rw [List.take_length, hl, List.take_length] at hpre; simpa using hpre)

theorem cmp_isNaN_I (x : Int) : Pure Try.prog 106 [.int .i64 x] (.bool false) := by
  refine Pure.of_sw 6 Try.func106 rfl Try.ntmps106 (by kernel_rfl) (Nat.le_of_ble_eq_true (by kernel_rfl)) (by simp [closeds, AV.closed, aSs_closed, aIs_closed, aBs_closed, aRs_closed, aDen_closed]) (by simp [AV.closed, closeds, aSs_closed, aIs_closed, aBs_closed, aRs_closed, aDen_closed]) ?_; refine SW.of_vc ?_
  repeat first | refine opsStep ?_ | refine codeStep ?_ | refine drawStep ?_
  exact finB (b' := decide (x ≠ x)) (by kernel_rfl) (by simp)
theorem cmp_Less_I (x y : Int) : Pure Try.prog 142 [.int .i64 x, .int .i64 y] (.bool (decide (x < y))) := by
  refine Pure.of_sw 17 Try.func142 rfl Try.ntmps142 (by kernel_rfl) (Nat.le_of_ble_eq_true (by kernel_rfl)) (by simp [closeds, AV.closed, aSs_closed, aIs_closed, aBs_closed, aRs_closed, aDen_closed]) (by simp [AV.closed, closeds, aSs_closed, aIs_closed, aBs_closed, aRs_closed, aDen_closed]) ?_; refine SW.of_vc ?_
  repeat first | refine opsStep ?_ | refine codeStep ?_ | refine drawStep ?_
  refine callP (cmp_isNaN_I x) ?_
  repeat first | refine opsStep ?_ | refine codeStep ?_ | refine drawStep ?_
  exact finB (b' := decide (x < y)) (by kernel_rfl) rfl

theorem slices_IsSorted_I (k : SK) (l : List Int) (hl : l.length < 2^60) : Pure Try.prog 108 [aIs k l] (.bool (sortedI l)) := by
  refine Pure.of_sw 21 Try.func108 rfl Try.ntmps108 (by kernel_rfl) (Nat.le_of_ble_eq_true (by kernel_rfl)) (by simp [closeds, AV.closed, aSs_closed, aIs_closed, aBs_closed, aRs_closed, aDen_closed]) (by simp [AV.closed, closeds, aSs_closed, aIs_closed, aBs_closed, aRs_closed, aDen_closed]) ?_; refine SW.of_vc ?_
  repeat first | refine opsStep ?_ | refine codeStep ?_ | refine drawStep ?_
  refine loopE_of (ι := {j : Nat // j ≤ l.length ∧ ∀ i, j ≤ i + 1 → ∀ h : i + 1 < l.length, l[i] ≤ l[i + 1]}) (fun j => (fr [(0, aIs k l), (3, .int .i64 ((j.1 : Int) - 1))], [])) (fun j => j.1) ⟨l.length, by omega, fun i h h' => by omega⟩ (Ent.fr' ⟨(by kernel_rfl), dec_slot' (by omega), trivial⟩ (by kernel_rfl)) ?_
  rintro ⟨j, hj, hpre⟩
  repeat first | refine opsStep ?_ | refine codeStep ?_ | refine drawStep ?_
  refine decB_dec (fun h => ?_) (fun h => ?_)
  · have hj2 : 2 ≤ j := by have := h; simp at this; omega
    have hws : IntKind.wrap .i64 ((j : Int) - 1 - 1) = ((j - 2 : Nat) : Int) := by rw [IntWalk.i64_in _ (by omega)]; omega
    have hLs := cmp_Less_I l[j - 1] l[j - 2]
    repeat first | refine opsStep ?_ | refine codeStep ?_ | refine drawStep ?_
    refine SW.drawn rfl (by kernel_rfl) ?_
    repeat first | refine opsStep ?_ | refine codeStep ?_ | refine drawStep ?_
    refine guardE_of (by simp; omega) ?_
    repeat first | refine opsStep ?_ | refine codeStep ?_ | refine drawStep ?_
    refine optE_of (c := .int .i64 l[j - 1]) (by rw [show ((j : Int) - 1).toNat = j - 1 by omega]; simp [Value.cells, show j - 1 < l.length by omega]) ?_
    repeat first | refine opsStep ?_ | refine codeStep ?_ | refine drawStep ?_
    refine guardE_of (by rw [hws]; omega) ?_
    repeat first | refine opsStep ?_ | refine codeStep ?_ | refine drawStep ?_
    refine optE_of (c := .int .i64 l[j - 2]) (by rw [hws]; simp [Value.cells, show j - 2 < l.length by omega]) ?_
    repeat first | refine opsStep ?_ | refine codeStep ?_ | refine drawStep ?_
    refine .inl ⟨_, _, [], hLs, RdsN_refl _, .inr rfl, none_need, ?_⟩
    repeat first | refine opsStep ?_ | refine codeStep ?_ | refine drawStep ?_
    refine ⟨by kernel_rfl, ?_⟩
    repeat first | refine opsStep ?_ | refine codeStep ?_ | refine drawStep ?_
    refine decB_dec (fun h2 => ?_) (fun h2 => ?_)
    · repeat first | refine opsStep ?_ | refine codeStep ?_ | refine drawStep ?_
      refine finB (b' := false) (by kernel_rfl) ?_
      cases hs : sortedI l with
      | false => rfl
      | true =>
        have := sorted_get hs (j - 2) (by omega)
        simp only [show j - 2 + 1 = j - 1 by omega] at this
        omega
    · repeat first | refine opsStep ?_ | refine codeStep ?_ | refine drawStep ?_
      refine ⟨⟨j - 1, by omega, fun i hi h' => ?_⟩, (by show j - 1 < j; omega), Ent.fr' ⟨(by kernel_rfl), ?_, trivial⟩ (by kernel_rfl)⟩
      · by_cases e : j ≤ i + 1
        · exact hpre i e h'
        · have e : i = j - 2 := by omega
          subst e
          simp only [show j - 2 + 1 = j - 1 by omega]
          omega
      · show AV.int .i64 (IntKind.wrap .i64 ((j : Int) - 1 - 1)) = AV.int .i64 (((j - 1 : Nat) : Int) - 1)
        rw [hws]; congr 1; omega
  · repeat first | refine opsStep ?_ | refine codeStep ?_ | refine drawStep ?_
    have : j ≤ 1 := by have := h; simp at this; omega
    exact finB (b' := true) (by kernel_rfl) (sorted_of fun i h => hpre i (by omega) h).symm

theorem row_At (k : SK) (cs : List Cb) (i : Int) (hl : cs.length < 2^60) : Pure Try.prog 110 [aCs k cs, .int .i64 i] (.tup [.int .i64 ((atC cs i).getD 0), .bool (atC cs i).isSome]) := by
  refine Pure.of_sw 24 Try.func110 rfl Try.ntmps110 (by kernel_rfl) (Nat.le_of_ble_eq_true (by kernel_rfl)) (by simp [closeds, AV.closed, aSs_closed, aIs_closed, aBs_closed, aRs_closed, aDen_closed, aCs_closed, aAut_closed]) (by simp [AV.closed, closeds, aSs_closed, aIs_closed, aBs_closed, aRs_closed, aDen_closed, aCs_closed, aAut_closed]) ?_; refine SW.of_vc ?_
  repeat first | refine opsStep ?_ | refine codeStep ?_ | refine drawStep ?_
  refine loopE_of (ι := {j : Nat // j ≤ cs.length ∧ ∀ j' (h : j' < cs.length), j' < j → hitC i cs[j'] = false}) (fun j => (fr [(1, .int .i64 i), (8, aCs k cs), (9, .int .i64 cs.length), (10, .int .i64 j.1)], [])) (fun j => cs.length - j.1) ⟨0, by omega, fun _ _ h => by omega⟩ (Ent.fr' ⟨(by kernel_rfl), (by kernel_rfl), (by kernel_rfl), (by kernel_rfl), trivial⟩ (by kernel_rfl)) ?_
  rintro ⟨j, hj, hpre⟩
  repeat first | refine opsStep ?_ | refine codeStep ?_ | refine drawStep ?_
  refine decB_dec (fun h => ?_) (fun h => ?_)
  · have hja : j < cs.length := by have := h; simp at this; omega
    obtain ⟨g1, g2⟩ := cc3_get (List.getElem?_eq_getElem hja)
    repeat first | refine opsStep ?_ | refine codeStep ?_ | refine drawStep ?_
    refine guardE_of (by simp; omega) ?_
    repeat first | refine opsStep ?_ | refine codeStep ?_ | refine drawStep ?_
    refine guardE_of g2 ?_
    repeat first | refine opsStep ?_ | refine codeStep ?_ | refine drawStep ?_
    refine guardE_of ⟨by show (((cc3 cs).drop (j * 3)).take 3).length = 3; rw [g1]; rfl, by decide, by decide⟩ ?_
    iterate 1 refine opsStep ?_
    refine VCode.ent (Ent.fr' (l := [(1, .int .i64 i), (8, aCs k cs), (9, .int .i64 cs.length), (10, .int .i64 j), (7, .ref 0 0 0)]) (H' := [.cells 0 (cb3 cs[j])]) ⟨(by kernel_rfl), (by kernel_rfl), (by kernel_rfl), (by kernel_rfl), (by kernel_rfl), trivial⟩ (Eq.trans (b := [.cells 0 (over [.int .i64 0, .int .i64 0, .int .i64 0] 0 (((cc3 cs).drop (j * 3)).take 3))]) (by kernel_rfl) (by rw [g1]; rfl))) ?_
    repeat first | refine opsStep ?_ | refine codeStep ?_ | refine drawStep ?_
    refine decB_dec (fun hh => ?_) (fun hh => ?_)
    · have hh : hitC i cs[j] = true := decide_eq_true hh
      repeat first | refine opsStep ?_ | refine codeStep ?_ | refine drawStep ?_
      exact finV (v' := .tup [.int .i64 (cs[j]).2.2, .bool true]) (by kernel_rfl) (by rw [atC_find hja (fun j' h' => hpre j' (by omega) h') hh]; rfl)
    · have hh : hitC i cs[j] = false := decide_eq_false hh
      repeat first | refine opsStep ?_ | refine codeStep ?_ | refine drawStep ?_
      refine ⟨⟨j + 1, by omega, fun j' h' hlt => ?_⟩, (by show cs.length - (j + 1) < cs.length - j; omega), Ent.frD (X := [.cells 0 (cb3 cs[j])]) ⟨(by kernel_rfl), (by kernel_rfl), (by kernel_rfl), inc_slot (i := j) (by omega), trivial⟩ (by kernel_rfl) (Nat.le_of_ble_eq_true (by kernel_rfl)) (by first | (simp [frBel, blksBel, Blk.bel, AV.bel, bels, bels_append, bels_map, aSs_bel, aIs_bel, aBs_bel, aRs_bel, aDen_bel, cells_bel]; done) | (simp only [List.drop_zero, ← List.map_take, ← List.map_drop, List.map_map, frBel, blksBel, Blk.bel, AV.bel, bels, bels_append, bels_map, aSs_bel, aIs_bel, aBs_bel, aRs_bel, aDen_bel, cells_bel]; simp [AV.bel, aSs_bel, aIs_bel, aBs_bel, aRs_bel, aDen_bel, cells_bel])) (by first | (simp [frBel, blksBel, Blk.bel, AV.bel, bels, bels_append, bels_map, aSs_bel, aIs_bel, aBs_bel, aRs_bel, aDen_bel, cells_bel]; done) | (simp only [List.drop_zero, ← List.map_take, ← List.map_drop, List.map_map, frBel, blksBel, Blk.bel, AV.bel, bels, bels_append, bels_map, aSs_bel, aIs_bel, aBs_bel, aRs_bel, aDen_bel, cells_bel]; simp [AV.bel, aSs_bel, aIs_bel, aBs_bel, aRs_bel, aDen_bel, cells_bel]))⟩
      by_cases e : j' = j
      · subst e; exact hh
      · exact hpre j' h' (by omega)
  · repeat first | refine opsStep ?_ | refine codeStep ?_ | refine drawStep ?_
    have : j = cs.length := by have := h; simp at this; omega
    exact finV (v' := .tup [.int .i64 0, .bool false]) (by kernel_rfl) (by rw [atC_none fun j' h' => hpre j' h' (by omega)]; rfl)

end Tab
