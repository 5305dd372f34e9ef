/- The document's names in order. -/
import Derived.Test.YtcfgeoamcnokiaaSf
namespace Tab
open Go Go.Proofs
set_option maxRecDepth 10000
set_option linter.unusedVariables false
set_option linter.unusedSimpArgs false
set_option linter.unusedSectionVars false

/-- A round of 'put': what is there, and what is still to come. -/
def PutInv (x : List UInt8) (l : List (List UInt8)) (i : Nat) (dn : Bool) (out : List (List UInt8)) : Prop :=
  putS x l = out ++ (if dn = true then l.drop i else putS x (l.drop i)) ∧ out.length ≤ 2 * i

theorem r04_put (k : SK) (l : List (List UInt8)) (x : List UInt8) (hl : l.length < 2^20) : Pure Try.prog 59 [aSs k l, .str x] (aSs .any (putS x l)) := by
  refine Pure.of_sw 48 Try.func59 rfl Try.ntmps59 (by kernel_rfl) (Nat.le_of_ble_eq_true (by kernel_rfl)) (by simp [closeds, AV.closed, aSs_closed, aIs_closed, aBs_closed, aRs_closed, aDen_closed]) (by simp [AV.closed, closeds, aSs_closed, aIs_closed, aBs_closed, aRs_closed, aDen_closed]) ?_; refine SW.of_vc ?_
  repeat first | refine opsStep ?_ | refine codeStep ?_ | refine drawStep ?_
  refine loopE_of (ι := {q : Nat × Bool × List (List UInt8) // q.1 ≤ l.length ∧ PutInv x l q.1 q.2.1 q.2.2})
    (fun q => (fr [(0, aSs k l), (1, .str x), (5, .hs 0 q.1.2.2.length 0 q.1.2.2.length 1), (6, .bool q.1.2.1), (7, .int .i64 q.1.1)], [.cells q.1.2.2.length (q.1.2.2.map .str)])) (fun q => l.length - q.1.1)
    ⟨(0, false, []), by simp, by simp [PutInv]⟩ ?_ ?_
  · exact ((Ent.fr' (l := [(0, aSs k l), (1, .str x), (5, .sl .nil 0 []), (6, .bool false), (7, .int .i64 (0 : Nat))]) (H' := []) ⟨(by kernel_rfl), (by kernel_rfl), (by kernel_rfl), (by kernel_rfl), (by kernel_rfl), trivial⟩ (by kernel_rfl)).trans (Ent.nil 5 1 rfl)).trans (Ent.fr' ⟨(by kernel_rfl), (by kernel_rfl), (by kernel_rfl), (by kernel_rfl), (by kernel_rfl), trivial⟩ (by kernel_rfl))
  rintro ⟨⟨i, dn, out⟩, hi, hinv, hol⟩
  simp only at hi hinv hol
  repeat first | refine opsStep ?_ | refine codeStep ?_ | refine drawStep ?_
  refine decB_dec (fun h => ?_) (fun h => ?_)
  · have hia : i < l.length := by have := h; simp at this; omega
    have hdr : l.drop i = l[i] :: l.drop (i + 1) := List.drop_eq_getElem_cons hia
    have fin : ∀ (s : Slots) (H : List Blk) (dn' : Bool) (o : List (List UInt8)) (y : List UInt8), frOk s [(0, aSs k l), (1, .str x), (5, .hs 0 (o.length + 1) 0 (o.length + 1) 1), (6, .bool dn'), (7, .int .i64 (i + 1 : Nat))] →
        H.take 1 = [.cells (o.length + 1) (((o.map .str).drop 0).take (o.length * 1) ++ [.str y])] → Ent ⟨48, 0⟩ s H (fr [(0, aSs k l), (1, .str x), (5, .hs 0 (o ++ [y]).length 0 (o ++ [y]).length 1), (6, .bool dn'), (7, .int .i64 (i + 1 : Nat))]) [.cells (o ++ [y]).length ((o ++ [y]).map .str)] := fun s H dn' o y hf hH => by
      refine Ent.to (Ent.frT 1 ?_ hH (Nat.zero_le _) (by first | (simp [frBel, blksBel, Blk.bel, AV.bel, bels, bels_append, bels_map, aSs_bel, aIs_bel, aBs_bel, aRs_bel, aDen_bel, cells_bel]; done) | (simp only [List.drop_zero, ← List.map_take, ← List.map_drop, List.map_map, frBel, blksBel, Blk.bel, AV.bel, bels, bels_append, bels_map, aSs_bel, aIs_bel, aBs_bel, aRs_bel, aDen_bel, cells_bel]; simp [AV.bel, aSs_bel, aIs_bel, aBs_bel, aRs_bel, aDen_bel, cells_bel])) ?_) ?_
      · rw [List.length_append, List.length_singleton]; exact hf
      · exact ⟨bels_append.2 ⟨bels_td (bels_map.2 fun _ _ => trivial), trivial, trivial⟩, trivial⟩
      · rw [td_all (by simp)]; simp
    cases dn with
    | true =>
      rw [if_pos rfl, hdr] at hinv
      repeat first | refine opsStep ?_ | refine codeStep ?_ | refine drawStep ?_
      refine guardE_of (by simp; omega) ?_
      repeat first | refine opsStep ?_ | refine codeStep ?_ | refine drawStep ?_
      refine optE_of (c := .str l[i]) (by simp [Value.cells, hia]) ?_
      repeat first | refine opsStep ?_ | refine codeStep ?_ | refine drawStep ?_
      refine guardE_of ⟨rfl, by simp⟩ ?_
      refine guardE_of rfl ?_
      refine guardE_of ⟨by show out.length + 1 ≤ 9223372036854775807; omega, by show (out.length + 1) * 16 ≤ 140737488355328; omega⟩ ?_
      repeat first | refine opsStep ?_ | refine codeStep ?_ | refine drawStep ?_
      exact ⟨⟨(i + 1, true, out ++ [l[i]]), by simp only; omega, by simp only [if_true]; rw [hinv]; simp, by simp; omega⟩, (by show l.length - (i + 1) < l.length - i; omega), fin _ _ _ out l[i] ⟨(by kernel_rfl), (by kernel_rfl), (by kernel_rfl), (by kernel_rfl), inc_slot (i := i) (by omega), trivial⟩ (by kernel_rfl)⟩
    | false =>
      rw [if_neg (by simp), hdr, putS] at hinv
      repeat first | refine opsStep ?_ | refine codeStep ?_ | refine drawStep ?_
      refine guardE_of (by simp; omega) ?_
      repeat first | refine opsStep ?_ | refine codeStep ?_ | refine drawStep ?_
      refine optE_of (c := .str l[i]) (by simp [Value.cells, hia]) ?_
      repeat first | refine opsStep ?_ | refine codeStep ?_ | refine drawStep ?_
      refine decB_split (fun h => ?_) (fun h => ?_)
      · have h1 : (less x l[i] || x == l[i]) = true := h
        rw [if_pos h1] at hinv
        repeat first | refine opsStep ?_ | refine codeStep ?_ | refine drawStep ?_
        refine guardE_of (by simp; omega) ?_
        repeat first | refine opsStep ?_ | refine codeStep ?_ | refine drawStep ?_
        refine optE_of (c := .str l[i]) (by simp [Value.cells, hia]) ?_
        repeat first | refine opsStep ?_ | refine codeStep ?_ | refine drawStep ?_
        refine decB_split (fun h => ?_) (fun h => ?_)
        · have h2 : less x l[i] = true := h
          rw [if_pos h2] at hinv
          repeat first | refine opsStep ?_ | refine codeStep ?_ | refine drawStep ?_
          refine guardE_of ⟨rfl, by simp⟩ ?_
          refine guardE_of rfl ?_
          refine guardE_of ⟨by show out.length + 1 ≤ 9223372036854775807; omega, by show (out.length + 1) * 16 ≤ 140737488355328; omega⟩ ?_
          repeat first | refine opsStep ?_ | refine codeStep ?_ | refine drawStep ?_
          refine guardE_of (by simp; omega) ?_
          repeat first | refine opsStep ?_ | refine codeStep ?_ | refine drawStep ?_
          refine optE_of (c := .str l[i]) (by simp [Value.cells, hia]) ?_
          repeat first | refine opsStep ?_ | refine codeStep ?_ | refine drawStep ?_
          have hlen : (out ++ [x]).length = out.length + 1 := by simp
          refine guardE_of ⟨rfl, by simp⟩ ?_
          refine guardE_of rfl ?_
          refine guardE_of ⟨by show out.length + 1 + 1 ≤ 9223372036854775807; omega, by show (out.length + 1 + 1) * 16 ≤ 140737488355328; omega⟩ ?_
          repeat first | refine opsStep ?_ | refine codeStep ?_ | refine drawStep ?_
          refine ⟨⟨(i + 1, true, (out ++ [x]) ++ [l[i]]), by simp only; omega, by simp only [if_true]; rw [hinv]; simp, by simp; omega⟩, (by show l.length - (i + 1) < l.length - i; omega), fin _ _ _ (out ++ [x]) l[i] ⟨(by kernel_rfl), (by kernel_rfl), ?_, (by kernel_rfl), inc_slot (i := i) (by omega), trivial⟩ ?_⟩
          · exact Eq.trans (b := .hs 0 (out.length + 1 + 1) 0 (out.length + 1 + 1) 1) (by kernel_rfl) (by rw [hlen])
          · refine Eq.trans (b := [Blk.cells (out.length + 1 + 1) ((((((out.map AV.str).drop 0).take (out.length * 1)) ++ [AV.str x]).drop 0).take ((out.length + 1) * 1) ++ [.str l[i]])]) (by kernel_rfl) ?_
            rw [td_all (l := out.map AV.str) (by simp), hlen, List.map_append]
            rfl
        · have h2 : ¬ less x l[i] = true := by have : less x l[i] = false := h; simp [this]
          rw [if_neg h2] at hinv
          repeat first | refine opsStep ?_ | refine codeStep ?_ | refine drawStep ?_
          refine guardE_of (by simp; omega) ?_
          repeat first | refine opsStep ?_ | refine codeStep ?_ | refine drawStep ?_
          refine optE_of (c := .str l[i]) (by simp [Value.cells, hia]) ?_
          repeat first | refine opsStep ?_ | refine codeStep ?_ | refine drawStep ?_
          refine guardE_of ⟨rfl, by simp⟩ ?_
          refine guardE_of rfl ?_
          refine guardE_of ⟨by show out.length + 1 ≤ 9223372036854775807; omega, by show (out.length + 1) * 16 ≤ 140737488355328; omega⟩ ?_
          repeat first | refine opsStep ?_ | refine codeStep ?_ | refine drawStep ?_
          exact ⟨⟨(i + 1, true, out ++ [l[i]]), by simp only; omega, by simp only [if_true]; rw [hinv]; simp, by simp; omega⟩, (by show l.length - (i + 1) < l.length - i; omega), fin _ _ _ out l[i] ⟨(by kernel_rfl), (by kernel_rfl), (by kernel_rfl), (by kernel_rfl), inc_slot (i := i) (by omega), trivial⟩ (by kernel_rfl)⟩
      · have h1 : ¬ (less x l[i] || x == l[i]) = true := by have : (less x l[i] || x == l[i]) = false := h; rw [this]; simp
        rw [if_neg h1] at hinv
        repeat first | refine opsStep ?_ | refine codeStep ?_ | refine drawStep ?_
        refine guardE_of (by simp; omega) ?_
        repeat first | refine opsStep ?_ | refine codeStep ?_ | refine drawStep ?_
        refine optE_of (c := .str l[i]) (by simp [Value.cells, hia]) ?_
        repeat first | refine opsStep ?_ | refine codeStep ?_ | refine drawStep ?_
        refine guardE_of ⟨rfl, by simp⟩ ?_
        refine guardE_of rfl ?_
        refine guardE_of ⟨by show out.length + 1 ≤ 9223372036854775807; omega, by show (out.length + 1) * 16 ≤ 140737488355328; omega⟩ ?_
        repeat first | refine opsStep ?_ | refine codeStep ?_ | refine drawStep ?_
        exact ⟨⟨(i + 1, false, out ++ [l[i]]), by simp only; omega, by simp only [Bool.false_eq_true, if_false]; rw [hinv]; simp, by simp; omega⟩, (by show l.length - (i + 1) < l.length - i; omega), fin _ _ _ out l[i] ⟨(by kernel_rfl), (by kernel_rfl), (by kernel_rfl), (by kernel_rfl), inc_slot (i := i) (by omega), trivial⟩ (by kernel_rfl)⟩
  · have : i = l.length := by have := h; simp at this; omega
    subst this
    cases dn with
    | true =>
      rw [if_pos rfl, List.drop_length, List.append_nil] at hinv
      repeat first | refine opsStep ?_ | refine codeStep ?_ | refine drawStep ?_
      refine ⟨_, _, (Ent.fr' (l := [(4, .hs 0 out.length 0 out.length 1)]) (H' := [.cells out.length (out.map .str)]) ⟨(by kernel_rfl), trivial⟩ (by kernel_rfl)).trans (Ent.freeze (n := out.length) (cs := out.map .str) (es := 1) (g := out.length) (b := 0) 4 rfl rfl (by simp)), ?_⟩
      rw [hinv]
      kernel_rfl
    | false =>
      rw [if_neg (by simp), List.drop_length, putS] at hinv
      repeat first | refine opsStep ?_ | refine codeStep ?_ | refine drawStep ?_
      refine guardE_of ⟨rfl, by simp⟩ ?_
      refine guardE_of rfl ?_
      refine guardE_of ⟨by show out.length + 1 ≤ 9223372036854775807; omega, by show (out.length + 1) * 16 ≤ 140737488355328; omega⟩ ?_
      repeat first | refine opsStep ?_ | refine codeStep ?_ | refine drawStep ?_
      refine ⟨_, _, (Ent.fr' (l := [(4, .hs 0 (out.length + 1) 0 (out.length + 1) 1)]) (H' := [.cells (out.length + 1) (((out.map .str).drop 0).take (out.length * 1) ++ [.str x]), .cells 0 [.str x]]) ⟨(by kernel_rfl), trivial⟩ (by kernel_rfl)).trans (Ent.freeze (n := out.length + 1) (cs := ((out.map .str).drop 0).take (out.length * 1) ++ [.str x]) (es := 1) (g := out.length + 1) (b := 0) 4 rfl rfl (by simp)), ?_⟩
      rw [hinv, td_all (l := out.map AV.str) (by simp), aSs, List.length_append, List.map_append]
      kernel_rfl

theorem putS_le (x : List UInt8) : ∀ (l : List (List UInt8)), (putS x l).length ≤ l.length + 1
  | [] => by simp [putS]
  | z :: l => by
    have := putS_le x l
    rw [putS]
    split
    · split <;> simp
    · simp; exact this

theorem r04_Together (k : SK) (l : List (List UInt8)) (hl : l.length < 2^20) : Pure Try.prog 49 [aSs k l] (aSs .any (togS l)) := by
  refine Pure.of_sw 18 Try.func49 rfl Try.ntmps49 (by kernel_rfl) (Nat.le_of_ble_eq_true (by kernel_rfl)) (by simp [closeds, AV.closed, aSs_closed, aIs_closed, aBs_closed, aRs_closed, aDen_closed]) (by simp [AV.closed, closeds, aSs_closed, aIs_closed, aBs_closed, aRs_closed, aDen_closed]) ?_; refine SW.of_vc ?_
  repeat first | refine opsStep ?_ | refine codeStep ?_ | refine drawStep ?_
  refine loopE_of (ι := {q : Nat × List (List UInt8) // q.1 ≤ l.length ∧ togS (l.take q.1) = q.2}) (fun q => (fr [(0, aSs k l), (3, aSs .any q.1.2), (4, .int .i64 q.1.1)], [])) (fun q => l.length - q.1.1)
    ⟨(0, []), by simp, by simp [togS]⟩ ((Ent.fr' (l := [(0, aSs k l), (3, .sl .nil 0 []), (4, .int .i64 (0 : Nat))]) (H' := []) ⟨(by kernel_rfl), (by kernel_rfl), (by kernel_rfl), trivial⟩ (by kernel_rfl)).trans ((Ent.slotTo (y := .sl .any 0 []) 3 rfl (fun _ _ _ _ h => sl_any h)).trans (Ent.fr' ⟨(by kernel_rfl), (by kernel_rfl), (by kernel_rfl), trivial⟩ (by kernel_rfl)))) ?_
  rintro ⟨⟨i, out⟩, hi, hinv⟩
  simp only at hi hinv
  have hol : out.length ≤ l.length := by rw [← hinv]; have := tog_len (l.take i); simp at this; omega
  repeat first | refine opsStep ?_ | refine codeStep ?_ | refine drawStep ?_
  refine decB_dec (fun h => ?_) (fun h => ?_)
  · have hia : i < l.length := by have := h; simp at this; omega
    repeat first | refine opsStep ?_ | refine codeStep ?_ | refine drawStep ?_
    refine guardE_of (by simp; omega) ?_
    repeat first | refine opsStep ?_ | refine codeStep ?_ | refine drawStep ?_
    refine optE_of (c := .str l[i]) (by simp [Value.cells, hia]) ?_
    repeat first | refine opsStep ?_ | refine codeStep ?_ | refine drawStep ?_
    refine callP (r04_put .any out l[i] (by omega)) ?_
    repeat first | refine opsStep ?_ | refine codeStep ?_ | refine drawStep ?_
    refine ⟨⟨(i + 1, putS l[i] out), by simp only; omega, ?_⟩, (by show l.length - (i + 1) < l.length - i; omega), Ent.fr' ⟨(by kernel_rfl), (by kernel_rfl), inc_slot (i := i) (by omega), trivial⟩ (by kernel_rfl)⟩
    rw [List.take_succ_eq_append_getElem hia, togS, List.foldl_append, ← togS, hinv]
    rfl
  · repeat first | refine opsStep ?_ | refine codeStep ?_ | refine drawStep ?_
    have : i = l.length := by have := h; simp at this; omega
    subst this
    rw [List.take_length] at hinv
    exact finV (v' := aSs .any out) (by kernel_rfl) (by rw [hinv])

theorem r04_Sorted (k : SK) (l : List (List UInt8)) (hl : l.length < 2^20) (hs : ∀ s ∈ l, s.length < 2^62) : Pure Try.prog 23 [aSs k l] (.tup [aSs .any (sortR l), .int .i64 (sortE l)]) := by
  refine Pure.of_sw 26 Try.func23 rfl Try.ntmps23 (by kernel_rfl) (Nat.le_of_ble_eq_true (by kernel_rfl)) (by simp [closeds, AV.closed, aSs_closed, aIs_closed, aBs_closed, aRs_closed, aDen_closed]) (by simp [AV.closed, closeds, aSs_closed, aIs_closed, aBs_closed, aRs_closed, aDen_closed]) ?_; refine SW.of_vc ?_
  repeat first | refine opsStep ?_ | refine codeStep ?_ | refine drawStep ?_
  refine loopE_of (ι := {i : Nat // i ≤ l.length ∧ nonN (l.take i) = false}) (fun i => (fr [(0, aSs k l), (4, .int .i64 i.1)], [])) (fun i => l.length - i.1) ⟨0, by omega, by simp [nonN]⟩ (Ent.fr' ⟨(by kernel_rfl), (by kernel_rfl), trivial⟩ (by kernel_rfl)) ?_
  rintro ⟨i, hi, hpre⟩
  repeat first | refine opsStep ?_ | refine codeStep ?_ | refine drawStep ?_
  refine decB_dec (fun h => ?_) (fun h => ?_)
  · have hia : i < l.length := by have := h; simp at this; omega
    repeat first | refine opsStep ?_ | refine codeStep ?_ | refine drawStep ?_
    refine guardE_of (by simp; omega) ?_
    repeat first | refine opsStep ?_ | refine codeStep ?_ | refine drawStep ?_
    refine optE_of (c := .str l[i]) (by simp [Value.cells, hia]) ?_
    repeat first | refine opsStep ?_ | refine codeStep ?_ | refine drawStep ?_
    refine callP (r04_Name l[i] (hs _ (List.getElem_mem hia))) ?_
    repeat first | refine opsStep ?_ | refine codeStep ?_ | refine drawStep ?_
    refine decB_split (fun h => ?_) (fun h => ?_)
    · have hn : nonN l = true := List.any_eq_true.2 ⟨_, List.getElem_mem hia, h⟩
      repeat first | refine opsStep ?_ | refine codeStep ?_ | refine drawStep ?_
      refine ⟨_, _, (Ent.fr' (l := [(2, .sl .nil 0 []), (3, .int .i64 6)]) (H' := []) ⟨(by kernel_rfl), (by kernel_rfl), trivial⟩ (by kernel_rfl)).trans (Ent.slotTo (y := .sl .any 0 []) 2 rfl (fun _ _ _ _ h => sl_any h)), ?_⟩
      rw [(sort_non hn).1, (sort_non hn).2]
      kernel_rfl
    · repeat first | refine opsStep ?_ | refine codeStep ?_ | refine drawStep ?_
      refine ⟨⟨i + 1, by omega, ?_⟩, (by show l.length - (i + 1) < l.length - i; omega), Ent.fr' ⟨(by kernel_rfl), inc_slot (i := i) (by omega), trivial⟩ (by kernel_rfl)⟩
      rw [nonN, List.take_succ_eq_append_getElem hia, List.any_append, ← nonN, hpre]
      simpa using h
  · have : i = l.length := by have := h; simp at this; omega
    subst this
    rw [List.take_length] at hpre
    repeat first | refine opsStep ?_ | refine codeStep ?_ | refine drawStep ?_
    refine callP (r04_Together k l hl) ?_
    repeat first | refine opsStep ?_ | refine codeStep ?_ | refine drawStep ?_
    refine decB_dec (fun hd => ?_) (fun hd => ?_)
    · have := sort_dup hpre (fun e => hd (by rw [e]))
      repeat first | refine opsStep ?_ | refine codeStep ?_ | refine drawStep ?_
      refine ⟨_, _, (Ent.fr' (l := [(2, .sl .nil 0 []), (3, .int .i64 5)]) (H' := []) ⟨(by kernel_rfl), (by kernel_rfl), trivial⟩ (by kernel_rfl)).trans (Ent.slotTo (y := .sl .any 0 []) 2 rfl (fun _ _ _ _ h => sl_any h)), ?_⟩
      rw [this.1, this.2]
      kernel_rfl
    · have := sort_fine hpre (by have := Decidable.of_not_not hd; omega)
      repeat first | refine opsStep ?_ | refine codeStep ?_ | refine drawStep ?_
      exact finV (v' := .tup [aSs .any (togS l), .int .i64 0]) (by kernel_rfl) (by rw [this.1, this.2])

end Tab
