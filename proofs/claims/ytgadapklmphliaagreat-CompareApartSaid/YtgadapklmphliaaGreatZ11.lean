/- Lemmas for this claim: part 11. No condition. -/
import Derived.Test.YtgadapklmphliaaGreatZ8
import Derived.Test.YtgadapklmphliaaGreatZ10
/- The document's names in order. -/
namespace Tab
open Go Go.Proofs
set_option maxRecDepth 10000
set_option linter.unusedVariables false
set_option linter.unusedSimpArgs false
set_option linter.unusedSectionVars false

/-- A round of 'put': what is there, and what is still to come. -/
def PutInv (x : List UInt8) (l : List (List UInt8)) (i : Nat) (dn : Bool) (out : List (List UInt8)) : Prop :=
  putS x l = out ++ (if dn = true then l.drop i else putS x (l.drop i)) ∧ out.length ≤ 2 * i

theorem r04_put (k : SK) (l : List (List UInt8)) (x : List UInt8) (hl : l.length < 2^20) : Pure Tryz.prog 35 [aSs k l, .str x] (aSs .any (putS x l)) := by
  refine Pure.of_sw 48 Tryz.func35 rfl Tryz.ntmps35 (by kernel_rfl) (Nat.le_of_ble_eq_true (by kernel_rfl)) (by simp [closeds, AV.closed, aSs_closed, aIs_closed, aBs_closed, aRs_closed, aDen_closed]) (by simp [AV.closed, closeds, aSs_closed, aIs_closed, aBs_closed, aRs_closed, aDen_closed]) ?_; refine SW.of_vc ?_
  repeat first | refine opsStep ?_ | refine codeStep ?_ | refine drawStep ?_
  refine loopE_of (ι := {q : Nat × Bool × List (List UInt8) // q.1 ≤ l.length ∧ PutInv x l q.1 q.2.1 q.2.2})
    (fun q => (fr [(0, aSs k l), (1, .str x), (5, .hs 0 q.1.2.2.length 0 q.1.2.2.length 1), (6, .bool q.1.2.1), (7, .int .i64 q.1.1)], [.cells q.1.2.2.length (q.1.2.2.map .str)])) (fun q => l.length - q.1.1)
    ⟨(0, false, []), by simp, by simp [PutInv]⟩ ?_ ?_
  · exact ((Ent.fr' (l := [(0, aSs k l), (1, .str x), (5, .sl .nil 0 []), (6, .bool false), (7, .int .i64 (0 : Nat))]) (H' := []) ⟨(by kernel_rfl), (by kernel_rfl), (by kernel_rfl), (by kernel_rfl), (by kernel_rfl), trivial⟩ (by kernel_rfl)).trans (Ent.nil 5 1 rfl)).trans (Ent.fr' ⟨(by kernel_rfl), (by kernel_rfl), (by kernel_rfl), (by kernel_rfl), (by kernel_rfl), trivial⟩ (by kernel_rfl))
  rintro ⟨⟨i, dn, out⟩, hi, hinv, hol⟩
  simp only at hi hinv hol
  repeat first | refine opsStep ?_ | refine codeStep ?_ | refine drawStep ?_
  refine decB_dec (fun h => ?_) (fun h => ?_)
  · have hia : i < l.length := by have := h; simp at this; omega
    have hdr : l.drop i = l[i] :: l.drop (i + 1) := List.drop_eq_getElem_cons hia
    have fin : ∀ (s : Slots) (H : List Blk) (dn' : Bool) (o : List (List UInt8)) (y : List UInt8), frOk s [(0, aSs k l), (1, .str x), (5, .hs 0 (o.length + 1) 0 (o.length + 1) 1), (6, .bool dn'), (7, .int .i64 (i + 1 : Nat))] →
        H.take 1 = [.cells (o.length + 1) (((o.map .str).drop 0).take (o.length * 1) ++ [.str y])] → Ent ⟨48, 0⟩ s H (fr [(0, aSs k l), (1, .str x), (5, .hs 0 (o ++ [y]).length 0 (o ++ [y]).length 1), (6, .bool dn'), (7, .int .i64 (i + 1 : Nat))]) [.cells (o ++ [y]).length ((o ++ [y]).map .str)] := fun s H dn' o y hf hH => by
      refine Ent.to (Ent.frT 1 ?_ hH (Nat.zero_le _) (by first | (simp [frBel, blksBel, Blk.bel, AV.bel, bels, bels_append, bels_map, aSs_bel, aIs_bel, aBs_bel, aRs_bel, aDen_bel, cells_bel]; done) | (simp only [List.drop_zero, ← List.map_take, ← List.map_drop, List.map_map, frBel, blksBel, Blk.bel, AV.bel, bels, bels_append, bels_map, aSs_bel, aIs_bel, aBs_bel, aRs_bel, aDen_bel, cells_bel]; simp [AV.bel, aSs_bel, aIs_bel, aBs_bel, aRs_bel, aDen_bel, cells_bel])) ?_) ?_
      · rw [List.length_append, List.length_singleton]; exact hf
      · exact ⟨bels_append.2 ⟨bels_td (bels_map.2 fun _ _ => trivial), trivial, trivial⟩, trivial⟩
      · rw [td_all (by simp)]; simp
    cases dn with
    | true =>
      rw [if_pos rfl, hdr] at hinv
      repeat first | refine opsStep ?_ | refine codeStep ?_ | refine drawStep ?_
      refine guardE_of (by simp; omega) ?_
      repeat first | refine opsStep ?_ | refine codeStep ?_ | refine drawStep ?_
      refine optE_of (c := .str l[i]) (by simp [Value.cells, hia]) ?_
      repeat first | refine opsStep ?_ | refine codeStep ?_ | refine drawStep ?_
      refine guardE_of ⟨rfl, by simp⟩ ?_
      refine guardE_of rfl ?_
      refine guardE_of ⟨by show out.length + 1 ≤ 9223372036854775807; omega, by show (out.length + 1) * 16 ≤ 140737488355328; omega⟩ ?_
      repeat first | refine opsStep ?_ | refine codeStep ?_ | refine drawStep ?_
      exact ⟨⟨(i + 1, true, out ++ [l[i]]), by simp only; omega, by simp only [if_true]; rw [hinv]; simp, by simp; omega⟩, (by show l.length - (i + 1) < l.length - i; omega), fin _ _ _ out l[i] ⟨(by kernel_rfl), (by kernel_rfl), (by kernel_rfl), (by kernel_rfl), inc_slot (i := i) (by omega), trivial⟩ (by kernel_rfl)⟩
    | false =>
      rw [if_neg (by simp), hdr, putS] at hinv
      repeat first | refine opsStep ?_ | refine codeStep ?_ | refine drawStep ?_
      refine guardE_of (by simp; omega) ?_
      repeat first | refine opsStep ?_ | refine codeStep ?_ | refine drawStep ?_
      refine optE_of (c := .str l[i]) (by simp [Value.cells, hia]) ?_
      repeat first | refine opsStep ?_ | refine codeStep ?_ | refine drawStep ?_
      refine decB_split (fun h => ?_) (fun h => ?_)
      · have h1 : (less x l[i] || x == l[i]) = true := h
        rw [if_pos h1] at hinv
        repeat first | refine opsStep ?_ | refine codeStep ?_ | refine drawStep ?_
        refine guardE_of (by simp; omega) ?_
        repeat first | refine opsStep ?_ | refine codeStep ?_ | refine drawStep ?_
        refine optE_of (c := .str l[i]) (by simp [Value.cells, hia]) ?_
        repeat first | refine opsStep ?_ | refine codeStep ?_ | refine drawStep ?_
        refine decB_split (fun h => ?_) (fun h => ?_)
        · have h2 : less x l[i] = true := h
          rw [if_pos h2] at hinv
          repeat first | refine opsStep ?_ | refine codeStep ?_ | refine drawStep ?_
          refine guardE_of ⟨rfl, by simp⟩ ?_
          refine guardE_of rfl ?_
          refine guardE_of ⟨by show out.length + 1 ≤ 9223372036854775807; omega, by show (out.length + 1) * 16 ≤ 140737488355328; omega⟩ ?_
          repeat first | refine opsStep ?_ | refine codeStep ?_ | refine drawStep ?_
          refine guardE_of (by simp; omega) ?_
          repeat first | refine opsStep ?_ | refine codeStep ?_ | refine drawStep ?_
          refine optE_of (c := .str l[i]) (by simp [Value.cells, hia]) ?_
          repeat first | refine opsStep ?_ | refine codeStep ?_ | refine drawStep ?_
          have hlen : (out ++ [x]).length = out.length + 1 := by simp
          refine guardE_of ⟨rfl, by simp⟩ ?_
          refine guardE_of rfl ?_
          refine guardE_of ⟨by show out.length + 1 + 1 ≤ 9223372036854775807; omega, by show (out.length + 1 + 1) * 16 ≤ 140737488355328; omega⟩ ?_
          repeat first | refine opsStep ?_ | refine codeStep ?_ | refine drawStep ?_
          refine ⟨⟨(i + 1, true, (out ++ [x]) ++ [l[i]]), by simp only; omega, by simp only [if_true]; rw [hinv]; simp, by simp; omega⟩, (by show l.length - (i + 1) < l.length - i; omega), fin _ _ _ (out ++ [x]) l[i] ⟨(by kernel_rfl), (by kernel_rfl), ?_, (by kernel_rfl), inc_slot (i := i) (by omega), trivial⟩ ?_⟩
          · exact Eq.trans (b := .hs 0 (out.length + 1 + 1) 0 (out.length + 1 + 1) 1) (by kernel_rfl) (by rw [hlen])
          · refine Eq.trans (b := [Blk.cells (out.length + 1 + 1) ((((((out.map AV.str).drop 0).take (out.length * 1)) ++ [AV.str x]).drop 0).take ((out.length + 1) * 1) ++ [.str l[i]])]) (by kernel_rfl) ?_
            rw [td_all (l := out.map AV.str) (by simp), hlen, List.map_append]
            rfl
        · have h2 : ¬ less x l[i] = true := by have : less x l[i] = false := h; simp [this]
          rw [if_neg h2] at hinv
          repeat first | refine opsStep ?_ | refine codeStep ?_ | refine drawStep ?_
          refine guardE_of (by simp; omega) ?_
          repeat first | refine opsStep ?_ | refine codeStep ?_ | refine drawStep ?_
          refine optE_of (c := .str l[i]) (by simp [Value.cells, hia]) ?_
          repeat first | refine opsStep ?_ | refine codeStep ?_ | refine drawStep ?_
          refine guardE_of ⟨rfl, by simp⟩ ?_
          refine guardE_of rfl ?_
          refine guardE_of ⟨by show out.length + 1 ≤ 9223372036854775807; omega, by show (out.length + 1) * 16 ≤ 140737488355328; omega⟩ ?_
          repeat first | refine opsStep ?_ | refine codeStep ?_ | refine drawStep ?_
          exact ⟨⟨(i + 1, true, out ++ [l[i]]), by simp only; omega, by simp only [if_true]; rw [hinv]; simp, by simp; omega⟩, (by show l.length - (i + 1) < l.length - i; omega), fin _ _ _ out l[i] ⟨(by kernel_rfl), (by kernel_rfl), (by kernel_rfl), (by kernel_rfl), inc_slot (i := i) (by omega), trivial⟩ (by kernel_rfl)⟩
      · have h1 : ¬ (less x l[i] || x == l[i]) = true := by have : (less x l[i] || x == l[i]) = false := h; rw [this]; simp
        rw [if_neg h1] at hinv
        repeat first | refine opsStep ?_ | refine codeStep ?_ | refine drawStep ?_
        refine guardE_of (by simp; omega) ?_
        repeat first | refine opsStep ?_ | refine codeStep ?_ | refine drawStep ?_
        refine optE_of (c := .str l[i]) (by simp [Value.cells, hia]) ?_
        repeat first | refine opsStep ?_ | refine codeStep ?_ | refine drawStep ?_
        refine guardE_of ⟨rfl, by simp⟩ ?_
        refine guardE_of rfl ?_
        refine guardE_of ⟨by show out.length + 1 ≤ 9223372036854775807; omega, by show (out.length + 1) * 16 ≤ 140737488355328; omega⟩ ?_
        repeat first | refine opsStep ?_ | refine codeStep ?_ | refine drawStep ?_
        exact ⟨⟨(i + 1, false, out ++ [l[i]]), by simp only; omega, by simp only [Bool.false_eq_true, if_false]; rw [hinv]; simp, by simp; omega⟩, (by show l.length - (i + 1) < l.length - i; omega), fin _ _ _ out l[i] ⟨(by kernel_rfl), (by kernel_rfl), (by kernel_rfl), (by kernel_rfl), inc_slot (i := i) (by omega), trivial⟩ (by kernel_rfl)⟩
  · have : i = l.length := by have := h; simp at this; omega
    subst this
    cases dn with
    | true =>
      rw [if_pos rfl, List.drop_length, List.append_nil] at hinv
      repeat first | refine opsStep ?_ | refine codeStep ?_ | refine drawStep ?_
      refine ⟨_, _, (Ent.fr' (l := [(4, .hs 0 out.length 0 out.length 1)]) (H' := [.cells out.length (out.map .str)]) ⟨(by kernel_rfl), trivial⟩ (by kernel_rfl)).trans (Ent.freeze (n := out.length) (cs := out.map .str) (es := 1) (g := out.length) (b := 0) 4 rfl rfl (by simp)), ?_⟩
      rw [hinv]
      kernel_rfl
    | false =>
      rw [if_neg (by simp), List.drop_length, putS] at hinv
      repeat first | refine opsStep ?_ | refine codeStep ?_ | refine drawStep ?_
      refine guardE_of ⟨rfl, by simp⟩ ?_
      refine guardE_of rfl ?_
      refine guardE_of ⟨by show out.length + 1 ≤ 9223372036854775807; omega, by show (out.length + 1) * 16 ≤ 140737488355328; omega⟩ ?_
      repeat first | refine opsStep ?_ | refine codeStep ?_ | refine drawStep ?_
      refine ⟨_, _, (Ent.fr' (l := [(4, .hs 0 (out.length + 1) 0 (out.length + 1) 1)]) (H' := [.cells (out.length + 1) (((out.map .str).drop 0).take (out.length * 1) ++ [.str x]), .cells 0 [.str x]]) ⟨(by kernel_rfl), trivial⟩ (by kernel_rfl)).trans (Ent.freeze (n := out.length + 1) (cs := ((out.map .str).drop 0).take (out.length * 1) ++ [.str x]) (es := 1) (g := out.length + 1) (b := 0) 4 rfl rfl (by simp)), ?_⟩
      rw [hinv, td_all (l := out.map AV.str) (by simp), aSs, List.length_append, List.map_append]
      kernel_rfl

theorem putS_le (x : List UInt8) : ∀ (l : List (List UInt8)), (putS x l).length ≤ l.length + 1
  | [] => by simp [putS]
  | z :: l => by
    have := putS_le x l
    rw [putS]
    split
    · split <;> simp
    · simp; exact this

theorem r04_Together (k : SK) (l : List (List UInt8)) (hl : l.length < 2^20) : Pure Tryz.prog 18 [aSs k l] (aSs .any (togS l)) := by
  refine Pure.of_sw 18 Tryz.func18 rfl Tryz.ntmps18 (by kernel_rfl) (Nat.le_of_ble_eq_true (by kernel_rfl)) (by simp [closeds, AV.closed, aSs_closed, aIs_closed, aBs_closed, aRs_closed, aDen_closed]) (by simp [AV.closed, closeds, aSs_closed, aIs_closed, aBs_closed, aRs_closed, aDen_closed]) ?_; refine SW.of_vc ?_
  repeat first | refine opsStep ?_ | refine codeStep ?_ | refine drawStep ?_
  refine loopE_of (ι := {q : Nat × List (List UInt8) // q.1 ≤ l.length ∧ togS (l.take q.1) = q.2}) (fun q => (fr [(0, aSs k l), (3, aSs .any q.1.2), (4, .int .i64 q.1.1)], [])) (fun q => l.length - q.1.1)
    ⟨(0, []), by simp, by simp [togS]⟩ ((Ent.fr' (l := [(0, aSs k l), (3, .sl .nil 0 []), (4, .int .i64 (0 : Nat))]) (H' := []) ⟨(by kernel_rfl), (by kernel_rfl), (by kernel_rfl), trivial⟩ (by kernel_rfl)).trans ((Ent.slotTo (y := .sl .any 0 []) 3 rfl (fun _ _ _ _ h => sl_any h)).trans (Ent.fr' ⟨(by kernel_rfl), (by kernel_rfl), (by kernel_rfl), trivial⟩ (by kernel_rfl)))) ?_
  rintro ⟨⟨i, out⟩, hi, hinv⟩
  simp only at hi hinv
  have hol : out.length ≤ l.length := by rw [← hinv]; have := tog_len (l.take i); simp at this; omega
  repeat first | refine opsStep ?_ | refine codeStep ?_ | refine drawStep ?_
  refine decB_dec (fun h => ?_) (fun h => ?_)
  · have hia : i < l.length := by have := h; simp at this; omega
    repeat first | refine opsStep ?_ | refine codeStep ?_ | refine drawStep ?_
    refine guardE_of (by simp; omega) ?_
    repeat first | refine opsStep ?_ | refine codeStep ?_ | refine drawStep ?_
    refine optE_of (c := .str l[i]) (by simp [Value.cells, hia]) ?_
    repeat first | refine opsStep ?_ | refine codeStep ?_ | refine drawStep ?_
    refine callP (r04_put .any out l[i] (by omega)) ?_
    repeat first | refine opsStep ?_ | refine codeStep ?_ | refine drawStep ?_
    refine ⟨⟨(i + 1, putS l[i] out), by simp only; omega, ?_⟩, (by show l.length - (i + 1) < l.length - i; omega), Ent.fr' ⟨(by kernel_rfl), (by kernel_rfl), inc_slot (i := i) (by omega), trivial⟩ (by kernel_rfl)⟩
    rw [List.take_succ_eq_append_getElem hia, togS, List.foldl_append, ← togS, hinv]
    rfl
  · repeat first | refine opsStep ?_ | refine codeStep ?_ | refine drawStep ?_
    have : i = l.length := by have := h; simp at this; omega
    subst this
    rw [List.take_length] at hinv
    exact finV (v' := aSs .any out) (by kernel_rfl) (by rw [hinv])

end Tab

/- Tracks called otherwise. -/
namespace Tab
open Go Go.Proofs
set_option maxRecDepth 10000
set_option linter.unusedVariables false
set_option linter.unusedSimpArgs false
set_option linter.unusedSectionVars false

def twS (l : List (List UInt8)) : Bool := (List.range l.length).any fun i => !(decide (l.idxOf (l.getD i []) = i))
def allIn (l ts : List (List UInt8)) : Bool := l.all fun s => decide (s ∈ ts)
def calN (tr fm tt : List (List UInt8)) : Nat → List (List UInt8)
  | 0 => tr
  | i + 1 => (calN tr fm tt i).set (tr.idxOf (fm.getD i [])) (tt.getD i [])
theorem calN_length (tr fm tt) : ∀ i, (calN tr fm tt i).length = tr.length
  | 0 => rfl
  | i + 1 => by rw [calN, List.length_set, calN_length tr fm tt i]
def calS (tr fm tt : List (List UInt8)) : List (List UInt8) := calN tr fm tt fm.length
@[irreducible] def renE (d : Den) (fm tt : List (List UInt8)) : Int :=
  if (rightS d && decide (fm.length = tt.length)) = true then (if nonN tt = false then (if allIn fm d.tracks = true then (if twS fm = false then sortE (calS d.tracks fm tt) else 5) else 4) else 6) else 3
def renD (d : Den) (fm tt : List (List UInt8)) : Den := ⟨.any, sortR (calS d.tracks fm tt), .any, d.accept, .any, (d.rows.map (ovRow (sortR (calS d.tracks fm tt)).length (placesOf (calS d.tracks fm tt) (sortR (calS d.tracks fm tt))))).map fun r => (.any, r)⟩
@[irreducible] def renR (d : Den) (fm tt : List (List UInt8)) : Den := if renE d fm tt = 0 then renD d fm tt else den0

theorem ren_shape {d fm tt} (h : rightS d = false ∨ fm.length ≠ tt.length) : renE d fm tt = 3 := by
  rw [renE, if_neg]; rcases h with h | h <;> simp [h]
theorem ren_name {d fm tt} (h1 : rightS d = true) (h2 : fm.length = tt.length) (h : nonN tt = true) : renE d fm tt = 6 := by
  rw [renE, h1, decide_eq_true h2, h]; rfl
theorem ren_none {d fm tt} (h1 : rightS d = true) (h2 : fm.length = tt.length) (h3 : nonN tt = false) (h : allIn fm d.tracks = false) : renE d fm tt = 4 := by
  rw [renE, h1, decide_eq_true h2, h3, h]; rfl
theorem ren_twice {d fm tt} (h1 : rightS d = true) (h2 : fm.length = tt.length) (h3 : nonN tt = false) (h4 : allIn fm d.tracks = true) (h : twS fm = true) : renE d fm tt = 5 := by
  rw [renE, h1, decide_eq_true h2, h3, h4, h]; rfl
theorem ren_sort {d fm tt} (h1 : rightS d = true) (h2 : fm.length = tt.length) (h3 : nonN tt = false) (h4 : allIn fm d.tracks = true) (h : twS fm = false) : renE d fm tt = sortE (calS d.tracks fm tt) := by
  rw [renE, h1, decide_eq_true h2, h3, h4, h]; rfl
theorem renR_bad {d fm tt} (h : renE d fm tt ≠ 0) : renR d fm tt = den0 := by rw [renR, if_neg h]
theorem renR_ok {d fm tt} (h : renE d fm tt = 0) : renR d fm tt = renD d fm tt := by rw [renR, if_pos h]

theorem idxS_lt {l : List (List UInt8)} {s : List UInt8} : idxS l s < 0 ↔ s ∉ l := by
  rw [idxS]
  split
  · rename_i h
    have := List.idxOf_lt_length_iff.1 h
    simp [this]
  · rename_i h
    simp only [List.idxOf_lt_length_iff] at h
    simp [h]
theorem idxS_mem {l : List (List UInt8)} {s : List UInt8} (h : s ∈ l) : idxS l s = (l.idxOf s : Nat) := by
  rw [idxS, if_pos (List.idxOf_lt_length_of_mem h)]

theorem track_over_pure (kn kp : SK) (d : Den) (names : List (List UInt8)) (pl : List Nat) (hd : DenOk d) (hn : names.length ≤ 6) (hp : pl.length ≤ 6) (hpl : ∀ p ∈ pl, p < 6) (hrow : ∀ r ∈ d.next, r.2.length = 2 ^ pl.length) :
    Pure Tryz.prog 51 [aDen d, aSs kn names, aIs kp (pl.map fun p : Nat => (p : Int))] (aDen ⟨.any, names, .any, d.accept, .any, (d.rows.map (ovRow names.length pl)).map fun r => (.any, r)⟩) := by
  refine Pure.of_read (by simp [closeds, aDen_closed, aSs_closed, aIs_closed]) (aDen_closed _) (track_over kn kp d names pl _ rfl hd hn hp hpl hrow) ?_
  rintro o H' ⟨rfl, x, rfl⟩
  have hl : (d.rows.map (ovRow names.length pl)).length = d.next.length := by simp [Den.rows]
  refine ⟨_, rfl, rd_den (base := 6) (n := 2 ^ names.length) rfl rfl ?_ (fun j r hj => ?_) rfl rfl hl.symm⟩
  · rw [hl]; rfl
  · have hj' := List.getElem?_eq_some_iff.1 hj
    refine ⟨?_, ?_⟩
    · rw [List.getElem?_append_right (by simp)]
      simp only [List.length_cons, List.length_nil, ovBlks, List.getElem?_map]
      rw [show 6 + j - (0 + 1 + 1 + 1 + 1 + 1 + 1) = j by omega]
      rw [List.getElem?_map] at hj
      rw [hj]; rfl
    · rw [List.getElem?_map, Option.map_eq_some_iff] at hj
      obtain ⟨y, _, rfl⟩ := hj
      exact ovRow_length _ _ _

end Tab

/- Rename, of the code. -/
namespace Tab
open Go Go.Proofs
set_option maxRecDepth 10000
set_option linter.unusedVariables false
set_option linter.unusedSimpArgs false
set_option linter.unusedSectionVars false

theorem calS_mem {tr fm tt : List (List UInt8)} (n : Nat) (hn : ∀ s ∈ tr, s.length ≤ 140737488351232) (ht : ∀ s ∈ tt, s.length ≤ 140737488351232) : ∀ i, ∀ s ∈ calN tr fm tt i, s.length ≤ 140737488351232
  | 0 => hn
  | i + 1 => fun s hs => by
    rw [calN] at hs
    rcases List.mem_or_eq_of_mem_set hs with h | h
    · exact calS_mem n hn ht i s h
    · subst h
      cases e : tt[i]? with
      | none => simp [List.getD_eq_getElem?_getD, e]
      | some x => simp only [List.getD_eq_getElem?_getD, e, Option.getD_some]; exact ht x (List.mem_of_getElem? e)

end Tab

/- Rename, of the document. -/
namespace Tab
open Go Go.Proofs
set_option maxRecDepth 10000
set_option linter.unusedVariables false
set_option linter.unusedSimpArgs false
set_option linter.unusedSectionVars false

theorem tw_bad {l : List (List UInt8)} {i : Nat} (hi : i < l.length) (h : l.idxOf l[i] ≠ i) : twS l = true := by
  rw [twS, List.any_eq_true]
  refine ⟨i, List.mem_range.2 hi, ?_⟩
  simp [List.getD_eq_getElem?_getD, hi, h]
theorem tw_ok {l : List (List UInt8)} (h : ∀ j, j < l.length → l.idxOf (l.getD j []) = j) : twS l = false := by
  rw [twS, List.any_eq_false]
  intro j hj
  rw [h j (List.mem_range.1 hj), decide_eq_true rfl]
  simp

end Tab

/- Layer 15: the law TrackRenames. -/
namespace Tab
open Go Go.Proofs
set_option maxRecDepth 10000
set_option linter.unusedVariables false
set_option linter.unusedSimpArgs false
set_option linter.unusedSectionVars false

theorem copyD_renE (d : Den) (fm tt) : renE (copyD d) fm tt = renE d fm tt := by
  rw [renE, renE, copyD_right]; rfl
theorem copyD_renR (d : Den) (fm tt) : renR (copyD d) fm tt = renR d fm tt := by
  rw [renR, renR, copyD_renE, renD, renD, copyD_rows]; rfl
theorem renR_den {d : Den} {fm tt : List (List UInt8)} (hd : DenOk d) (hts : ∀ s ∈ tt, s.length ≤ 140737488351232) : DenOk (renR d fm tt) := by
  rw [renR]
  split
  · rename_i h
    have h0 : rightS d = true := by
      cases e : rightS d with
      | true => rfl
      | false => rw [ren_shape (.inl e)] at h; omega
    have hk := tracksS_le (rightS_parts h0).1
    have hcl : (calS d.tracks fm tt).length = d.tracks.length := calN_length ..
    have hsl : (sortR (calS d.tracks fm tt)).length ≤ 6 := by
      rw [sortR]
      split
      · have := tog_len (calS d.tracks fm tt); omega
      · simp
    refine ⟨by show (sortR _).length * 16 ≤ _; omega, fun s hs => ?_, hd.accept, ?_, ?_⟩
    · have hs : s ∈ sortR (calS d.tracks fm tt) := hs
      rw [sortR] at hs
      split at hs
      · exact calS_mem 0 hd.names hts _ s ((tog_mem _ _).1 hs)
      · simp at hs
    · have := hd.next
      simpa [renD, Den.rows] using this
    · intro r hr
      simp only [renD, List.mem_map] at hr
      obtain ⟨r, ⟨x, _, rfl⟩, rfl⟩ := hr
      simp only [ovRow_length]
      have : 2 ^ (sortR (calS d.tracks fm tt)).length ≤ 2 ^ 6 := Nat.pow_le_pow_right (by omega) hsl
      omega
  · exact den0_ok

end Tab

/- Renamed and back, widened twice: the plain law. -/
namespace Tab
open Go Go.Proofs
set_option maxRecDepth 10000
set_option linter.unusedVariables false
set_option linter.unusedSimpArgs false
set_option linter.unusedSectionVars false

theorem gat_bit (a : Nat) : ∀ (l : List Nat) (i : Nat) (h : i < l.length), gatN a l / 2 ^ i % 2 = a / 2 ^ l[i] % 2
  | p :: l, 0, _ => by simp only [gatN, Nat.pow_zero, Nat.div_one, List.getElem_cons_zero]; omega
  | p :: l, i + 1, h => by
    have ih := gat_bit a l i (by simpa using h)
    simp only [gatN, List.getElem_cons_succ]
    rw [Nat.pow_succ, Nat.mul_comm (2 ^ i) 2, ← Nat.div_div_eq_div_mul, show (a / 2 ^ p % 2 + 2 * gatN a l) / 2 = gatN a l by omega]
    exact ih
theorem gat_comp (a : Nat) (A : List Nat) : ∀ (B : List Nat), (∀ b ∈ B, b < A.length) → gatN (gatN a A) B = gatN a (B.map fun b => A.getD b 0)
  | [], _ => rfl
  | b :: B, h => by
    have hb := h b (by simp)
    rw [List.map_cons, gatN, gatN, gat_comp a A B fun x hx => h x (by simp [hx]), gat_bit a A b hb]
    simp [List.getD_eq_getElem?_getD, hb]
theorem gat_from (a : Nat) : ∀ (n k : Nat), gatN a (List.range' k n) = a / 2 ^ k % 2 ^ n
  | 0, k => by simp [gatN, Nat.mod_one]
  | n + 1, k => by
    rw [List.range'_succ, gatN, gat_from a n (k + 1), Nat.pow_succ 2 k, ← Nat.div_div_eq_div_mul, show 2 ^ (n + 1) = 2 * 2 ^ n by rw [Nat.pow_succ, Nat.mul_comm], Nat.mod_mul]
theorem gat_range {a n : Nat} (h : a < 2 ^ n) : gatN a (List.range n) = a := by
  rw [List.range_eq_range', gat_from, Nat.pow_zero, Nat.div_one, Nat.mod_eq_of_lt h]

theorem ovRow_comp (n k : Nat) (A B : List Nat) (r : List Int) (hA : A.length = k) (hB : ∀ b ∈ B, b < k) : ovRow n A (ovRow k B r) = ovRow n (B.map fun b => A.getD b 0) r := by
  rw [ovRow, ovRow]
  refine List.map_congr_left fun a _ => ?_
  have h := gatN_lt a A
  rw [hA] at h
  rw [← gat_comp a A B (by rw [hA]; exact hB)]
  simp [ovRow, List.getD_eq_getElem?_getD, h]
theorem ovRow_id {n : Nat} {r : List Int} (h : r.length = 2 ^ n) : ovRow n (List.range n) r = r := by
  refine List.ext_getElem (by simp [ovRow, h]) fun i h1 h2 => ?_
  simp only [ovRow, List.getElem_map, List.getElem_range]
  rw [gat_range (by omega)]
  simp [List.getD_eq_getElem?_getD, h2]

theorem rises_names {r : List (List UInt8)} (h : risesS r = true) : ∀ s ∈ r, nameS s = true := by
  intro s hs
  obtain ⟨i, hi, rfl⟩ := List.getElem_of_mem hs
  have := List.all_eq_true.1 h i (List.mem_range.2 hi)
  simp only [badAt, Bool.not_eq_true', Bool.or_eq_false_iff, Bool.not_eq_false'] at this
  simpa [List.getD_eq_getElem?_getD, hi] using this.1
theorem strict_rises {r : List (List UInt8)} (hs : Strict r) (hn : ∀ s ∈ r, nameS s = true) : risesS r = true := by
  refine rises_ok fun j hj => ?_
  have e : r.getD j [] = r[j] := by simp [List.getD_eq_getElem?_getD, hj]
  rw [badAt, e, hn _ (List.getElem_mem hj)]
  by_cases h0 : 0 < j
  · have := List.pairwise_iff_getElem.1 hs (j - 1) j (by omega) hj (by omega)
    have e2 : r.getD (j - 1) [] = r[j - 1] := by simp [List.getD_eq_getElem?_getD, show j - 1 < r.length by omega]
    rw [e2, show Op.bytesLess r[j - 1] r[j] = true from this]
    simp
  · simp [h0]

theorem idx_get {l : List (List UInt8)} (h : l.Nodup) {i : Nat} (hi : i < l.length) : l.idxOf l[i] = i := by
  have hm := List.idxOf_lt_length_of_mem (List.getElem_mem hi)
  have e := List.getElem_idxOf hm
  rcases Nat.lt_trichotomy (l.idxOf l[i]) i with h1 | h1 | h1
  · exact absurd e (List.pairwise_iff_getElem.1 h _ _ hm hi h1)
  · exact h1
  · exact absurd e.symm (List.pairwise_iff_getElem.1 h _ _ hi hm h1)
theorem places_self {l : List (List UInt8)} (h : l.Nodup) : placesOf l l = List.range l.length := by
  refine List.ext_getElem (by simp [placesOf]) fun i h1 h2 => ?_
  simp only [placesOf, List.getElem_map, List.getElem_range]
  exact idx_get h (by simpa [placesOf] using h1)
theorem tw_nodup {l : List (List UInt8)} (h : l.Nodup) : twS l = false := tw_ok fun j hj => by
  rw [show l.getD j [] = l[j] by simp [List.getD_eq_getElem?_getD, hj]]
  exact idx_get h hj
theorem tw_false {l : List (List UInt8)} (h : twS l = false) : l.Nodup := by
  have h0 := List.any_eq_false.1 h
  refine List.pairwise_iff_getElem.2 fun i j hi hj hij e => ?_
  have k1 := h0 i (List.mem_range.2 hi)
  have k2 := h0 j (List.mem_range.2 hj)
  rw [show l.getD i [] = l[i] by simp [List.getD_eq_getElem?_getD, hi]] at k1
  rw [show l.getD j [] = l[j] by simp [List.getD_eq_getElem?_getD, hj]] at k2
  have k1 : l.idxOf l[i] = i := by simpa using k1
  have k2 : l.idxOf l[j] = j := by simpa using k2
  rw [e] at k1
  omega

end Tab

/- Renamed and back, widened twice: the machines. -/
namespace Tab
open Go Go.Proofs
set_option maxRecDepth 10000
set_option linter.unusedVariables false
set_option linter.unusedSimpArgs false
set_option linter.unusedSectionVars false

def ovD (d : Den) (names : List (List UInt8)) (P : List Nat) : Den := ⟨.any, names, .any, d.accept, .any, (d.rows.map (ovRow names.length P)).map fun r => (.any, r)⟩
theorem ovD_rows (d names P) : (ovD d names P).rows = d.rows.map (ovRow names.length P) := by simp [ovD, Den.rows, Function.comp_def]
theorem widenD_ov (d names) : widenD d names = ovD d names (placesOf d.tracks names) := rfl
theorem renD_ov (d fm tt) : renD d fm tt = ovD d (sortR (calS d.tracks fm tt)) (placesOf (calS d.tracks fm tt) (sortR (calS d.tracks fm tt))) := rfl
theorem ovD_right {d : Den} {names : List (List UInt8)} {P : List Nat} (h : rightS d = true) (h1 : names.length ≤ 6) (h2 : risesS names = true) (hP : P.length = d.tracks.length) : rightS (ovD d names P) = true := by
  obtain ⟨k1, k2, k3⟩ := rightS_parts h
  obtain ⟨_, _, k4, k5⟩ := tracksS_parts k1
  rw [rightS, show (ovD d names P).tracks = names from rfl, show (ovD d names P).accept = d.accept from rfl, tracksS_mk h1 h2 k4 k5]
  have e : (ovD d names P).next.length = d.accept.length := by simp [ovD, Den.rows, k2]
  rw [decide_eq_true e, Bool.true_and, Bool.true_and, List.all_eq_true]
  intro r hr
  simp only [ovD, Den.rows, List.mem_map] at hr
  obtain ⟨_, ⟨_, ⟨x, hx, rfl⟩, rfl⟩, rfl⟩ := hr
  obtain ⟨l1, l2⟩ := rowOk_parts (k3 x hx)
  rw [rowOk, decide_eq_true (ovRow_length _ _ _), Bool.true_and, List.all_eq_true]
  intro y hy
  simp only [ovRow, List.mem_map, List.mem_range] at hy
  obtain ⟨a, _, rfl⟩ := hy
  have hg := gatN_lt a P
  rw [hP, ← l1] at hg
  have := l2 _ (List.getElem_mem hg)
  simp [List.getD_eq_getElem?_getD, hg]
  exact this
theorem ovD_same {d e : Den} {names : List (List UInt8)} {P : List Nat} (h1 : names = e.tracks) (h2 : d.accept = e.accept) (h3 : d.rows.map (ovRow names.length P) = e.rows) : sameD (ovD d names P) e = true := by
  rw [sameD_eq, ovD_rows, h3]
  simp [ovD, h1, h2]
theorem rows_id {d : Den} (h : rightS d = true) : d.rows.map (ovRow d.tracks.length (List.range d.tracks.length)) = d.rows := by
  have : ∀ r ∈ d.rows, ovRow d.tracks.length (List.range d.tracks.length) r = r := fun r hr => ovRow_id (rows_len h r hr)
  rw [List.map_congr_left this, List.map_id']

theorem strict_tog {l : List (List UInt8)} (h : Strict l) : togS l = l := strict_eq (tog_strict l) h fun x => tog_mem l x
theorem inAll_iff {a b : List (List UInt8)} : inAll a b = true ↔ ∀ s ∈ a, s ∈ b := by simp [inAll]
theorem allIn_iff {a b : List (List UInt8)} : allIn a b = true ↔ ∀ s ∈ a, s ∈ b := by simp [allIn]
theorem nonN_iff {a : List (List UInt8)} : nonN a = false ↔ ∀ s ∈ a, nameS s = true := by simp [nonN]

theorem widen_self {d : Den} (h : rightS d = true) : widenE d d.tracks = 0 ∧ sameD (widenR d d.tracks) d = true := by
  obtain ⟨k1, _, _⟩ := rightS_parts h
  obtain ⟨k2, k3, _, _⟩ := tracksS_parts k1
  have h0 := widenE_ok h k3 k2 (inAll_iff.2 fun s hs => hs)
  refine ⟨h0, ?_⟩
  rw [widenR_ok h0, widenD_ov, places_self (strict_nodup (rises_strict k3))]
  exact ovD_same rfl rfl (rows_id h)

theorem calN_self {tr : List (List UInt8)} (h : tr.Nodup) : ∀ i, i ≤ tr.length → calN tr tr tr i = tr
  | 0, _ => rfl
  | i + 1, hi => by
    have e : tr.getD i [] = tr[i] := by simp [List.getD_eq_getElem?_getD, show i < tr.length by omega]
    rw [calN, calN_self h i (by omega), e, idx_get h]
    simp
theorem ren_self {d : Den} (h : rightS d = true) : renE d d.tracks d.tracks = 0 ∧ sameD (renR d d.tracks d.tracks) d = true := by
  obtain ⟨k1, _, _⟩ := rightS_parts h
  obtain ⟨k2, k3, _, _⟩ := tracksS_parts k1
  have hs := rises_strict k3
  have hnd := strict_nodup hs
  have hn := nonN_iff.2 (rises_names k3)
  have hc : calS d.tracks d.tracks d.tracks = d.tracks := calN_self hnd _ (Nat.le_refl _)
  have ht := strict_tog hs
  obtain ⟨s1, s2⟩ := sort_fine hn (by rw [ht])
  have h0 : renE d d.tracks d.tracks = 0 := by
    rw [ren_sort h rfl hn (allIn_iff.2 fun s hs => hs) (tw_nodup hnd), hc]
    exact s1
  refine ⟨h0, ?_⟩
  rw [renR_ok h0, renD_ov, hc, s2, ht, places_self hnd]
  exact ovD_same rfl rfl (rows_id h)

theorem widen_twice {d : Den} {more all : List (List UInt8)} (h1 : widenE d more = 0) (h2 : widenE (widenR d more) all = 0) : widenE d all = 0 ∧ sameD (widenR d all) (widenR (widenR d more) all) = true := by
  obtain ⟨hr, r1, l1, i1⟩ := widenE_of_ok h1
  obtain ⟨_, r2, l2, i2⟩ := widenE_of_ok h2
  have hk := tracksS_parts (rightS_parts hr).1
  have i1 := inAll_iff.1 i1
  have i2 := inAll_iff.1 i2
  have htm : (widenR d more).tracks = more := by rw [widenR_ok h1]; rfl
  rw [htm] at i2
  have h0 := widenE_ok hr r2 l2 (inAll_iff.2 fun s hs => i2 s (i1 s hs))
  refine ⟨h0, ?_⟩
  rw [widenR_ok h0, widenR_ok h2, widenD_ov, widenD_ov, htm]
  refine ovD_same rfl ?_ ?_
  · rw [widenR_ok h1]; rfl
  · rw [ovD_rows, widenR_ok h1, widenD_ov, ovD_rows, List.map_map]
    refine List.map_congr_left fun r _ => ?_
    rw [Function.comp_apply, ovRow_comp _ _ _ _ _ (by simp [placesOf]) (fun b hb => ?_)]
    · congr 1
      refine List.ext_getElem (by simp [placesOf]) fun i q1 q2 => ?_
      have hi : i < d.tracks.length := by simpa [placesOf] using q1
      have hm := List.idxOf_lt_length_of_mem (i1 _ (List.getElem_mem hi))
      simp only [placesOf, List.getElem_map, List.getD_eq_getElem?_getD, List.getElem?_map, List.getElem?_eq_getElem hm, Option.map_some, Option.getD_some]
      rw [List.getElem_idxOf hm]
    · obtain ⟨s, hs, rfl⟩ := List.mem_map.1 hb
      exact List.idxOf_lt_length_of_mem (i1 s hs)

end Tab

/- slices.Compact, glyph.Union. -/
namespace Tab
open Go Go.Proofs
set_option maxRecDepth 10000
set_option linter.unusedVariables false
set_option linter.unusedSimpArgs false
set_option linter.unusedSectionVars false

/-- Does the place i begin a run of equal ones? -/
def newAt (l : List (List UInt8)) (i : Nat) : Bool := decide (i = 0) || decide (l.getD i [] ≠ l.getD (i - 1) [])
def keepN (l : List (List UInt8)) (j : Nat) : List (List UInt8) := ((List.range j).filter (newAt l)).map fun i => l.getD i []
theorem keep_new {l j} (h : newAt l j = true) : keepN l (j + 1) = keepN l j ++ [l.getD j []] := by
  rw [keepN, List.range_succ, List.filter_append, List.map_append]; simp [h, keepN]
theorem keep_old {l j} (h : newAt l j = false) : keepN l (j + 1) = keepN l j := by
  rw [keepN, List.range_succ, List.filter_append, List.map_append]; simp [h, keepN]
theorem keep_le (l j) : (keepN l j).length ≤ j := by
  rw [keepN, List.length_map]; have := List.length_filter_le (newAt l) (List.range j); simpa using this
theorem keep_take {l : List (List UInt8)} : ∀ {j : Nat}, j ≤ l.length → (∀ i, i < j → newAt l i = true) → keepN l j = l.take j
  | 0, _, _ => by simp [keepN]
  | j + 1, hj, h => by
    rw [keep_new (h j (by omega)), keep_take (by omega) fun i hi => h i (by omega), List.take_succ_eq_append_getElem (by omega)]
    simp [List.getD_eq_getElem?_getD, show j < l.length by omega]
theorem keep_mem {l : List (List UInt8)} {x : List UInt8} : ∀ {j : Nat}, j ≤ l.length → (x ∈ keepN l j ↔ x ∈ l.take j)
  | 0, _ => by simp [keepN]
  | j + 1, hj => by
    have ih := keep_mem (l := l) (x := x) (j := j) (by omega)
    have hg : l.getD j [] = l[j] := by simp [List.getD_eq_getElem?_getD, show j < l.length by omega]
    rw [List.take_succ_eq_append_getElem (show j < l.length by omega), List.mem_append, List.mem_singleton]
    cases h : newAt l j with
    | true => rw [keep_new h, List.mem_append, List.mem_singleton, ih, hg]
    | false =>
      rw [keep_old h, ih]
      simp only [newAt, Bool.or_eq_false_iff, decide_eq_false_iff_not, Decidable.not_not] at h
      constructor
      · exact .inl
      · rintro (h1 | h1)
        · exact h1
        · rw [h1, ← hg, h.2]
          have : j - 1 < l.length := by omega
          have e : l.getD (j - 1) [] = (l.take j)[j - 1]'(by simp; omega) := by simp [List.getD_eq_getElem?_getD, this]
          rw [e]; exact List.getElem_mem _

theorem new_lt1 (l) {i : Nat} (h : i < 1) : newAt l i = true := by
  have : i = 0 := by omega
  subst this; rfl

theorem slices_Compact (l : List (List UInt8)) (hl : l.length < 2^40) : ACall Tryz.prog 48 [.hs 0 0 0 l.length 1] [.cells 0 (l.map .str)]
    fun o H' => o = .ret (.hs 0 0 0 (keepN l l.length).length 1) ∧ H' = [.cells 0 ((keepN l l.length ++ List.replicate (l.length - (keepN l l.length).length) []).map .str)] := by
  have hfull : (∀ i, i < l.length → newAt l i = true) → keepN l l.length = l := fun h => by rw [keep_take (Nat.le_refl _) h, List.take_length]
  refine ACall.of_sw 61 Tryz.func48 rfl Tryz.ntmps48 (by kernel_rfl) (Nat.le_of_ble_eq_true (by kernel_rfl)) ?_; refine SW.of_vc ?_
  repeat first | refine opsStep ?_ | refine codeStep ?_ | refine drawStep ?_
  refine decB_dec (fun h => ?_) (fun h => ?_)
  · have hk := hfull fun i hi => by
      have : i = 0 := by omega
      subst this; rfl
    repeat first | refine opsStep ?_ | refine codeStep ?_ | refine drawStep ?_
    refine finR (l := [(2, .hs 0 0 0 l.length 1)]) (H₁ := [Blk.cells 0 ((l).map .str)]) (v := .hs 0 0 0 l.length 1) ⟨(by kernel_rfl), trivial⟩ (by kernel_rfl) (Ent.refl _ _ _) (by kernel_rfl) ?_
    rw [hk]; simp
  repeat first | refine opsStep ?_ | refine codeStep ?_ | refine drawStep ?_
  refine loopE_of (ι := {k : Nat // 1 ≤ k ∧ k ≤ l.length ∧ ∀ i, i < k → newAt l i = true}) (fun k => (fr [(0, .hs 0 0 0 l.length 1), (3, .int .i64 k.1)], [Blk.cells 0 ((l).map .str)])) (fun k => l.length - k.1)
    ⟨1, by omega, by omega, fun i hi => new_lt1 l hi⟩ (Ent.fr' ⟨(by kernel_rfl), (by kernel_rfl), trivial⟩ (by kernel_rfl)) ?_
  rintro ⟨k, hk1, hkl, hpre⟩
  repeat first | refine opsStep ?_ | refine codeStep ?_ | refine drawStep ?_
  refine decB_dec (fun hkn => ?_) (fun hkn => ?_)
  · have hkn : k < l.length := by have := hkn; simp at this; omega
    have hw : IntKind.wrap .i64 ((k : Int) - 1) = k - 1 := IntWalk.i64_in _ (by omega)
    have g0 : l.getD k [] = l[k] := by simp [List.getD_eq_getElem?_getD, hkn]
    have g1 : l.getD (k - 1) [] = l[k - 1] := by simp [List.getD_eq_getElem?_getD, show k - 1 < l.length by omega]
    repeat first | refine opsStep ?_ | refine codeStep ?_ | refine drawStep ?_
    refine SW.drawn rfl (by kernel_rfl) ?_
    repeat first | refine opsStep ?_ | refine codeStep ?_ | refine drawStep ?_
    refine guardE_of (by simp; omega) ?_
    repeat first | refine opsStep ?_ | refine codeStep ?_ | refine drawStep ?_
    refine optE_of (c := .str l[k]) (by simp [Value.cells, hkn]) ?_
    repeat first | refine opsStep ?_ | refine codeStep ?_ | refine drawStep ?_
    refine guardE_of (by rw [hw]; omega) ?_
    repeat first | refine opsStep ?_ | refine codeStep ?_ | refine drawStep ?_
    refine optE_of (c := .str l[k - 1]) (by rw [hw]; simp [Value.cells, show ((k : Int) - 1).toNat = k - 1 by omega, show k - 1 < l.length by omega]) ?_
    repeat first | refine opsStep ?_ | refine codeStep ?_ | refine drawStep ?_
    refine ⟨by kernel_rfl, ?_⟩
    repeat first | refine opsStep ?_ | refine codeStep ?_ | refine drawStep ?_
    refine decB_dec (fun he => ?_) (fun he => ?_)
    · have hnew : newAt l k = false := by rw [newAt, g0, g1, he]; simp; omega
      repeat first | refine opsStep ?_ | refine codeStep ?_ | refine drawStep ?_
      refine guardE_of ⟨by simp; omega, .inr (by simp; omega)⟩ ?_
      repeat first | refine opsStep ?_ | refine codeStep ?_ | refine drawStep ?_
      refine loopE_of (ι := {x : Nat × Nat × List (List UInt8) // 1 ≤ x.2.1 ∧ x.2.1 ≤ l.length - k ∧ x.1 + 1 ≤ k + x.2.1 ∧ x.2.2.length = l.length ∧ x.2.2.take x.1 = keepN l (k + x.2.1) ∧ (keepN l (k + x.2.1)).length = x.1 ∧ ∀ i, k + x.2.1 - 1 ≤ i → i < l.length → x.2.2.getD i [] = l.getD i []})
        (fun x => (fr [(0, .hs 0 0 0 l.length 1), (3, .int .i64 x.1.1), (4, .hs 0 0 k (l.length - k) 1), (5, .int .i64 x.1.2.1)], [Blk.cells 0 ((x.1.2.2).map .str)])) (fun x => l.length - x.1.2.1)
        ⟨(k, 1, l), by simp, by simp; omega, by simp, rfl, ?_, ?_, fun _ _ _ => rfl⟩ (Ent.fr' ⟨(by kernel_rfl), (by kernel_rfl), ?_, (by kernel_rfl), trivial⟩ (by kernel_rfl)) ?_
      · simp only []
        rw [keep_old hnew, keep_take (by omega) hpre]
      · simp only []
        rw [keep_old hnew, keep_take (by omega) hpre, List.length_take]; omega
      · refine Eq.trans (b := .hs 0 0 (0 + (k : Int).toNat * 1) ((l.length : Int).toNat - (k : Int).toNat) 1) (by kernel_rfl) ?_
        simp
      rintro ⟨⟨j, k2, C⟩, q1, q2, q3, q4, q5, q6, q7⟩
      simp only at q1 q2 q3 q4 q5 q6 q7
      repeat first | refine opsStep ?_ | refine codeStep ?_ | refine drawStep ?_
      refine decB_dec (fun hk2 => ?_) (fun hk2 => ?_)
      · have hk2 : k2 < l.length - k := by have := hk2; simp at this; omega
        have hx : k + k2 < l.length := by omega
        have hw2 : IntKind.wrap .i64 ((k2 : Int) - 1) = k2 - 1 := IntWalk.i64_in _ (by omega)
        have h1 := q7 (k + k2) (by omega) hx
        have h2 := q7 (k + k2 - 1) (by omega) (by omega)
        have c1 : C[k + k2]? = some (l.getD (k + k2) []) := by rw [← h1]; simp [List.getD_eq_getElem?_getD, show k + k2 < C.length by omega]
        have c2 : C[k + k2 - 1]? = some (l.getD (k + k2 - 1) []) := by rw [← h2]; simp [List.getD_eq_getElem?_getD, show k + k2 - 1 < C.length by omega]
        have hnw : newAt l (k + k2) = decide (l.getD (k + k2) [] ≠ l.getD (k + k2 - 1) []) := by rw [newAt, decide_eq_false (show ¬ (k + k2 = 0) by omega), Bool.false_or]
        generalize ha : l.getD (k + k2) [] = a at *
        generalize l.getD (k + k2 - 1) [] = b at *
        repeat first | refine opsStep ?_ | refine codeStep ?_ | refine drawStep ?_
        refine SW.drawn rfl (by kernel_rfl) ?_
        repeat first | refine opsStep ?_ | refine codeStep ?_ | refine drawStep ?_
        refine guardE_of (by simp; omega) ?_
        repeat first | refine opsStep ?_ | refine codeStep ?_ | refine drawStep ?_
        refine optE_of (c := .str a) (by simp [Value.cells, c1]) ?_
        repeat first | refine opsStep ?_ | refine codeStep ?_ | refine drawStep ?_
        refine guardE_of (by rw [hw2]; omega) ?_
        repeat first | refine opsStep ?_ | refine codeStep ?_ | refine drawStep ?_
        refine optE_of (c := .str b) (by rw [hw2]; simp [Value.cells, show ((k2 : Int) - 1).toNat = k2 - 1 by omega, show k + (k2 - 1) = k + k2 - 1 by omega, c2]) ?_
        repeat first | refine opsStep ?_ | refine codeStep ?_ | refine drawStep ?_
        refine ⟨by kernel_rfl, ?_⟩
        repeat first | refine opsStep ?_ | refine codeStep ?_ | refine drawStep ?_
        refine decB_dec (fun hab => ?_) (fun hab => ?_)
        · have hn := hnw.trans (decide_eq_true hab)
          repeat first | refine opsStep ?_ | refine codeStep ?_ | refine drawStep ?_
          refine guardE_of (by simp; omega) ?_
          repeat first | refine opsStep ?_ | refine codeStep ?_ | refine drawStep ?_
          refine optE_of (c := .str a) (by simp [Value.cells, c1]) ?_
          repeat first | refine opsStep ?_ | refine codeStep ?_ | refine drawStep ?_
          refine guardE_of (by simp; omega) ?_
          repeat first | refine opsStep ?_ | refine codeStep ?_ | refine drawStep ?_
          refine guardE_of ⟨rfl, by decide, by show 0 + j * 1 + 1 ≤ (C.map AV.str).length; rw [List.length_map]; omega⟩ ?_
          repeat first | refine opsStep ?_ | refine codeStep ?_ | refine drawStep ?_
          refine ⟨⟨(j + 1, k2 + 1, C.set j a), by simp, by simp only []; omega, by simp only []; omega, by simp [q4], ?_, ?_, ?_⟩, (by show l.length - (k2 + 1) < l.length - k2; omega), Ent.fr' ⟨(by kernel_rfl), inc_slot (i := j) (by omega), (by kernel_rfl), inc_slot (i := k2) (by omega), trivial⟩ ?_⟩
          · simp only []
            rw [← Nat.add_assoc, keep_new hn, ← q5]
            rw [List.take_succ_eq_append_getElem (by simp; omega)]
            rw [ha, List.take_set, List.set_eq_of_length_le (by simp; omega)]
            simp [show j < C.length by omega]
          · simp only []
            rw [← Nat.add_assoc, keep_new hn, List.length_append, q6]; rfl
          · intro i hi hil
            simp only [] at hi ⊢
            rw [← q7 i (by omega) hil]
            simp only [List.getD_eq_getElem?_getD, List.getElem?_set]
            rw [if_neg (by omega)]
          · refine Eq.trans (b := [Blk.cells 0 (over (C.map AV.str) (0 + j * 1) [.str a])]) (by kernel_rfl) ?_
            rw [Nat.zero_add, Nat.mul_one, over_one (by rw [List.length_map]; omega), ← List.map_set]
        · have hn := hnw.trans (decide_eq_false hab)
          repeat first | refine opsStep ?_ | refine codeStep ?_ | refine drawStep ?_
          refine ⟨⟨(j, k2 + 1, C), by simp, by simp only []; omega, by simp only []; omega, q4, ?_, ?_, fun i hi hil => q7 i (by simp only [] at hi; omega) hil⟩, (by show l.length - (k2 + 1) < l.length - k2; omega), Ent.fr' ⟨(by kernel_rfl), (by kernel_rfl), (by kernel_rfl), inc_slot (i := k2) (by omega), trivial⟩ (by kernel_rfl)⟩
          · simp only []
            rw [← Nat.add_assoc, keep_old hn]; exact q5
          · simp only []
            rw [← Nat.add_assoc, keep_old hn]; exact q6
      · have hk2 : k2 = l.length - k := by have := hk2; simp at this; omega
        have hfin : keepN l l.length = C.take j := by rw [q5]; congr 1; omega
        have hlen : (keepN l l.length).length = j := by rw [← q6]; congr 2; omega
        repeat first | refine opsStep ?_ | refine codeStep ?_ | refine drawStep ?_
        refine guardE_of ⟨by simp; omega, .inr (by simp; omega)⟩ ?_
        repeat first | refine opsStep ?_ | refine codeStep ?_ | refine drawStep ?_
        refine guardE_of ⟨rfl, by simp; omega⟩ ?_
        repeat first | refine opsStep ?_ | refine codeStep ?_ | refine drawStep ?_
        refine guardE_of ⟨by simp; omega, .inl rfl⟩ ?_
        repeat first | refine opsStep ?_ | refine codeStep ?_ | refine drawStep ?_
        refine finR (l := [(2, .hs 0 0 0 j 1)]) (H₁ := [Blk.cells 0 (over (C.map AV.str) (0 + j * 1) (reps [.str []] (l.length - j)))]) (v := .hs 0 0 0 j 1) ⟨?_, trivial⟩ ?_ (Ent.refl _ _ _) (by kernel_rfl) ?_
        · refine Eq.trans (b := .hs 0 0 (0 + (0 : Int).toNat * 1) ((j : Int).toNat - (0 : Int).toNat) 1) (by kernel_rfl) ?_
          simp
        · refine Eq.trans (b := [Blk.cells 0 (over (C.map AV.str) (0 + (j : Int).toNat * 1) (reps [.str []] ((l.length : Int).toNat - (j : Int).toNat)))]) (by kernel_rfl) ?_
          simp
        · rw [hlen, hfin]
          refine ⟨rfl, ?_⟩
          rw [Nat.zero_add, Nat.mul_one, reps_one, over, List.length_replicate, List.drop_of_length_le (by simp; omega), List.append_nil, List.map_append, List.map_take, List.map_replicate]
    · have hnew : newAt l k = true := by rw [newAt, g0, g1]; simp [he]
      repeat first | refine opsStep ?_ | refine codeStep ?_ | refine drawStep ?_
      refine ⟨⟨k + 1, by omega, by omega, fun i hi => ?_⟩, (by show l.length - (k + 1) < l.length - k; omega), Ent.fr' ⟨(by kernel_rfl), inc_slot (i := k) (by omega), trivial⟩ (by kernel_rfl)⟩
      by_cases e : i = k
      · subst e; exact hnew
      · exact hpre i (by omega)
  · have hkn : k = l.length := by have := hkn; simp at this; omega
    have hk := hfull fun i hi => hpre i (by omega)
    repeat first | refine opsStep ?_ | refine codeStep ?_ | refine drawStep ?_
    refine finR (l := [(2, .hs 0 0 0 l.length 1)]) (H₁ := [Blk.cells 0 ((l).map .str)]) (v := .hs 0 0 0 l.length 1) ⟨(by kernel_rfl), trivial⟩ (by kernel_rfl) (Ent.refl _ _ _) (by kernel_rfl) ?_
    rw [hk]; simp

theorem srt_le {r : List (List UInt8)} (hs : SrtTo r r.length) {j : Nat} (h0 : 0 < j) (hj : j < r.length) : r.getD (j - 1) [] = r.getD j [] ∨ less (r.getD (j - 1) []) (r.getD j []) = true := by
  have h := hs (j - 1) (by omega)
  rw [show j - 1 + 1 = j by omega] at h
  cases e : less (r.getD (j - 1) []) (r.getD j []) with
  | true => exact .inr rfl
  | false => exact .inl (less_total e h)
/-- Of what is sorted the firsts of the runs are strictly sorted. -/
theorem keep_strict {r : List (List UInt8)} (hs : SrtTo r r.length) : Strict (keepN r r.length) := by
  suffices h : ∀ j, j ≤ r.length → Strict (keepN r j) ∧ ∀ x ∈ keepN r j, 0 < j ∧ (x = r.getD (j - 1) [] ∨ less x (r.getD (j - 1) []) = true) from (h _ (Nat.le_refl _)).1
  intro j
  induction j with
  | zero => exact fun _ => ⟨List.Pairwise.nil, fun x hx => by simp [keepN] at hx⟩
  | succ j ih =>
    intro hj
    obtain ⟨i1, i2⟩ := ih (by omega)
    have hle : ∀ x ∈ keepN r j, x = r.getD j [] ∨ less x (r.getD j []) = true := fun x hx => by
      obtain ⟨p, q⟩ := i2 x hx
      have hjj := srt_le hs (show 0 < j by omega) (show j < r.length by omega)
      rcases q with rfl | q
      · rcases hjj with e | e
        · exact .inl e
        · exact .inr e
      · rcases hjj with e | e
        · exact .inr (e ▸ q)
        · exact .inr (less_trans q e)
    cases hn : newAt r j with
    | true =>
      rw [keep_new hn]
      refine ⟨List.pairwise_append.2 ⟨i1, List.pairwise_singleton _ _, fun x hx y hy => ?_⟩, fun x hx => ⟨by omega, ?_⟩⟩
      · rw [List.mem_singleton] at hy
        subst hy
        rcases hle x hx with e | e
        · obtain ⟨p, q⟩ := i2 x hx
          simp only [newAt, show ¬ (j = 0) by omega, decide_false, Bool.false_or, decide_eq_true_eq] at hn
          have hjj := srt_le hs (show 0 < j by omega) (show j < r.length by omega)
          rcases hjj with e' | e'
          · exact absurd e'.symm hn
          · rcases q with q | q
            · exact absurd (e.symm.trans q) hn
            · rw [e] at q
              have := less_asymm q
              rw [e'] at this
              simp at this
        · exact e
      · rw [Nat.add_sub_cancel]
        rcases List.mem_append.1 hx with hx | hx
        · exact hle x hx
        · exact .inl (List.mem_singleton.1 hx)
    | false =>
      rw [keep_old hn]
      exact ⟨i1, fun x hx => ⟨by omega, by rw [Nat.add_sub_cancel]; exact hle x hx⟩⟩
theorem keep_tog {l r : List (List UInt8)} (hp : r.Perm l) (hs : SrtTo r r.length) : keepN r r.length = togS l :=
  strict_eq (keep_strict hs) (tog_strict l) fun x => by
    rw [keep_mem (Nat.le_refl _), List.take_length, hp.mem_iff, tog_mem]

theorem glyph_Union (ka kb : SK) (a b : List (List UInt8)) (hl : a.length + b.length ≤ 12) (ha : ∀ s ∈ a, s.length < 2^62) (hb : ∀ s ∈ b, s.length < 2^62) (ra : risesS a = true) (rb : risesS b = true) :
    Pure Tryz.prog 29 [aSs ka a, aSs kb b] (.tup [aSs .any (togS (a ++ b)), .int .i64 0]) := by
  have h1 := glyph_Rises ka a (by omega) ha
  have h2 := glyph_Rises kb b (by omega) hb
  rw [ra] at h1
  rw [rb] at h2
  refine Pure.of_sw 23 Tryz.func29 rfl Tryz.ntmps29 (by kernel_rfl) (Nat.le_of_ble_eq_true (by kernel_rfl)) (by simp [closeds, AV.closed, aSs_closed, aIs_closed, aBs_closed, aRs_closed, aDen_closed]) (by simp [AV.closed, closeds, aSs_closed, aIs_closed, aBs_closed, aRs_closed, aDen_closed]) ?_; refine SW.of_vc ?_
  repeat first | refine opsStep ?_ | refine codeStep ?_ | refine drawStep ?_
  refine callP h1 ?_
  repeat first | refine opsStep ?_ | refine codeStep ?_ | refine drawStep ?_
  refine callP h2 ?_
  repeat first | refine opsStep ?_ | refine codeStep ?_ | refine drawStep ?_
  refine callN (slices_Clone_S_new ka a (by omega)) ?_
  repeat first | refine opsStep ?_ | refine codeStep ?_ | refine drawStep ?_
  refine guardE_of ⟨rfl, by simp⟩ ?_
  refine guardE_of (by simp [Value.cells]) ?_
  refine guardE_of ⟨by omega, by show (a.length + b.length) * 16 ≤ 140737488355328; omega⟩ ?_
  iterate 2 refine opsStep ?_
  refine VCode.ent (((Ent.fr' (l := [(6, .hs 0 1 0 (a ++ b).length 1)]) (H' := [] ++ [.cells 1 ((a ++ b).map .str)]) ⟨?_, trivial⟩ ?_).trans (Ent.regen (l := []) (pre := []) (g := 1) (cs := (a ++ b).map .str) 6 0 (Nat.zero_le _) trivial trivial (bels_map.2 fun _ _ => by simp [AV.bel]))).to rfl) ?_
  · refine Eq.trans (b := .hs 0 1 0 (a.length + b.length) 1) (by kernel_rfl) ?_
    rw [List.length_append]
  · refine Eq.trans (b := [.cells 1 (((a.map AV.str).drop 0).take (a.length * 1) ++ b.map AV.str)]) (by kernel_rfl) ?_
    rw [td_all (by simp), List.map_append]; rfl
  repeat first | refine opsStep ?_ | refine codeStep ?_ | refine drawStep ?_
  refine ⟨_, slices_Sort (a ++ b) (by simp; omega), ?_⟩
  rintro o H' ⟨rfl, r, hp, hsr, rfl⟩
  have hrl := hp.length_eq
  rw [← hrl] at hsr
  repeat first | refine opsStep ?_ | refine codeStep ?_ | refine drawStep ?_
  refine callH (by rw [← hrl]; exact slices_Compact r (by rw [hrl]; simp; omega)) ?_
  have hk := keep_tog hp hsr
  have hle := keep_le r r.length
  rw [hk] at hle ⊢
  repeat first | refine opsStep ?_ | refine codeStep ?_ | refine drawStep ?_
  refine finH (l := [(4, .hs 0 0 0 (togS (a ++ b)).length 1), (5, .int .i64 0)]) (H₁ := [] ++ [.cells 0 ((togS (a ++ b)).map .str ++ List.replicate (r.length - (togS (a ++ b)).length) (.str []))]) ⟨(by kernel_rfl), (by kernel_rfl), trivial⟩ ?_ (Ent.freezeCut (l := [(5, .int .i64 0)]) (pre := []) (g := 0) (n := (togS (a ++ b)).length) (cs := (togS (a ++ b)).map .str) 4 (Nat.zero_le _) (by simp [frBel, AV.bel]) trivial (by simp)) ?_
  · refine Eq.trans (b := [Blk.cells 0 ((togS (a ++ b) ++ List.replicate (r.length - (togS (a ++ b)).length) []).map .str)]) (by kernel_rfl) ?_
    rw [List.map_append, List.map_replicate]; rfl
  · exact (by kernel_rfl)

end Tab

/- Renamed and renamed back. -/
namespace Tab
open Go Go.Proofs
set_option maxRecDepth 10000
set_option linter.unusedVariables false
set_option linter.unusedSimpArgs false
set_option linter.unusedSectionVars false

theorem renE_of_ok {d : Den} {fm tt : List (List UInt8)} (h : renE d fm tt = 0) : rightS d = true ∧ fm.length = tt.length ∧ nonN tt = false ∧ allIn fm d.tracks = true ∧ twS fm = false ∧ sortE (calS d.tracks fm tt) = 0 := by
  cases h1 : rightS d with
  | false => rw [ren_shape (.inl h1)] at h; omega
  | true =>
    by_cases h2 : fm.length = tt.length
    · cases h3 : nonN tt with
      | true => rw [ren_name h1 h2 h3] at h; omega
      | false =>
        cases h4 : allIn fm d.tracks with
        | false => rw [ren_none h1 h2 h3 h4] at h; omega
        | true =>
          cases h5 : twS fm with
          | true => rw [ren_twice h1 h2 h3 h4 h5] at h; omega
          | false => exact ⟨rfl, h2, rfl, rfl, rfl, by rw [← ren_sort h1 h2 h3 h4 h5]; exact h⟩
    · rw [ren_shape (.inr h2)] at h; omega

theorem idx_inj {l : List (List UInt8)} {a b : List UInt8} (ha : a ∈ l) (hb : b ∈ l) (h : l.idxOf a = l.idxOf b) : a = b := by
  have h1 := List.getElem_idxOf (List.idxOf_lt_length_of_mem ha)
  have h2 := List.getElem_idxOf (List.idxOf_lt_length_of_mem hb)
  rw [← h1, ← h2]
  simp only [h]

theorem cal_hit {tr fm tt : List (List UInt8)} (hl : fm.length = tt.length) (hd : fm.Nodup) (hm : ∀ s ∈ fm, s ∈ tr) : ∀ i, i ≤ fm.length → ∀ k (hk : k < i) (hkl : k < fm.length), (calN tr fm tt i)[tr.idxOf fm[k]]? = tt[k]?
  | i + 1, hi, k, hk, hkl => by
    have hil : i < fm.length := by omega
    have e : fm.getD i [] = fm[i] := by simp [List.getD_eq_getElem?_getD, hil]
    have e2 : tt.getD i [] = tt[i] := by simp [List.getD_eq_getElem?_getD, show i < tt.length by omega]
    rw [calN, e, e2, List.getElem?_set, calN_length]
    have hlt := List.idxOf_lt_length_of_mem (hm _ (List.getElem_mem hil))
    by_cases hki : k = i
    · subst hki
      rw [if_pos rfl, if_pos hlt, List.getElem?_eq_getElem (by omega)]
    · rw [if_neg fun e => ?_]
      · exact cal_hit hl hd hm i (by omega) k (by omega) hkl
      · have := idx_inj (hm _ (List.getElem_mem hil)) (hm _ (List.getElem_mem hkl)) e
        rcases Nat.lt_trichotomy i k with h | h | h
        · omega
        · omega
        · exact List.pairwise_iff_getElem.1 hd k i hkl hil h this.symm
theorem cal_miss {tr fm tt : List (List UInt8)} {p : Nat} : ∀ i, i ≤ fm.length → (∀ k (hkl : k < fm.length), tr.idxOf fm[k] ≠ p) → (calN tr fm tt i)[p]? = tr[p]?
  | 0, _, _ => rfl
  | i + 1, hi, h => by
    have hil : i < fm.length := by omega
    have e : fm.getD i [] = fm[i] := by simp [List.getD_eq_getElem?_getD, hil]
    rw [calN, e, List.getElem?_set, if_neg (h i hil)]
    exact cal_miss i (by omega) h

theorem ren_back {d : Den} {fm tt : List (List UInt8)} (h : renE d fm tt = 0) : renE (renR d fm tt) tt fm = 0 ∧ sameD (renR (renR d fm tt) tt fm) d = true := by
  obtain ⟨hr, hl, hnt, ha, htw, hse⟩ := renE_of_ok h
  obtain ⟨k2, k3, _, _⟩ := tracksS_parts (rightS_parts hr).1
  obtain ⟨z1, z2, z3⟩ := sort_zero hse
  have ha := allIn_iff.1 ha
  have hfd := tw_false htw
  have hstr := rises_strict k3
  have htd := strict_nodup hstr
  have hcd : (calS d.tracks fm tt).Nodup := (tog_len_iff _).1 z2
  have hcl : (calS d.tracks fm tt).length = d.tracks.length := calN_length ..
  have hhit : ∀ k (hk : k < fm.length), (calS d.tracks fm tt)[d.tracks.idxOf fm[k]]? = tt[k]? := fun k hk => cal_hit hl hfd ha fm.length (Nat.le_refl _) k hk hk
  have hmiss : ∀ p, (∀ k (hk : k < fm.length), d.tracks.idxOf fm[k] ≠ p) → (calS d.tracks fm tt)[p]? = d.tracks[p]? := fun p hp => cal_miss fm.length (Nat.le_refl _) hp
  have hrt : (renR d fm tt).tracks = sortR (calS d.tracks fm tt) := by rw [renR_ok h]; rfl
  have hRR : renR d fm tt = ovD d (sortR (calS d.tracks fm tt)) (placesOf (calS d.tracks fm tt) (sortR (calS d.tracks fm tt))) := by rw [renR_ok h, renD_ov]
  rw [z1] at hrt hRR
  generalize hcle : calS d.tracks fm tt = cl at *
  have hnm : ∀ s, s ∈ togS cl ↔ s ∈ cl := fun s => tog_mem cl s
  have hns := tog_strict cl
  have hnd := strict_nodup hns
  have hcn := nonN_iff.1 z3
  have hrr : rightS (renR d fm tt) = true := by
    rw [hRR]
    exact ovD_right hr (by omega) (strict_rises hns fun s hs => hcn s ((hnm s).1 hs)) (by simp [placesOf, hcl])
  -- what is written
  have htin : ∀ k (hk : k < tt.length), tt[k] ∈ togS cl := fun k hk => by
    have := hhit k (by omega)
    rw [List.getElem?_eq_getElem hk] at this
    exact (hnm _).2 (List.mem_of_getElem? this)
  have httd : tt.Nodup := List.pairwise_iff_getElem.2 fun i j hi hj hij e => by
    have h1 := hhit i (by omega)
    have h2 := hhit j (by omega)
    rw [List.getElem?_eq_getElem hi] at h1
    rw [List.getElem?_eq_getElem hj, ← e] at h2
    obtain ⟨p1, q1⟩ := List.getElem?_eq_some_iff.1 h1
    obtain ⟨p2, q2⟩ := List.getElem?_eq_some_iff.1 h2
    have hix : d.tracks.idxOf fm[i] = d.tracks.idxOf fm[j] := by
      have a1 := idx_get hcd p1
      have a2 := idx_get hcd p2
      rw [q1] at a1
      rw [q2] at a2
      rw [← a1, ← a2]
    have := idx_inj (ha _ (List.getElem_mem (by omega))) (ha _ (List.getElem_mem (by omega))) hix
    exact List.pairwise_iff_getElem.1 hfd i j (by omega) (by omega) hij this
  have htm : ∀ s ∈ tt, s ∈ togS cl := fun s hs => by
    obtain ⟨k, hk, rfl⟩ := List.getElem_of_mem hs
    exact htin k hk
  have hhit2 : ∀ k (hk : k < tt.length), (calS (togS cl) tt fm)[(togS cl).idxOf tt[k]]? = fm[k]? := fun k hk => cal_hit hl.symm httd htm tt.length (Nat.le_refl _) k hk hk
  have hmiss2 : ∀ p, (∀ k (hk : k < tt.length), (togS cl).idxOf tt[k] ≠ p) → (calS (togS cl) tt fm)[p]? = (togS cl)[p]? := fun p hp => cal_miss tt.length (Nat.le_refl _) hp
  have hcl2 : (calS (togS cl) tt fm).length = d.tracks.length := by rw [calS, calN_length, z2, hcl]
  -- back
  have hback : ∀ i (hi : i < cl.length), (calS (togS cl) tt fm)[(togS cl).idxOf cl[i]]? = some (d.tracks[i]'(by omega)) := by
    intro i hi
    have hi' : i < d.tracks.length := by omega
    by_cases hin : d.tracks[i] ∈ fm
    · obtain ⟨k, hk, he⟩ := List.getElem_of_mem hin
      have h1 := hhit k hk
      rw [he, idx_get htd hi', List.getElem?_eq_getElem hi, List.getElem?_eq_getElem (by omega)] at h1
      rw [Option.some.inj h1, hhit2 k (by omega), List.getElem?_eq_getElem hk, he]
    · have hne : ∀ k (hk : k < fm.length), d.tracks.idxOf fm[k] ≠ i := fun k hk e => by
        have := List.getElem_idxOf (List.idxOf_lt_length_of_mem (ha _ (List.getElem_mem hk)))
        simp only [e] at this
        exact hin (this ▸ List.getElem_mem hk)
      have h1 := hmiss i hne
      rw [List.getElem?_eq_getElem hi, List.getElem?_eq_getElem hi'] at h1
      have h1 := Option.some.inj h1
      have hmem : cl[i] ∈ togS cl := (hnm _).2 (List.getElem_mem hi)
      rw [hmiss2 _ fun k hk e => ?_]
      · rw [List.getElem?_eq_getElem (List.idxOf_lt_length_of_mem hmem), List.getElem_idxOf, h1]
      · have e2 := idx_inj (htin k hk) hmem e
        have h3 := hhit k (by omega)
        rw [List.getElem?_eq_getElem hk] at h3
        obtain ⟨p1, q1⟩ := List.getElem?_eq_some_iff.1 h3
        have a1 := idx_get hcd p1
        rw [q1, e2, idx_get hcd hi] at a1
        exact hne k (by omega) a1.symm
  have hmem2 : ∀ s, s ∈ calS (togS cl) tt fm ↔ s ∈ d.tracks := fun s => by
    constructor
    · intro hs
      obtain ⟨j, hj, rfl⟩ := List.getElem_of_mem hs
      have hjn : j < (togS cl).length := by omega
      obtain ⟨i, hi, he⟩ := List.getElem_of_mem ((hnm _).1 (List.getElem_mem hjn))
      have hb := hback i hi
      rw [he, idx_get hnd hjn, List.getElem?_eq_getElem hj] at hb
      rw [Option.some.inj hb]
      exact List.getElem_mem _
    · intro hs
      obtain ⟨i, hi, rfl⟩ := List.getElem_of_mem hs
      exact List.mem_of_getElem? (hback i (by omega))
  have htog : togS (calS (togS cl) tt fm) = d.tracks := strict_eq (tog_strict _) hstr fun x => by rw [tog_mem, hmem2]
  have hnon2 : nonN (calS (togS cl) tt fm) = false := nonN_iff.2 fun s hs => rises_names k3 s ((hmem2 s).1 hs)
  obtain ⟨y1, y2⟩ := sort_fine hnon2 (by rw [htog, hcl2])
  have hE : renE (renR d fm tt) tt fm = 0 := by
    rw [ren_sort hrr hl.symm (nonN_iff.2 fun s hs => rises_names k3 s (ha s hs)) (by rw [hrt]; exact allIn_iff.2 htm) (tw_nodup httd), hrt]
    exact y1
  refine ⟨hE, ?_⟩
  rw [renR_ok hE, renD_ov, hrt, y2, htog, hRR]
  refine ovD_same rfl rfl ?_
  rw [ovD_rows, List.map_map]
  refine Eq.trans (List.map_congr_left fun r _ => ?_) (rows_id hr)
  rw [Function.comp_apply, ovRow_comp _ _ _ _ _ (by simp [placesOf, hcl2, z2, hcl]) (fun b hb => ?_)]
  · congr 1
    refine List.ext_getElem (by simp [placesOf, hcl]) fun i q1 q2 => ?_
    have hi : i < cl.length := by simpa [placesOf] using q1
    have hb := hback i hi
    obtain ⟨p1, e1⟩ := List.getElem?_eq_some_iff.1 hb
    simp only [placesOf, List.getElem_map, List.getD_eq_getElem?_getD, List.getElem?_map, List.getElem?_eq_getElem p1, Option.map_some, Option.getD_some, List.getElem_range]
    rw [e1, idx_get htd (by omega)]
  · obtain ⟨s, hs, rfl⟩ := List.mem_map.1 hb
    exact List.idxOf_lt_length_of_mem ((hnm s).2 hs)

end Tab

/- Layer 15: the law TrackBack. -/
namespace Tab
open Go Go.Proofs
set_option maxRecDepth 10000
set_option linter.unusedVariables false
set_option linter.unusedSimpArgs false
set_option linter.unusedSectionVars false

theorem sl0 (l : List (List UInt8)) : aSs .any l = .sl .any (0 + l.length) (l.map .str) := by rw [Nat.zero_add]; rfl

end Tab

/- The document's Widen; the fixed answers. -/
namespace Tab
open Go Go.Proofs
set_option maxRecDepth 10000
set_option linter.unusedVariables false
set_option linter.unusedSimpArgs false
set_option linter.unusedSectionVars false

theorem r15_Widen (kn : SK) (d : Den) (names : List (List UInt8)) (hd : DenOk d) (hn : names.length * 16 ≤ 140737488351232) (hns : ∀ s ∈ names, s.length ≤ 140737488351232) :
    Pure Tryz.prog 19 [aDen d, aSs kn names] (.tup [aDen (widenR d names), .int .i64 (widenE d names)]) := by
  have h1 := hd.tracks
  have h2 := hd.accept
  have h3 := hd.next
  refine Pure.of_sw 41 Tryz.func19 rfl Tryz.ntmps19 (by kernel_rfl) (Nat.le_of_ble_eq_true (by kernel_rfl)) (by simp [closeds, AV.closed, aSs_closed, aIs_closed, aBs_closed, aRs_closed, aDen_closed]) (by simp [AV.closed, closeds, aSs_closed, aIs_closed, aBs_closed, aRs_closed, aDen_closed]) ?_; refine SW.of_vc ?_
  repeat first | refine opsStep ?_ | refine codeStep ?_ | refine drawStep ?_
  refine callP (r12_Right d hd) ?_
  repeat first | refine opsStep ?_ | refine codeStep ?_ | refine drawStep ?_
  refine decB_split (fun h => ?_) (fun h => ?_)
  · repeat first | refine opsStep ?_ | refine codeStep ?_ | refine drawStep ?_
    have hr : rightS d = false := by simpa using h
    exact finV (v' := .tup [aDen den0, .int .i64 3]) (by kernel_rfl) (by rw [widenR_bad (by rw [widenE_shape (.inl hr)]; decide), widenE_shape (.inl hr)])
  · have hr : rightS d = true := by simpa using h
    repeat first | refine opsStep ?_ | refine codeStep ?_ | refine drawStep ?_
    refine callP (r04_Rises kn names (by omega) (fun s hs => by have := hns s hs; omega)) ?_
    repeat first | refine opsStep ?_ | refine codeStep ?_ | refine drawStep ?_
    refine decB_split (fun h => ?_) (fun h => ?_)
    · repeat first | refine opsStep ?_ | refine codeStep ?_ | refine drawStep ?_
      have hs : risesS names = false := by simpa using h
      exact finV (v' := .tup [aDen den0, .int .i64 3]) (by kernel_rfl) (by rw [widenR_bad (by rw [widenE_shape (.inr hs)]; decide), widenE_shape (.inr hs)])
    · have hs : risesS names = true := by simpa using h
      repeat first | refine opsStep ?_ | refine codeStep ?_ | refine drawStep ?_
      refine decB_dec (fun hl => ?_) (fun hl => ?_)
      · repeat first | refine opsStep ?_ | refine codeStep ?_ | refine drawStep ?_
        exact finV (v' := .tup [aDen den0, .int .i64 150]) (by kernel_rfl) (by rw [widenR_bad (by rw [widenE_wide hr hs (by omega)]; decide), widenE_wide hr hs (by omega)])
      · have hl' : names.length ≤ 6 := by omega
        obtain ⟨ht, hnn, hrows⟩ := rightS_parts hr
        have hk := tracksS_le ht
        repeat first | refine opsStep ?_ | refine codeStep ?_ | refine drawStep ?_
        refine loopE_of (ι := {i : Nat // i ≤ d.tracks.length ∧ inAll (d.tracks.take i) names = true})
          (fun i => (fr [(1, aSs kn names), (2, .ref 0 0 0), (4, .ref 1 0 0), (6, .int .i64 i.1)], [.cells 0 d.cells, .cells 0 den0.cells]))
          (fun i => d.tracks.length - i.1) ⟨0, by omega, by simp [inAll]⟩ (Ent.fr' ⟨(by kernel_rfl), (by kernel_rfl), (by kernel_rfl), (by kernel_rfl), trivial⟩ (by kernel_rfl)) ?_
        rintro ⟨i, hi, hpre⟩
        repeat first | refine opsStep ?_ | refine codeStep ?_ | refine drawStep ?_
        refine decB_dec (fun h => ?_) (fun h => ?_)
        · have hia : i < d.tracks.length := by have := h; simp at this; omega
          repeat first | refine opsStep ?_ | refine codeStep ?_ | refine drawStep ?_
          refine guardE_of (by simp; omega) ?_
          repeat first | refine opsStep ?_ | refine codeStep ?_ | refine drawStep ?_
          refine optE_of (c := .str d.tracks[i]) (by simp [Value.cells, hia]) ?_
          repeat first | refine opsStep ?_ | refine codeStep ?_ | refine drawStep ?_
          refine callP (r04_Index kn names d.tracks[i] (by omega)) ?_
          repeat first | refine opsStep ?_ | refine codeStep ?_ | refine drawStep ?_
          refine decB_dec (fun hx => ?_) (fun hx => ?_)
          · have hne : inAll d.tracks names = false := by
              rw [← Bool.not_eq_true, inAll, List.all_eq_true]
              intro k
              have := k _ (List.getElem_mem hia)
              have hm : d.tracks[i] ∈ names := by simpa using this
              rw [idxS, if_pos (List.idxOf_lt_length_of_mem hm)] at hx
              omega
            repeat first | refine opsStep ?_ | refine codeStep ?_ | refine drawStep ?_
            exact finV (v' := .tup [aDen den0, .int .i64 4]) (by kernel_rfl) (by rw [widenR_bad (by rw [widenE_none hr hs hl' hne]; decide), widenE_none hr hs hl' hne])
          · have hm : d.tracks[i] ∈ names := by
              rw [idxS] at hx
              split at hx
              · rename_i e; exact List.idxOf_lt_length_iff.1 e
              · omega
            repeat first | refine opsStep ?_ | refine codeStep ?_ | refine drawStep ?_
            refine ⟨⟨i + 1, by omega, ?_⟩, (by show d.tracks.length - (i + 1) < d.tracks.length - i; omega), Ent.fr' ⟨(by kernel_rfl), (by kernel_rfl), (by kernel_rfl), inc_slot (i := i) (by omega), trivial⟩ (by kernel_rfl)⟩
            rw [inAll, List.take_succ_eq_append_getElem hia, List.all_append, ← inAll, hpre]
            simp [hm]
        · have : i = d.tracks.length := by have := h; simp at this; omega
          subst this
          rw [List.take_length] at hpre
          repeat first | refine opsStep ?_ | refine codeStep ?_ | refine drawStep ?_
          refine callP (r15_over kn d.tk d names d.tracks hd hl' hk (fun s hm => by have := List.all_eq_true.1 hpre s hm; simpa using this) (fun r hr => (rowOk_parts (hrows r hr)).1)) ?_
          repeat first | refine opsStep ?_ | refine codeStep ?_ | refine drawStep ?_
          exact finV (v' := .tup [aDen (widenD d names), .int .i64 0]) (by kernel_rfl) (by rw [widenR_ok (widenE_ok hr hs hl' hpre), widenE_ok hr hs hl' hpre])

end Tab
