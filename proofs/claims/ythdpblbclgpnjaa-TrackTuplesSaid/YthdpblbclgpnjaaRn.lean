/- Tracks called otherwise. -/
import Derived.Test.YthdpblbclgpnjaaSr
import Derived.Test.YthdpblbclgpnjaaLw
namespace Tab
open Go Go.Proofs
set_option maxRecDepth 10000
set_option linter.unusedVariables false
set_option linter.unusedSimpArgs false
set_option linter.unusedSectionVars false

def twS (l : List (List UInt8)) : Bool := (List.range l.length).any fun i => !(decide (l.idxOf (l.getD i []) = i))
def allIn (l ts : List (List UInt8)) : Bool := l.all fun s => decide (s ∈ ts)
def calN (tr fm tt : List (List UInt8)) : Nat → List (List UInt8)
  | 0 => tr
  | i + 1 => (calN tr fm tt i).set (tr.idxOf (fm.getD i [])) (tt.getD i [])
theorem calN_length (tr fm tt) : ∀ i, (calN tr fm tt i).length = tr.length
  | 0 => rfl
  | i + 1 => by rw [calN, List.length_set, calN_length tr fm tt i]
def calS (tr fm tt : List (List UInt8)) : List (List UInt8) := calN tr fm tt fm.length
@[irreducible] def renE (d : Den) (fm tt : List (List UInt8)) : Int :=
  if (rightS d && decide (fm.length = tt.length)) = true then (if nonN tt = false then (if allIn fm d.tracks = true then (if twS fm = false then sortE (calS d.tracks fm tt) else 5) else 4) else 6) else 3
def renD (d : Den) (fm tt : List (List UInt8)) : Den := ⟨.any, sortR (calS d.tracks fm tt), .any, d.accept, .any, (d.rows.map (ovRow (sortR (calS d.tracks fm tt)).length (placesOf (calS d.tracks fm tt) (sortR (calS d.tracks fm tt))))).map fun r => (.any, r)⟩
@[irreducible] def renR (d : Den) (fm tt : List (List UInt8)) : Den := if renE d fm tt = 0 then renD d fm tt else den0

theorem ren_shape {d fm tt} (h : rightS d = false ∨ fm.length ≠ tt.length) : renE d fm tt = 3 := by
  rw [renE, if_neg]; rcases h with h | h <;> simp [h]
theorem ren_name {d fm tt} (h1 : rightS d = true) (h2 : fm.length = tt.length) (h : nonN tt = true) : renE d fm tt = 6 := by
  rw [renE, h1, decide_eq_true h2, h]; rfl
theorem ren_none {d fm tt} (h1 : rightS d = true) (h2 : fm.length = tt.length) (h3 : nonN tt = false) (h : allIn fm d.tracks = false) : renE d fm tt = 4 := by
  rw [renE, h1, decide_eq_true h2, h3, h]; rfl
theorem ren_twice {d fm tt} (h1 : rightS d = true) (h2 : fm.length = tt.length) (h3 : nonN tt = false) (h4 : allIn fm d.tracks = true) (h : twS fm = true) : renE d fm tt = 5 := by
  rw [renE, h1, decide_eq_true h2, h3, h4, h]; rfl
theorem ren_sort {d fm tt} (h1 : rightS d = true) (h2 : fm.length = tt.length) (h3 : nonN tt = false) (h4 : allIn fm d.tracks = true) (h : twS fm = false) : renE d fm tt = sortE (calS d.tracks fm tt) := by
  rw [renE, h1, decide_eq_true h2, h3, h4, h]; rfl
theorem renR_bad {d fm tt} (h : renE d fm tt ≠ 0) : renR d fm tt = den0 := by rw [renR, if_neg h]
theorem renR_ok {d fm tt} (h : renE d fm tt = 0) : renR d fm tt = renD d fm tt := by rw [renR, if_pos h]

theorem idxS_lt {l : List (List UInt8)} {s : List UInt8} : idxS l s < 0 ↔ s ∉ l := by
  rw [idxS]
  split
  · rename_i h
    have := List.idxOf_lt_length_iff.1 h
    simp [this]
  · rename_i h
    simp only [List.idxOf_lt_length_iff] at h
    simp [h]
theorem idxS_mem {l : List (List UInt8)} {s : List UInt8} (h : s ∈ l) : idxS l s = (l.idxOf s : Nat) := by
  rw [idxS, if_pos (List.idxOf_lt_length_of_mem h)]

theorem track_over_pure (kn kp : SK) (d : Den) (names : List (List UInt8)) (pl : List Nat) (hd : DenOk d) (hn : names.length ≤ 6) (hp : pl.length ≤ 6) (hpl : ∀ p ∈ pl, p < 6) (hrow : ∀ r ∈ d.next, r.2.length = 2 ^ pl.length) :
    Pure Try.prog 25 [aDen d, aSs kn names, aIs kp (pl.map fun p : Nat => (p : Int))] (aDen ⟨.any, names, .any, d.accept, .any, (d.rows.map (ovRow names.length pl)).map fun r => (.any, r)⟩) := by
  refine Pure.of_read (by simp [closeds, aDen_closed, aSs_closed, aIs_closed]) (aDen_closed _) (track_over kn kp d names pl _ rfl hd hn hp hpl hrow) ?_
  rintro o H' ⟨rfl, x, rfl⟩
  have hl : (d.rows.map (ovRow names.length pl)).length = d.next.length := by simp [Den.rows]
  refine ⟨_, rfl, rd_den (base := 6) (n := 2 ^ names.length) rfl rfl ?_ (fun j r hj => ?_) rfl rfl hl.symm⟩
  · rw [hl]; rfl
  · have hj' := List.getElem?_eq_some_iff.1 hj
    refine ⟨?_, ?_⟩
    · rw [List.getElem?_append_right (by simp)]
      simp only [List.length_cons, List.length_nil, ovBlks, List.getElem?_map]
      rw [show 6 + j - (0 + 1 + 1 + 1 + 1 + 1 + 1) = j by omega]
      rw [List.getElem?_map] at hj
      rw [hj]; rfl
    · rw [List.getElem?_map, Option.map_eq_some_iff] at hj
      obtain ⟨y, _, rfl⟩ := hj
      exact ovRow_length _ _ _

theorem track_twice (k : SK) (l : List (List UInt8)) (hl : l.length < 2^60) : Pure Try.prog 22 [aSs k l] (.bool (twS l)) := by
  refine Pure.of_sw 18 Try.func22 rfl Try.ntmps22 (by kernel_rfl) (Nat.le_of_ble_eq_true (by kernel_rfl)) (by simp [closeds, AV.closed, aSs_closed, aIs_closed, aBs_closed, aRs_closed, aDen_closed]) (by simp [AV.closed, closeds, aSs_closed, aIs_closed, aBs_closed, aRs_closed, aDen_closed]) ?_; refine SW.of_vc ?_
  repeat first | refine opsStep ?_ | refine codeStep ?_ | refine drawStep ?_
  refine loopE_of (ι := {i : Nat // i ≤ l.length ∧ ∀ j, j < i → l.idxOf (l.getD j []) = j}) (fun i => (fr [(0, aSs k l), (5, aSs k l), (6, .int .i64 l.length), (7, .int .i64 i.1)], [])) (fun i => l.length - i.1) ⟨0, by omega, by simp⟩ (Ent.fr' ⟨(by kernel_rfl), (by kernel_rfl), (by kernel_rfl), (by kernel_rfl), trivial⟩ (by kernel_rfl)) ?_
  rintro ⟨i, hi, hpre⟩
  repeat first | refine opsStep ?_ | refine codeStep ?_ | refine drawStep ?_
  refine decB_dec (fun h => ?_) (fun h => ?_)
  · have hia : i < l.length := by have := h; simp at this; omega
    have gi : l.getD i [] = l[i] := by simp [List.getD_eq_getElem?_getD, hia]
    repeat first | refine opsStep ?_ | refine codeStep ?_ | refine drawStep ?_
    refine guardE_of (by simp; omega) ?_
    repeat first | refine opsStep ?_ | refine codeStep ?_ | refine drawStep ?_
    refine optE_of (c := .str l[i]) (by simp [Value.cells, hia]) ?_
    repeat first | refine opsStep ?_ | refine codeStep ?_ | refine drawStep ?_
    refine callP (glyph_Index k l l[i] (by omega)) ?_
    repeat first | refine opsStep ?_ | refine codeStep ?_ | refine drawStep ?_
    refine decB_dec (fun hx => ?_) (fun hx => ?_)
    · repeat first | refine opsStep ?_ | refine codeStep ?_ | refine drawStep ?_
      exact finB (b' := true) (by kernel_rfl) (by
        rw [eq_comm, twS, List.any_eq_true]
        refine ⟨i, List.mem_range.2 hia, ?_⟩
        rw [gi]
        rw [idxS_mem (List.getElem_mem hia)] at hx
        simp only [Bool.not_eq_true', decide_eq_false_iff_not]
        intro e
        rw [e] at hx
        exact hx rfl)
    · repeat first | refine opsStep ?_ | refine codeStep ?_ | refine drawStep ?_
      refine ⟨⟨i + 1, by omega, fun j hj => ?_⟩, (by show l.length - (i + 1) < l.length - i; omega), Ent.fr' ⟨(by kernel_rfl), (by kernel_rfl), (by kernel_rfl), inc_slot (i := i) (by omega), trivial⟩ (by kernel_rfl)⟩
      rcases Nat.lt_succ_iff_lt_or_eq.1 hj with hj | rfl
      · exact hpre j hj
      · have := Decidable.of_not_not hx
        rw [idxS_mem (List.getElem_mem hia)] at this
        rw [gi]
        exact Int.ofNat_inj.1 this
  · repeat first | refine opsStep ?_ | refine codeStep ?_ | refine drawStep ?_
    have : i = l.length := by have := h; simp at this; omega
    subst this
    exact finB (b' := false) (by kernel_rfl) (by
      rw [eq_comm, twS, List.any_eq_false]
      intro j hj
      rw [hpre j (List.mem_range.1 hj), decide_eq_true rfl]
      simp)

theorem rename1 (s : List UInt8) (hs : s.length < 2^62) : Pure Try.prog 19 [.str s] (.bool (!nameS s)) := by
  refine Pure.of_sw 6 Try.func19 rfl Try.ntmps19 (by kernel_rfl) (Nat.le_of_ble_eq_true (by kernel_rfl)) (by simp [closeds, AV.closed, aSs_closed, aIs_closed, aBs_closed, aRs_closed, aDen_closed]) (by simp [AV.closed, closeds, aSs_closed, aIs_closed, aBs_closed, aRs_closed, aDen_closed]) ?_; refine SW.of_vc ?_
  repeat first | refine opsStep ?_ | refine codeStep ?_ | refine drawStep ?_
  refine callP (glyph_Name s hs) ?_
  repeat first | refine opsStep ?_ | refine codeStep ?_ | refine drawStep ?_
  exact finB (b' := !nameS s) (by kernel_rfl) rfl

theorem rename2 (d : Den) (s : List UInt8) (Hs : List Blk) (hl : d.tracks.length < 2^60) : ACall Try.prog 21 [.str s, .ref 0 0 0] (.cells 0 d.cells :: Hs) fun o H' => o = .ret (.bool (decide (s ∉ d.tracks))) ∧ H' = .cells 0 d.cells :: Hs := by
  refine ACall.of_sw 9 Try.func21 rfl Try.ntmps21 (by kernel_rfl) (Nat.le_of_ble_eq_true (by kernel_rfl)) ?_; refine SW.of_vc ?_
  repeat first | refine opsStep ?_ | refine codeStep ?_ | refine drawStep ?_
  refine callP (glyph_Index d.tk d.tracks s (by omega)) ?_
  repeat first | refine opsStep ?_ | refine codeStep ?_ | refine drawStep ?_
  refine finR (l := [(3, .bool (decide (idxS d.tracks s < 0)))]) (v := .bool (decide (idxS d.tracks s < 0))) (H₁ := .cells 0 d.cells :: Hs) ⟨(by kernel_rfl), trivial⟩ (by kernel_rfl) (Ent.refl _ _ _) (by kernel_rfl) ?_
  exact ⟨by rw [decide_eq_decide.2 idxS_lt], rfl⟩

end Tab
