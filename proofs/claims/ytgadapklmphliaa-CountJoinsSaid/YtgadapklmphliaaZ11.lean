/- Lemmas for this claim: part 11. No condition. -/
import Derived.Test.YtgadapklmphliaaZ5
import Derived.Test.YtgadapklmphliaaZ9
import Derived.Test.YtgadapklmphliaaZ10
/- Lists put in order: the plain law. -/
namespace Tab
open Go Go.Proofs
set_option maxRecDepth 10000
set_option linter.unusedVariables false
set_option linter.unusedSimpArgs false
set_option linter.unusedSectionVars false

def putS (x : List UInt8) : List (List UInt8) → List (List UInt8)
  | [] => [x]
  | y :: l => if (less x y || x == y) = true then (if less x y = true then x :: y :: l else y :: l) else y :: putS x l
def togS (l : List (List UInt8)) : List (List UInt8) := l.foldl (fun acc x => putS x acc) []
def nonN (l : List (List UInt8)) : Bool := l.any fun s => !nameS s

theorem putS_mem {x y : List UInt8} : ∀ {l : List (List UInt8)}, y ∈ putS x l ↔ y = x ∨ y ∈ l
  | [] => by simp [putS]
  | z :: l => by
    rw [putS]
    split
    · rename_i h
      split
      · simp
      · rename_i h2
        have : x = z := by simpa [h2] using h
        subst this
        simp
    · simp only [List.mem_cons, putS_mem (l := l)]
      constructor
      · rintro (h | h | h)
        · exact .inr (.inl h)
        · exact .inl h
        · exact .inr (.inr h)
      · rintro (h | h | h)
        · exact .inr (.inl h)
        · exact .inl h
        · exact .inr (.inr h)
abbrev Strict (l : List (List UInt8)) : Prop := l.Pairwise fun a b => less a b = true
theorem putS_strict {x : List UInt8} : ∀ {l : List (List UInt8)}, Strict l → Strict (putS x l)
  | [], _ => by simp [putS, Strict]
  | z :: l, h => by
    obtain ⟨h1, h2⟩ := List.pairwise_cons.1 h
    rw [putS]
    split
    · split
      · rename_i h3
        refine List.pairwise_cons.2 ⟨fun a ha => ?_, h⟩
        rcases List.mem_cons.1 ha with rfl | ha
        · exact h3
        · exact less_trans h3 (h1 a ha)
      · exact h
    · rename_i h3
      refine List.pairwise_cons.2 ⟨fun a ha => ?_, putS_strict h2⟩
      rcases putS_mem.1 ha with rfl | ha
      · simp only [Bool.or_eq_true, beq_iff_eq, not_or, Bool.not_eq_true] at h3
        cases e : less z a with
        | true => rfl
        | false => exact absurd (less_total h3.1 e) h3.2
      · exact h1 a ha
theorem strict_not_mem {x z : List UInt8} {l : List (List UInt8)} (h : Strict (z :: l)) (hx : less x z = true) : x ∉ z :: l := by
  intro hm
  rcases List.mem_cons.1 hm with rfl | hm
  · rw [less_irrefl] at hx; simp at hx
  · have := (List.pairwise_cons.1 h).1 x hm
    have := less_trans hx this
    rw [less_irrefl] at this; simp at this
theorem putS_len {x : List UInt8} : ∀ {l : List (List UInt8)}, Strict l → (putS x l).length = l.length + if x ∈ l then 0 else 1
  | [], _ => by simp [putS]
  | z :: l, h => by
    obtain ⟨h1, h2⟩ := List.pairwise_cons.1 h
    rw [putS]
    split
    · rename_i h3
      split
      · rename_i h4
        rw [if_neg (strict_not_mem h h4)]; simp
      · rename_i h4
        have : x = z := by simpa [h4] using h3
        subst this
        simp
    · rename_i h3
      simp only [Bool.or_eq_true, beq_iff_eq, not_or, Bool.not_eq_true] at h3
      rw [List.length_cons, putS_len h2]
      have : (x ∈ z :: l) ↔ x ∈ l := by simp [h3.2]
      simp only [this, List.length_cons]
      omega

theorem fold_put : ∀ (l acc : List (List UInt8)), Strict acc → Strict (l.foldl (fun acc x => putS x acc) acc) ∧ (∀ y, y ∈ l.foldl (fun acc x => putS x acc) acc ↔ y ∈ l ∨ y ∈ acc) ∧
    (l.foldl (fun acc x => putS x acc) acc).length ≤ acc.length + l.length ∧ ((l.foldl (fun acc x => putS x acc) acc).length = acc.length + l.length ↔ l.Nodup ∧ ∀ x ∈ l, x ∉ acc)
  | [], acc, h => by simp [h]
  | x :: l, acc, h => by
    obtain ⟨h1, h2, h3, h4⟩ := fold_put l (putS x acc) (putS_strict h)
    have hl := putS_len (x := x) h
    refine ⟨h1, fun y => ?_, ?_, ?_⟩
    · simp only [List.foldl_cons, h2, putS_mem, List.mem_cons]
      constructor
      · rintro (h | h | h)
        · exact .inl (.inr h)
        · exact .inl (.inl h)
        · exact .inr h
      · rintro ((h | h) | h)
        · exact .inr (.inl h)
        · exact .inl h
        · exact .inr (.inr h)
    · simp only [List.foldl_cons, List.length_cons]
      split at hl <;> omega
    · simp only [List.foldl_cons, List.length_cons, List.nodup_cons, List.mem_cons, forall_eq_or_imp]
      by_cases hx : x ∈ acc
      · rw [if_pos hx] at hl
        refine ⟨fun h => by omega, fun h => absurd hx h.2.1⟩
      · rw [if_neg hx] at hl
        rw [show acc.length + (l.length + 1) = (putS x acc).length + l.length by omega, h4]
        constructor
        · rintro ⟨k1, k2⟩
          exact ⟨⟨fun hm => k2 x hm (putS_mem.2 (.inl rfl)), k1⟩, hx, fun y hy hya => k2 y hy (putS_mem.2 (.inr hya))⟩
        · rintro ⟨⟨k1, k2⟩, _, k3⟩
          refine ⟨k2, fun y hy hyp => ?_⟩
          rcases putS_mem.1 hyp with rfl | hyp
          · exact k1 hy
          · exact k3 y hy hyp
theorem tog_strict (l) : Strict (togS l) := (fold_put l [] List.Pairwise.nil).1
theorem tog_mem (l y) : y ∈ togS l ↔ y ∈ l := by have := (fold_put l [] List.Pairwise.nil).2.1 y; simpa [togS] using this
theorem tog_len (l) : (togS l).length ≤ l.length := by have := (fold_put l [] List.Pairwise.nil).2.2.1; simpa [togS] using this
theorem tog_len_iff (l) : (togS l).length = l.length ↔ l.Nodup := by have := (fold_put l [] List.Pairwise.nil).2.2.2; simpa [togS] using this

theorem strict_eq : ∀ {a b : List (List UInt8)}, Strict a → Strict b → (∀ x, x ∈ a ↔ x ∈ b) → a = b
  | [], [], _, _, _ => rfl
  | [], b :: _, _, _, h => by have := (h b).2 (by simp); simp at this
  | a :: _, [], _, _, h => by have := (h a).1 (by simp); simp at this
  | a :: l, b :: l', h1, h2, h => by
    obtain ⟨p1, q1⟩ := List.pairwise_cons.1 h1
    obtain ⟨p2, q2⟩ := List.pairwise_cons.1 h2
    have e : a = b := by
      rcases List.mem_cons.1 ((h a).1 (by simp)) with e | e
      · exact e
      · rcases List.mem_cons.1 ((h b).2 (by simp)) with e' | e'
        · exact e'.symm
        · have := less_trans (p1 b e') (p2 a e)
          rw [less_irrefl] at this; simp at this
    subst e
    have nm : ∀ {l : List (List UInt8)}, (∀ x ∈ l, less a x = true) → a ∉ l := fun hp hm => by have := hp a hm; rw [less_irrefl] at this; simp at this
    rw [strict_eq q1 q2 fun x => ?_]
    constructor
    · intro hx
      rcases List.mem_cons.1 ((h x).1 (List.mem_cons_of_mem _ hx)) with rfl | hx'
      · exact absurd hx (nm p1)
      · exact hx'
    · intro hx
      rcases List.mem_cons.1 ((h x).2 (List.mem_cons_of_mem _ hx)) with rfl | hx'
      · exact absurd hx (nm p2)
      · exact hx'

theorem rises_strict {r : List (List UInt8)} (h : risesS r = true) : Strict r := by
  have h0 := List.all_eq_true.1 h
  have adj : ∀ i, i + 1 < r.length → less (r.getD i []) (r.getD (i + 1) []) = true := fun i hi => by
    have := h0 (i + 1) (List.mem_range.2 hi)
    simp [badAt] at this
    exact this.2
  have key : ∀ d i, i + d + 1 < r.length → less (r.getD i []) (r.getD (i + d + 1) []) = true := by
    intro d
    induction d with
    | zero => intro i hi; exact adj i (by omega)
    | succ d ih => intro i hi; exact less_trans (ih i (by omega)) (adj (i + d + 1) (by omega))
  refine List.pairwise_iff_getElem.2 fun i j hi hj hij => ?_
  have := key (j - i - 1) i (by omega)
  rw [show i + (j - i - 1) + 1 = j by omega] at this
  simpa [List.getD_eq_getElem?_getD, hi, hj] using this
theorem strict_nodup {r : List (List UInt8)} (h : Strict r) : r.Nodup := by
  refine h.imp fun hl e => ?_
  subst e
  rw [less_irrefl] at hl; simp at hl

theorem sort_ok {l r : List (List UInt8)} (hp : r.Perm l) (h : risesS r = true) : l.Nodup ∧ togS l = r := by
  have hs := rises_strict h
  refine ⟨hp.nodup_iff.1 (strict_nodup hs), strict_eq (tog_strict l) hs fun x => ?_⟩
  rw [tog_mem, hp.mem_iff]
theorem sort_bad {l r : List (List UInt8)} (hp : r.Perm l) (hs : SrtTo r l.length) (h : risesS r = false) (hn : nonN l = false) : ¬ l.Nodup := by
  intro hd
  have hd := hp.nodup_iff.2 hd
  have hrl := hp.length_eq
  have : risesS r = true := rises_ok fun j hj => by
    have hnm : nameS (r.getD j []) = true := by
      have hm : r[j] ∈ l := hp.mem_iff.1 (List.getElem_mem hj)
      have := List.any_eq_false.1 hn _ hm
      simpa [List.getD_eq_getElem?_getD, hj] using this
    rw [badAt, hnm]
    simp only [Bool.not_true, Bool.false_or, Bool.and_eq_false_iff, decide_eq_false_iff_not, Bool.not_eq_false']
    by_cases h0 : 0 < j
    · refine .inr ?_
      have h1 := hs (j - 1) (by omega)
      rw [lt2, show j - 1 + 1 = j by omega] at h1
      cases e : Op.bytesLess (r.getD (j - 1) []) (r.getD j []) with
      | true => rfl
      | false =>
        have := less_total e h1
        simp only [List.getD_eq_getElem?_getD, List.getElem?_eq_getElem hj, List.getElem?_eq_getElem (show j - 1 < r.length by omega), Option.getD_some] at this
        exact absurd this (List.pairwise_iff_getElem.1 hd (j - 1) j (by omega) hj (by omega))
    · exact .inl h0
  rw [h] at this
  simp at this

@[irreducible] def sortE (l : List (List UInt8)) : Int := if nonN l = true then 6 else if (togS l).length = l.length then 0 else 5
@[irreducible] def sortR (l : List (List UInt8)) : List (List UInt8) := if nonN l = false ∧ (togS l).length = l.length then togS l else []

theorem sort_non {l} (h : nonN l = true) : sortE l = 6 ∧ sortR l = [] := by
  rw [sortE, sortR, if_pos h, if_neg (by simp [h])]; exact ⟨rfl, rfl⟩
theorem sort_dup {l} (h : nonN l = false) (h2 : ¬ (togS l).length = l.length) : sortE l = 5 ∧ sortR l = [] := by
  rw [sortE, sortR, if_neg (by simp [h]), if_neg h2, if_neg (by simp [h2])]; exact ⟨rfl, rfl⟩
theorem sort_fine {l} (h : nonN l = false) (h2 : (togS l).length = l.length) : sortE l = 0 ∧ sortR l = togS l := by
  rw [sortE, sortR, if_neg (by simp [h]), if_pos h2, if_pos ⟨h, h2⟩]; exact ⟨rfl, rfl⟩

theorem sort_zero {l} (h : sortE l = 0) : sortR l = togS l ∧ (togS l).length = l.length ∧ nonN l = false := by
  cases hn : nonN l with
  | true => rw [(sort_non hn).1] at h; omega
  | false =>
    by_cases h2 : (togS l).length = l.length
    · exact ⟨(sort_fine hn h2).2, h2, rfl⟩
    · rw [(sort_dup hn h2).1] at h; omega

end Tab

/- Lists put in order: the walks. -/
namespace Tab
open Go Go.Proofs
set_option maxRecDepth 10000
set_option linter.unusedVariables false
set_option linter.unusedSimpArgs false
set_option linter.unusedSectionVars false

end Tab

/- The document's names in order. -/
namespace Tab
open Go Go.Proofs
set_option maxRecDepth 10000
set_option linter.unusedVariables false
set_option linter.unusedSimpArgs false
set_option linter.unusedSectionVars false

/-- A round of 'put': what is there, and what is still to come. -/
def PutInv (x : List UInt8) (l : List (List UInt8)) (i : Nat) (dn : Bool) (out : List (List UInt8)) : Prop :=
  putS x l = out ++ (if dn = true then l.drop i else putS x (l.drop i)) ∧ out.length ≤ 2 * i

theorem putS_le (x : List UInt8) : ∀ (l : List (List UInt8)), (putS x l).length ≤ l.length + 1
  | [] => by simp [putS]
  | z :: l => by
    have := putS_le x l
    rw [putS]
    split
    · split <;> simp
    · simp; exact this

end Tab

/- The document's machine over more tracks. -/
namespace Tab
open Go Go.Proofs
set_option maxRecDepth 10000
set_option linter.unusedVariables false
set_option linter.unusedSimpArgs false
set_option linter.unusedSectionVars false

def dig (a p : Nat) : Int := ((a / 2 ^ p % 2 : Nat) : Int)
theorem digN_get : ∀ (n a p : Nat), p < n → (digN a n)[p]? = some (dig a p)
  | n + 1, a, 0, _ => by simp [digN, dig]
  | n + 1, a, p + 1, h => by
    rw [digN, List.getElem?_cons_succ, digN_get n (a / 2) p (by omega)]
    simp only [dig, Nat.pow_succ, Nat.div_div_eq_div_mul, Nat.mul_comm]
theorem letS_dig (a : Nat) : ∀ (pl : List Nat), letS (pl.map (dig a)) = (gatN a pl : Nat)
  | [] => rfl
  | p :: pl => by rw [List.map_cons, letS, letS_dig a pl, gatN, dig]; omega
theorem dig_bit (a p : Nat) : 0 ≤ dig a p ∧ dig a p ≤ 1 := by unfold dig; omega

end Tab

/- Layer 15: the fixed answers; the law TrackWidens. -/
namespace Tab
open Go Go.Proofs
set_option maxRecDepth 10000
set_option linter.unusedVariables false
set_option linter.unusedSimpArgs false
set_option linter.unusedSectionVars false

def evenD : Den := ⟨.any, [[120]], .any, [false, true, false], .any, [(.any, [1, 2]), (.any, [1, 1]), (.any, [2, 2])]⟩
def wideD : Den := ⟨.any, [[97], [120]], .any, [false, true, false], .any, [(.any, [1, 1, 2, 2]), (.any, [1, 1, 1, 1]), (.any, [2, 2, 2, 2])]⟩

theorem evenD_ok : DenOk evenD := ⟨by decide, by decide, by decide, by decide, by decide⟩
theorem wideD_ok : DenOk wideD := ⟨by decide, by decide, by decide, by decide, by decide⟩

theorem even_widens : widenE evenD [[97], [120]] = 0 := widenE_ok (by kernel_rfl) (by kernel_rfl) (by decide) (by kernel_rfl)
theorem even_wide : sameD (widenR evenD [[97], [120]]) wideD = true := by
  rw [widenR_ok even_widens, sameD_eq]
  kernel_rfl
theorem widenR_ok_den {d : Den} {names : List (List UInt8)} (hd : DenOk d) (hn : names.length * 16 ≤ 140737488351232) (hns : ∀ s ∈ names, s.length ≤ 140737488351232) : DenOk (widenR d names) := by
  rw [widenR]
  split
  · rename_i h
    obtain ⟨_, _, hl, _⟩ := widenE_of_ok h
    refine ⟨hn, hns, hd.accept, ?_, ?_⟩
    · have := hd.next
      simpa [widenD, Den.rows] using this
    · intro r hr
      simp only [widenD, List.mem_map] at hr
      obtain ⟨r, ⟨x, _, rfl⟩, rfl⟩ := hr
      simp only [ovRow_length]
      have : 2 ^ names.length ≤ 2 ^ 6 := Nat.pow_le_pow_right (by omega) hl
      omega
  · exact ⟨by decide, by simp [den0], by decide, by decide, by simp [den0]⟩

end Tab

/- Tracks called otherwise. -/
namespace Tab
open Go Go.Proofs
set_option maxRecDepth 10000
set_option linter.unusedVariables false
set_option linter.unusedSimpArgs false
set_option linter.unusedSectionVars false

def twS (l : List (List UInt8)) : Bool := (List.range l.length).any fun i => !(decide (l.idxOf (l.getD i []) = i))
def allIn (l ts : List (List UInt8)) : Bool := l.all fun s => decide (s ∈ ts)
def calN (tr fm tt : List (List UInt8)) : Nat → List (List UInt8)
  | 0 => tr
  | i + 1 => (calN tr fm tt i).set (tr.idxOf (fm.getD i [])) (tt.getD i [])
theorem calN_length (tr fm tt) : ∀ i, (calN tr fm tt i).length = tr.length
  | 0 => rfl
  | i + 1 => by rw [calN, List.length_set, calN_length tr fm tt i]
def calS (tr fm tt : List (List UInt8)) : List (List UInt8) := calN tr fm tt fm.length
@[irreducible] def renE (d : Den) (fm tt : List (List UInt8)) : Int :=
  if (rightS d && decide (fm.length = tt.length)) = true then (if nonN tt = false then (if allIn fm d.tracks = true then (if twS fm = false then sortE (calS d.tracks fm tt) else 5) else 4) else 6) else 3
def renD (d : Den) (fm tt : List (List UInt8)) : Den := ⟨.any, sortR (calS d.tracks fm tt), .any, d.accept, .any, (d.rows.map (ovRow (sortR (calS d.tracks fm tt)).length (placesOf (calS d.tracks fm tt) (sortR (calS d.tracks fm tt))))).map fun r => (.any, r)⟩
@[irreducible] def renR (d : Den) (fm tt : List (List UInt8)) : Den := if renE d fm tt = 0 then renD d fm tt else den0

theorem ren_shape {d fm tt} (h : rightS d = false ∨ fm.length ≠ tt.length) : renE d fm tt = 3 := by
  rw [renE, if_neg]; rcases h with h | h <;> simp [h]
theorem ren_name {d fm tt} (h1 : rightS d = true) (h2 : fm.length = tt.length) (h : nonN tt = true) : renE d fm tt = 6 := by
  rw [renE, h1, decide_eq_true h2, h]; rfl
theorem ren_none {d fm tt} (h1 : rightS d = true) (h2 : fm.length = tt.length) (h3 : nonN tt = false) (h : allIn fm d.tracks = false) : renE d fm tt = 4 := by
  rw [renE, h1, decide_eq_true h2, h3, h]; rfl
theorem ren_twice {d fm tt} (h1 : rightS d = true) (h2 : fm.length = tt.length) (h3 : nonN tt = false) (h4 : allIn fm d.tracks = true) (h : twS fm = true) : renE d fm tt = 5 := by
  rw [renE, h1, decide_eq_true h2, h3, h4, h]; rfl
theorem ren_sort {d fm tt} (h1 : rightS d = true) (h2 : fm.length = tt.length) (h3 : nonN tt = false) (h4 : allIn fm d.tracks = true) (h : twS fm = false) : renE d fm tt = sortE (calS d.tracks fm tt) := by
  rw [renE, h1, decide_eq_true h2, h3, h4, h]; rfl
theorem renR_bad {d fm tt} (h : renE d fm tt ≠ 0) : renR d fm tt = den0 := by rw [renR, if_neg h]
theorem renR_ok {d fm tt} (h : renE d fm tt = 0) : renR d fm tt = renD d fm tt := by rw [renR, if_pos h]

theorem idxS_lt {l : List (List UInt8)} {s : List UInt8} : idxS l s < 0 ↔ s ∉ l := by
  rw [idxS]
  split
  · rename_i h
    have := List.idxOf_lt_length_iff.1 h
    simp [this]
  · rename_i h
    simp only [List.idxOf_lt_length_iff] at h
    simp [h]
theorem idxS_mem {l : List (List UInt8)} {s : List UInt8} (h : s ∈ l) : idxS l s = (l.idxOf s : Nat) := by
  rw [idxS, if_pos (List.idxOf_lt_length_of_mem h)]

theorem track_over_pure (kn kp : SK) (d : Den) (names : List (List UInt8)) (pl : List Nat) (hd : DenOk d) (hn : names.length ≤ 6) (hp : pl.length ≤ 6) (hpl : ∀ p ∈ pl, p < 6) (hrow : ∀ r ∈ d.next, r.2.length = 2 ^ pl.length) :
    Pure Try.prog 105 [aDen d, aSs kn names, aIs kp (pl.map fun p : Nat => (p : Int))] (aDen ⟨.any, names, .any, d.accept, .any, (d.rows.map (ovRow names.length pl)).map fun r => (.any, r)⟩) := by
  refine Pure.of_read (by simp [closeds, aDen_closed, aSs_closed, aIs_closed]) (aDen_closed _) (track_over kn kp d names pl _ rfl hd hn hp hpl hrow) ?_
  rintro o H' ⟨rfl, x, rfl⟩
  have hl : (d.rows.map (ovRow names.length pl)).length = d.next.length := by simp [Den.rows]
  refine ⟨_, rfl, rd_den (base := 6) (n := 2 ^ names.length) rfl rfl ?_ (fun j r hj => ?_) rfl rfl hl.symm⟩
  · rw [hl]; rfl
  · have hj' := List.getElem?_eq_some_iff.1 hj
    refine ⟨?_, ?_⟩
    · rw [List.getElem?_append_right (by simp)]
      simp only [List.length_cons, List.length_nil, ovBlks, List.getElem?_map]
      rw [show 6 + j - (0 + 1 + 1 + 1 + 1 + 1 + 1) = j by omega]
      rw [List.getElem?_map] at hj
      rw [hj]; rfl
    · rw [List.getElem?_map, Option.map_eq_some_iff] at hj
      obtain ⟨y, _, rfl⟩ := hj
      exact ovRow_length _ _ _

end Tab

/- Rename, of the code. -/
namespace Tab
open Go Go.Proofs
set_option maxRecDepth 10000
set_option linter.unusedVariables false
set_option linter.unusedSimpArgs false
set_option linter.unusedSectionVars false

theorem calS_mem {tr fm tt : List (List UInt8)} (n : Nat) (hn : ∀ s ∈ tr, s.length ≤ 140737488351232) (ht : ∀ s ∈ tt, s.length ≤ 140737488351232) : ∀ i, ∀ s ∈ calN tr fm tt i, s.length ≤ 140737488351232
  | 0 => hn
  | i + 1 => fun s hs => by
    rw [calN] at hs
    rcases List.mem_or_eq_of_mem_set hs with h | h
    · exact calS_mem n hn ht i s h
    · subst h
      cases e : tt[i]? with
      | none => simp [List.getD_eq_getElem?_getD, e]
      | some x => simp only [List.getD_eq_getElem?_getD, e, Option.getD_some]; exact ht x (List.mem_of_getElem? e)

end Tab

/- Rename, of the document. -/
namespace Tab
open Go Go.Proofs
set_option maxRecDepth 10000
set_option linter.unusedVariables false
set_option linter.unusedSimpArgs false
set_option linter.unusedSectionVars false

theorem tw_bad {l : List (List UInt8)} {i : Nat} (hi : i < l.length) (h : l.idxOf l[i] ≠ i) : twS l = true := by
  rw [twS, List.any_eq_true]
  refine ⟨i, List.mem_range.2 hi, ?_⟩
  simp [List.getD_eq_getElem?_getD, hi, h]
theorem tw_ok {l : List (List UInt8)} (h : ∀ j, j < l.length → l.idxOf (l.getD j []) = j) : twS l = false := by
  rw [twS, List.any_eq_false]
  intro j hj
  rw [h j (List.mem_range.1 hj), decide_eq_true rfl]
  simp

end Tab

/- A machine's copy. -/
namespace Tab
open Go Go.Proofs
set_option maxRecDepth 10000
set_option linter.unusedVariables false
set_option linter.unusedSimpArgs false
set_option linter.unusedSectionVars false

theorem copyD_rows (d : Den) : (copyD d).rows = d.rows := by simp [copyD, Den.rows, Function.comp_def]
theorem copyD_ok {d : Den} (hd : DenOk d) : DenOk (copyD d) := by
  refine ⟨hd.tracks, hd.names, hd.accept, ?_, ?_⟩
  · have := hd.next
    simpa [copyD, Den.rows] using this
  · intro r hr
    simp only [copyD, Den.rows, List.mem_map] at hr
    obtain ⟨x, ⟨y, hy, rfl⟩, rfl⟩ := hr
    exact hd.rows y hy
theorem copyD_right (d : Den) : rightS (copyD d) = rightS d := by
  simp only [rightS, copyD, Den.rows, List.length_map, List.all_map, Function.comp_def]
theorem copyD_same (d : Den) : sameD (copyD d) d = true := by
  rw [sameD_eq, copyD_rows]; simp [copyD]
theorem sameD_refl (d : Den) : sameD d d = true := by rw [sameD_eq]; simp

theorem den0_ok : DenOk den0 := ⟨by decide, by simp [den0], by decide, by decide, by simp [den0]⟩


end Tab

/- Layer 15: the law TrackRenames. -/
namespace Tab
open Go Go.Proofs
set_option maxRecDepth 10000
set_option linter.unusedVariables false
set_option linter.unusedSimpArgs false
set_option linter.unusedSectionVars false

theorem copyD_renE (d : Den) (fm tt) : renE (copyD d) fm tt = renE d fm tt := by
  rw [renE, renE, copyD_right]; rfl
theorem copyD_renR (d : Den) (fm tt) : renR (copyD d) fm tt = renR d fm tt := by
  rw [renR, renR, copyD_renE, renD, renD, copyD_rows]; rfl
theorem renR_den {d : Den} {fm tt : List (List UInt8)} (hd : DenOk d) (hts : ∀ s ∈ tt, s.length ≤ 140737488351232) : DenOk (renR d fm tt) := by
  rw [renR]
  split
  · rename_i h
    have h0 : rightS d = true := by
      cases e : rightS d with
      | true => rfl
      | false => rw [ren_shape (.inl e)] at h; omega
    have hk := tracksS_le (rightS_parts h0).1
    have hcl : (calS d.tracks fm tt).length = d.tracks.length := calN_length ..
    have hsl : (sortR (calS d.tracks fm tt)).length ≤ 6 := by
      rw [sortR]
      split
      · have := tog_len (calS d.tracks fm tt); omega
      · simp
    refine ⟨by show (sortR _).length * 16 ≤ _; omega, fun s hs => ?_, hd.accept, ?_, ?_⟩
    · have hs : s ∈ sortR (calS d.tracks fm tt) := hs
      rw [sortR] at hs
      split at hs
      · exact calS_mem 0 hd.names hts _ s ((tog_mem _ _).1 hs)
      · simp at hs
    · have := hd.next
      simpa [renD, Den.rows] using this
    · intro r hr
      simp only [renD, List.mem_map] at hr
      obtain ⟨r, ⟨x, _, rfl⟩, rfl⟩ := hr
      simp only [ovRow_length]
      have : 2 ^ (sortR (calS d.tracks fm tt)).length ≤ 2 ^ 6 := Nat.pow_le_pow_right (by omega) hsl
      omega
  · exact den0_ok

end Tab

/- Renamed and back, widened twice: the plain law. -/
namespace Tab
open Go Go.Proofs
set_option maxRecDepth 10000
set_option linter.unusedVariables false
set_option linter.unusedSimpArgs false
set_option linter.unusedSectionVars false

theorem gat_bit (a : Nat) : ∀ (l : List Nat) (i : Nat) (h : i < l.length), gatN a l / 2 ^ i % 2 = a / 2 ^ l[i] % 2
  | p :: l, 0, _ => by simp only [gatN, Nat.pow_zero, Nat.div_one, List.getElem_cons_zero]; omega
  | p :: l, i + 1, h => by
    have ih := gat_bit a l i (by simpa using h)
    simp only [gatN, List.getElem_cons_succ]
    rw [Nat.pow_succ, Nat.mul_comm (2 ^ i) 2, ← Nat.div_div_eq_div_mul, show (a / 2 ^ p % 2 + 2 * gatN a l) / 2 = gatN a l by omega]
    exact ih
theorem gat_comp (a : Nat) (A : List Nat) : ∀ (B : List Nat), (∀ b ∈ B, b < A.length) → gatN (gatN a A) B = gatN a (B.map fun b => A.getD b 0)
  | [], _ => rfl
  | b :: B, h => by
    have hb := h b (by simp)
    rw [List.map_cons, gatN, gatN, gat_comp a A B fun x hx => h x (by simp [hx]), gat_bit a A b hb]
    simp [List.getD_eq_getElem?_getD, hb]
theorem gat_from (a : Nat) : ∀ (n k : Nat), gatN a (List.range' k n) = a / 2 ^ k % 2 ^ n
  | 0, k => by simp [gatN, Nat.mod_one]
  | n + 1, k => by
    rw [List.range'_succ, gatN, gat_from a n (k + 1), Nat.pow_succ 2 k, ← Nat.div_div_eq_div_mul, show 2 ^ (n + 1) = 2 * 2 ^ n by rw [Nat.pow_succ, Nat.mul_comm], Nat.mod_mul]
theorem gat_range {a n : Nat} (h : a < 2 ^ n) : gatN a (List.range n) = a := by
  rw [List.range_eq_range', gat_from, Nat.pow_zero, Nat.div_one, Nat.mod_eq_of_lt h]

theorem ovRow_comp (n k : Nat) (A B : List Nat) (r : List Int) (hA : A.length = k) (hB : ∀ b ∈ B, b < k) : ovRow n A (ovRow k B r) = ovRow n (B.map fun b => A.getD b 0) r := by
  rw [ovRow, ovRow]
  refine List.map_congr_left fun a _ => ?_
  have h := gatN_lt a A
  rw [hA] at h
  rw [← gat_comp a A B (by rw [hA]; exact hB)]
  simp [ovRow, List.getD_eq_getElem?_getD, h]
theorem ovRow_id {n : Nat} {r : List Int} (h : r.length = 2 ^ n) : ovRow n (List.range n) r = r := by
  refine List.ext_getElem (by simp [ovRow, h]) fun i h1 h2 => ?_
  simp only [ovRow, List.getElem_map, List.getElem_range]
  rw [gat_range (by omega)]
  simp [List.getD_eq_getElem?_getD, h2]

theorem rises_names {r : List (List UInt8)} (h : risesS r = true) : ∀ s ∈ r, nameS s = true := by
  intro s hs
  obtain ⟨i, hi, rfl⟩ := List.getElem_of_mem hs
  have := List.all_eq_true.1 h i (List.mem_range.2 hi)
  simp only [badAt, Bool.not_eq_true', Bool.or_eq_false_iff, Bool.not_eq_false'] at this
  simpa [List.getD_eq_getElem?_getD, hi] using this.1
theorem strict_rises {r : List (List UInt8)} (hs : Strict r) (hn : ∀ s ∈ r, nameS s = true) : risesS r = true := by
  refine rises_ok fun j hj => ?_
  have e : r.getD j [] = r[j] := by simp [List.getD_eq_getElem?_getD, hj]
  rw [badAt, e, hn _ (List.getElem_mem hj)]
  by_cases h0 : 0 < j
  · have := List.pairwise_iff_getElem.1 hs (j - 1) j (by omega) hj (by omega)
    have e2 : r.getD (j - 1) [] = r[j - 1] := by simp [List.getD_eq_getElem?_getD, show j - 1 < r.length by omega]
    rw [e2, show Op.bytesLess r[j - 1] r[j] = true from this]
    simp
  · simp [h0]

theorem idx_get {l : List (List UInt8)} (h : l.Nodup) {i : Nat} (hi : i < l.length) : l.idxOf l[i] = i := by
  have hm := List.idxOf_lt_length_of_mem (List.getElem_mem hi)
  have e := List.getElem_idxOf hm
  rcases Nat.lt_trichotomy (l.idxOf l[i]) i with h1 | h1 | h1
  · exact absurd e (List.pairwise_iff_getElem.1 h _ _ hm hi h1)
  · exact h1
  · exact absurd e.symm (List.pairwise_iff_getElem.1 h _ _ hi hm h1)
theorem places_self {l : List (List UInt8)} (h : l.Nodup) : placesOf l l = List.range l.length := by
  refine List.ext_getElem (by simp [placesOf]) fun i h1 h2 => ?_
  simp only [placesOf, List.getElem_map, List.getElem_range]
  exact idx_get h (by simpa [placesOf] using h1)
theorem tw_nodup {l : List (List UInt8)} (h : l.Nodup) : twS l = false := tw_ok fun j hj => by
  rw [show l.getD j [] = l[j] by simp [List.getD_eq_getElem?_getD, hj]]
  exact idx_get h hj
theorem tw_false {l : List (List UInt8)} (h : twS l = false) : l.Nodup := by
  have h0 := List.any_eq_false.1 h
  refine List.pairwise_iff_getElem.2 fun i j hi hj hij e => ?_
  have k1 := h0 i (List.mem_range.2 hi)
  have k2 := h0 j (List.mem_range.2 hj)
  rw [show l.getD i [] = l[i] by simp [List.getD_eq_getElem?_getD, hi]] at k1
  rw [show l.getD j [] = l[j] by simp [List.getD_eq_getElem?_getD, hj]] at k2
  have k1 : l.idxOf l[i] = i := by simpa using k1
  have k2 : l.idxOf l[j] = j := by simpa using k2
  rw [e] at k1
  omega

end Tab

/- Renamed and back, widened twice: the machines. -/
namespace Tab
open Go Go.Proofs
set_option maxRecDepth 10000
set_option linter.unusedVariables false
set_option linter.unusedSimpArgs false
set_option linter.unusedSectionVars false

def ovD (d : Den) (names : List (List UInt8)) (P : List Nat) : Den := ⟨.any, names, .any, d.accept, .any, (d.rows.map (ovRow names.length P)).map fun r => (.any, r)⟩
theorem ovD_rows (d names P) : (ovD d names P).rows = d.rows.map (ovRow names.length P) := by simp [ovD, Den.rows, Function.comp_def]
theorem widenD_ov (d names) : widenD d names = ovD d names (placesOf d.tracks names) := rfl
theorem renD_ov (d fm tt) : renD d fm tt = ovD d (sortR (calS d.tracks fm tt)) (placesOf (calS d.tracks fm tt) (sortR (calS d.tracks fm tt))) := rfl
theorem ovD_right {d : Den} {names : List (List UInt8)} {P : List Nat} (h : rightS d = true) (h1 : names.length ≤ 6) (h2 : risesS names = true) (hP : P.length = d.tracks.length) : rightS (ovD d names P) = true := by
  obtain ⟨k1, k2, k3⟩ := rightS_parts h
  obtain ⟨_, _, k4, k5⟩ := tracksS_parts k1
  rw [rightS, show (ovD d names P).tracks = names from rfl, show (ovD d names P).accept = d.accept from rfl, tracksS_mk h1 h2 k4 k5]
  have e : (ovD d names P).next.length = d.accept.length := by simp [ovD, Den.rows, k2]
  rw [decide_eq_true e, Bool.true_and, Bool.true_and, List.all_eq_true]
  intro r hr
  simp only [ovD, Den.rows, List.mem_map] at hr
  obtain ⟨_, ⟨_, ⟨x, hx, rfl⟩, rfl⟩, rfl⟩ := hr
  obtain ⟨l1, l2⟩ := rowOk_parts (k3 x hx)
  rw [rowOk, decide_eq_true (ovRow_length _ _ _), Bool.true_and, List.all_eq_true]
  intro y hy
  simp only [ovRow, List.mem_map, List.mem_range] at hy
  obtain ⟨a, _, rfl⟩ := hy
  have hg := gatN_lt a P
  rw [hP, ← l1] at hg
  have := l2 _ (List.getElem_mem hg)
  simp [List.getD_eq_getElem?_getD, hg]
  exact this
theorem ovD_same {d e : Den} {names : List (List UInt8)} {P : List Nat} (h1 : names = e.tracks) (h2 : d.accept = e.accept) (h3 : d.rows.map (ovRow names.length P) = e.rows) : sameD (ovD d names P) e = true := by
  rw [sameD_eq, ovD_rows, h3]
  simp [ovD, h1, h2]
theorem rows_id {d : Den} (h : rightS d = true) : d.rows.map (ovRow d.tracks.length (List.range d.tracks.length)) = d.rows := by
  have : ∀ r ∈ d.rows, ovRow d.tracks.length (List.range d.tracks.length) r = r := fun r hr => ovRow_id (rows_len h r hr)
  rw [List.map_congr_left this, List.map_id']

theorem strict_tog {l : List (List UInt8)} (h : Strict l) : togS l = l := strict_eq (tog_strict l) h fun x => tog_mem l x
theorem inAll_iff {a b : List (List UInt8)} : inAll a b = true ↔ ∀ s ∈ a, s ∈ b := by simp [inAll]
theorem allIn_iff {a b : List (List UInt8)} : allIn a b = true ↔ ∀ s ∈ a, s ∈ b := by simp [allIn]
theorem nonN_iff {a : List (List UInt8)} : nonN a = false ↔ ∀ s ∈ a, nameS s = true := by simp [nonN]

theorem widen_self {d : Den} (h : rightS d = true) : widenE d d.tracks = 0 ∧ sameD (widenR d d.tracks) d = true := by
  obtain ⟨k1, _, _⟩ := rightS_parts h
  obtain ⟨k2, k3, _, _⟩ := tracksS_parts k1
  have h0 := widenE_ok h k3 k2 (inAll_iff.2 fun s hs => hs)
  refine ⟨h0, ?_⟩
  rw [widenR_ok h0, widenD_ov, places_self (strict_nodup (rises_strict k3))]
  exact ovD_same rfl rfl (rows_id h)

theorem calN_self {tr : List (List UInt8)} (h : tr.Nodup) : ∀ i, i ≤ tr.length → calN tr tr tr i = tr
  | 0, _ => rfl
  | i + 1, hi => by
    have e : tr.getD i [] = tr[i] := by simp [List.getD_eq_getElem?_getD, show i < tr.length by omega]
    rw [calN, calN_self h i (by omega), e, idx_get h]
    simp
theorem ren_self {d : Den} (h : rightS d = true) : renE d d.tracks d.tracks = 0 ∧ sameD (renR d d.tracks d.tracks) d = true := by
  obtain ⟨k1, _, _⟩ := rightS_parts h
  obtain ⟨k2, k3, _, _⟩ := tracksS_parts k1
  have hs := rises_strict k3
  have hnd := strict_nodup hs
  have hn := nonN_iff.2 (rises_names k3)
  have hc : calS d.tracks d.tracks d.tracks = d.tracks := calN_self hnd _ (Nat.le_refl _)
  have ht := strict_tog hs
  obtain ⟨s1, s2⟩ := sort_fine hn (by rw [ht])
  have h0 : renE d d.tracks d.tracks = 0 := by
    rw [ren_sort h rfl hn (allIn_iff.2 fun s hs => hs) (tw_nodup hnd), hc]
    exact s1
  refine ⟨h0, ?_⟩
  rw [renR_ok h0, renD_ov, hc, s2, ht, places_self hnd]
  exact ovD_same rfl rfl (rows_id h)

theorem widen_twice {d : Den} {more all : List (List UInt8)} (h1 : widenE d more = 0) (h2 : widenE (widenR d more) all = 0) : widenE d all = 0 ∧ sameD (widenR d all) (widenR (widenR d more) all) = true := by
  obtain ⟨hr, r1, l1, i1⟩ := widenE_of_ok h1
  obtain ⟨_, r2, l2, i2⟩ := widenE_of_ok h2
  have hk := tracksS_parts (rightS_parts hr).1
  have i1 := inAll_iff.1 i1
  have i2 := inAll_iff.1 i2
  have htm : (widenR d more).tracks = more := by rw [widenR_ok h1]; rfl
  rw [htm] at i2
  have h0 := widenE_ok hr r2 l2 (inAll_iff.2 fun s hs => i2 s (i1 s hs))
  refine ⟨h0, ?_⟩
  rw [widenR_ok h0, widenR_ok h2, widenD_ov, widenD_ov, htm]
  refine ovD_same rfl ?_ ?_
  · rw [widenR_ok h1]; rfl
  · rw [ovD_rows, widenR_ok h1, widenD_ov, ovD_rows, List.map_map]
    refine List.map_congr_left fun r _ => ?_
    rw [Function.comp_apply, ovRow_comp _ _ _ _ _ (by simp [placesOf]) (fun b hb => ?_)]
    · congr 1
      refine List.ext_getElem (by simp [placesOf]) fun i q1 q2 => ?_
      have hi : i < d.tracks.length := by simpa [placesOf] using q1
      have hm := List.idxOf_lt_length_of_mem (i1 _ (List.getElem_mem hi))
      simp only [placesOf, List.getElem_map, List.getD_eq_getElem?_getD, List.getElem?_map, List.getElem?_eq_getElem hm, Option.map_some, Option.getD_some]
      rw [List.getElem_idxOf hm]
    · obtain ⟨s, hs, rfl⟩ := List.mem_map.1 hb
      exact List.idxOf_lt_length_of_mem (i1 s hs)

end Tab

/- Places in a list of numbers. -/
namespace Tab
open Go Go.Proofs
set_option maxRecDepth 10000
set_option linter.unusedVariables false
set_option linter.unusedSimpArgs false
set_option linter.unusedSectionVars false

def idxI (l : List Int) (s : Int) : Int := if l.idxOf s < l.length then (l.idxOf s : Int) else -1
theorem idxI_hit {l : List Int} {s : Int} {i : Nat} (hi : i < l.length) (hn : s ∉ l.take i) (h : l[i] = s) : idxI l s = i := by
  have e : l = l.take i ++ l[i] :: l.drop (i + 1) := by simp
  have : l.idxOf s = i := by
    rw [e, List.idxOf_append, if_neg hn, h, List.idxOf_cons_self]
    simp; omega
  rw [idxI, this, if_pos hi]
theorem idxI_miss {l : List Int} {s : Int} (h : s ∉ l) : idxI l s = -1 := by
  rw [idxI, List.idxOf_eq_length h, if_neg (by omega)]

theorem slices_Index_I (k : SK) (l : List Int) (s : Int) (hl : l.length < 2^62) : Pure Try.prog 114 [aIs k l, .int .i64 s] (.int .i64 (idxI l s)) := by
  refine Pure.of_sw 19 Try.func114 rfl Try.ntmps114 (by kernel_rfl) (Nat.le_of_ble_eq_true (by kernel_rfl)) (by simp [closeds, AV.closed, aSs_closed, aIs_closed, aBs_closed, aRs_closed, aDen_closed]) (by simp [AV.closed, closeds, aSs_closed, aIs_closed, aBs_closed, aRs_closed, aDen_closed]) ?_; refine SW.of_vc ?_
  repeat first | refine opsStep ?_ | refine codeStep ?_ | refine drawStep ?_
  refine loopE_of (ι := {i : Nat // i ≤ l.length ∧ s ∉ l.take i}) (fun i => (fr [(0, aIs k l), (1, .int .i64 s), (7, .int .i64 l.length), (8, .int .i64 i.1)], [])) (fun i => l.length - i.1) ⟨0, by omega, by simp⟩ (Ent.fr' ⟨(by kernel_rfl), (by kernel_rfl), (by kernel_rfl), (by kernel_rfl), trivial⟩ (by kernel_rfl)) ?_
  rintro ⟨i, hi, hpre⟩
  repeat first | refine opsStep ?_ | refine codeStep ?_ | refine drawStep ?_
  refine decB_dec (fun h => ?_) (fun h => ?_)
  · have hia : i < l.length := by simpa using h
    repeat first | refine opsStep ?_ | refine codeStep ?_ | refine drawStep ?_
    refine guardE_of (by simp; omega) ?_
    repeat first | refine opsStep ?_ | refine codeStep ?_ | refine drawStep ?_
    refine optE_of (c := .int .i64 l[i]) (by simp [Value.cells, hia]) ?_
    repeat first | refine opsStep ?_ | refine codeStep ?_ | refine drawStep ?_
    refine decB_dec (fun h => ?_) (fun h => ?_)
    · repeat first | refine opsStep ?_ | refine codeStep ?_ | refine drawStep ?_
      exact finV (v' := .int .i64 i) (by kernel_rfl) (by rw [idxI_hit hia hpre h.symm])
    · repeat first | refine opsStep ?_ | refine codeStep ?_ | refine drawStep ?_
      refine ⟨⟨i + 1, by omega, ?_⟩, (by show l.length - (i + 1) < l.length - i; omega), Ent.fr' ⟨(by kernel_rfl), (by kernel_rfl), (by kernel_rfl), inc_slot (i := i) (by omega), trivial⟩ (by kernel_rfl)⟩
      rw [List.take_succ_eq_append_getElem hia]
      exact fun e => (List.mem_append.1 e).elim hpre (fun e => h (List.mem_singleton.1 e))
  · repeat first | refine opsStep ?_ | refine codeStep ?_ | refine drawStep ?_
    have : i = l.length := by simp at h; omega
    exact finV (v' := .int .i64 (-1)) (by kernel_rfl) (by subst this; rw [List.take_length] at hpre; rw [idxI_miss hpre])

end Tab

/- A machine's copy, widened. -/
namespace Tab
open Go Go.Proofs
set_option maxRecDepth 10000
set_option linter.unusedVariables false
set_option linter.unusedSimpArgs false
set_option linter.unusedSectionVars false

theorem copyD_widenE (d : Den) (names) : widenE (copyD d) names = widenE d names := by
  rw [widenE, widenE, copyD_right]; rfl
theorem copyD_widenD (d : Den) (names) : widenD (copyD d) names = widenD d names := by
  rw [widenD, widenD, copyD_rows]; rfl
theorem copyD_widenR (d : Den) (names) : widenR (copyD d) names = widenR d names := by
  rw [widenR, widenR, copyD_widenE, copyD_widenD]

end Tab

/- slices.Compact, glyph.Union. -/
namespace Tab
open Go Go.Proofs
set_option maxRecDepth 10000
set_option linter.unusedVariables false
set_option linter.unusedSimpArgs false
set_option linter.unusedSectionVars false

/-- Does the place i begin a run of equal ones? -/
def newAt (l : List (List UInt8)) (i : Nat) : Bool := decide (i = 0) || decide (l.getD i [] ≠ l.getD (i - 1) [])
def keepN (l : List (List UInt8)) (j : Nat) : List (List UInt8) := ((List.range j).filter (newAt l)).map fun i => l.getD i []
theorem keep_new {l j} (h : newAt l j = true) : keepN l (j + 1) = keepN l j ++ [l.getD j []] := by
  rw [keepN, List.range_succ, List.filter_append, List.map_append]; simp [h, keepN]
theorem keep_old {l j} (h : newAt l j = false) : keepN l (j + 1) = keepN l j := by
  rw [keepN, List.range_succ, List.filter_append, List.map_append]; simp [h, keepN]
theorem keep_le (l j) : (keepN l j).length ≤ j := by
  rw [keepN, List.length_map]; have := List.length_filter_le (newAt l) (List.range j); simpa using this
theorem keep_take {l : List (List UInt8)} : ∀ {j : Nat}, j ≤ l.length → (∀ i, i < j → newAt l i = true) → keepN l j = l.take j
  | 0, _, _ => by simp [keepN]
  | j + 1, hj, h => by
    rw [keep_new (h j (by omega)), keep_take (by omega) fun i hi => h i (by omega), List.take_succ_eq_append_getElem (by omega)]
    simp [List.getD_eq_getElem?_getD, show j < l.length by omega]
theorem keep_mem {l : List (List UInt8)} {x : List UInt8} : ∀ {j : Nat}, j ≤ l.length → (x ∈ keepN l j ↔ x ∈ l.take j)
  | 0, _ => by simp [keepN]
  | j + 1, hj => by
    have ih := keep_mem (l := l) (x := x) (j := j) (by omega)
    have hg : l.getD j [] = l[j] := by simp [List.getD_eq_getElem?_getD, show j < l.length by omega]
    rw [List.take_succ_eq_append_getElem (show j < l.length by omega), List.mem_append, List.mem_singleton]
    cases h : newAt l j with
    | true => rw [keep_new h, List.mem_append, List.mem_singleton, ih, hg]
    | false =>
      rw [keep_old h, ih]
      simp only [newAt, Bool.or_eq_false_iff, decide_eq_false_iff_not, Decidable.not_not] at h
      constructor
      · exact .inl
      · rintro (h1 | h1)
        · exact h1
        · rw [h1, ← hg, h.2]
          have : j - 1 < l.length := by omega
          have e : l.getD (j - 1) [] = (l.take j)[j - 1]'(by simp; omega) := by simp [List.getD_eq_getElem?_getD, this]
          rw [e]; exact List.getElem_mem _

theorem new_lt1 (l) {i : Nat} (h : i < 1) : newAt l i = true := by
  have : i = 0 := by omega
  subst this; rfl

theorem slices_Compact (l : List (List UInt8)) (hl : l.length < 2^40) : ACall Try.prog 66 [.hs 0 0 0 l.length 1] [.cells 0 (l.map .str)]
    fun o H' => o = .ret (.hs 0 0 0 (keepN l l.length).length 1) ∧ H' = [.cells 0 ((keepN l l.length ++ List.replicate (l.length - (keepN l l.length).length) []).map .str)] := by
  have hfull : (∀ i, i < l.length → newAt l i = true) → keepN l l.length = l := fun h => by rw [keep_take (Nat.le_refl _) h, List.take_length]
  refine ACall.of_sw 61 Try.func66 rfl Try.ntmps66 (by kernel_rfl) (Nat.le_of_ble_eq_true (by kernel_rfl)) ?_; refine SW.of_vc ?_
  repeat first | refine opsStep ?_ | refine codeStep ?_ | refine drawStep ?_
  refine decB_dec (fun h => ?_) (fun h => ?_)
  · have hk := hfull fun i hi => by
      have : i = 0 := by omega
      subst this; rfl
    repeat first | refine opsStep ?_ | refine codeStep ?_ | refine drawStep ?_
    refine finR (l := [(2, .hs 0 0 0 l.length 1)]) (H₁ := [Blk.cells 0 ((l).map .str)]) (v := .hs 0 0 0 l.length 1) ⟨(by kernel_rfl), trivial⟩ (by kernel_rfl) (Ent.refl _ _ _) (by kernel_rfl) ?_
    rw [hk]; simp
  repeat first | refine opsStep ?_ | refine codeStep ?_ | refine drawStep ?_
  refine loopE_of (ι := {k : Nat // 1 ≤ k ∧ k ≤ l.length ∧ ∀ i, i < k → newAt l i = true}) (fun k => (fr [(0, .hs 0 0 0 l.length 1), (3, .int .i64 k.1)], [Blk.cells 0 ((l).map .str)])) (fun k => l.length - k.1)
    ⟨1, by omega, by omega, fun i hi => new_lt1 l hi⟩ (Ent.fr' ⟨(by kernel_rfl), (by kernel_rfl), trivial⟩ (by kernel_rfl)) ?_
  rintro ⟨k, hk1, hkl, hpre⟩
  repeat first | refine opsStep ?_ | refine codeStep ?_ | refine drawStep ?_
  refine decB_dec (fun hkn => ?_) (fun hkn => ?_)
  · have hkn : k < l.length := by have := hkn; simp at this; omega
    have hw : IntKind.wrap .i64 ((k : Int) - 1) = k - 1 := IntWalk.i64_in _ (by omega)
    have g0 : l.getD k [] = l[k] := by simp [List.getD_eq_getElem?_getD, hkn]
    have g1 : l.getD (k - 1) [] = l[k - 1] := by simp [List.getD_eq_getElem?_getD, show k - 1 < l.length by omega]
    repeat first | refine opsStep ?_ | refine codeStep ?_ | refine drawStep ?_
    refine SW.drawn rfl (by kernel_rfl) ?_
    repeat first | refine opsStep ?_ | refine codeStep ?_ | refine drawStep ?_
    refine guardE_of (by simp; omega) ?_
    repeat first | refine opsStep ?_ | refine codeStep ?_ | refine drawStep ?_
    refine optE_of (c := .str l[k]) (by simp [Value.cells, hkn]) ?_
    repeat first | refine opsStep ?_ | refine codeStep ?_ | refine drawStep ?_
    refine guardE_of (by rw [hw]; omega) ?_
    repeat first | refine opsStep ?_ | refine codeStep ?_ | refine drawStep ?_
    refine optE_of (c := .str l[k - 1]) (by rw [hw]; simp [Value.cells, show ((k : Int) - 1).toNat = k - 1 by omega, show k - 1 < l.length by omega]) ?_
    repeat first | refine opsStep ?_ | refine codeStep ?_ | refine drawStep ?_
    refine ⟨by kernel_rfl, ?_⟩
    repeat first | refine opsStep ?_ | refine codeStep ?_ | refine drawStep ?_
    refine decB_dec (fun he => ?_) (fun he => ?_)
    · have hnew : newAt l k = false := by rw [newAt, g0, g1, he]; simp; omega
      repeat first | refine opsStep ?_ | refine codeStep ?_ | refine drawStep ?_
      refine guardE_of ⟨by simp; omega, .inr (by simp; omega)⟩ ?_
      repeat first | refine opsStep ?_ | refine codeStep ?_ | refine drawStep ?_
      refine loopE_of (ι := {x : Nat × Nat × List (List UInt8) // 1 ≤ x.2.1 ∧ x.2.1 ≤ l.length - k ∧ x.1 + 1 ≤ k + x.2.1 ∧ x.2.2.length = l.length ∧ x.2.2.take x.1 = keepN l (k + x.2.1) ∧ (keepN l (k + x.2.1)).length = x.1 ∧ ∀ i, k + x.2.1 - 1 ≤ i → i < l.length → x.2.2.getD i [] = l.getD i []})
        (fun x => (fr [(0, .hs 0 0 0 l.length 1), (3, .int .i64 x.1.1), (4, .hs 0 0 k (l.length - k) 1), (5, .int .i64 x.1.2.1)], [Blk.cells 0 ((x.1.2.2).map .str)])) (fun x => l.length - x.1.2.1)
        ⟨(k, 1, l), by simp, by simp; omega, by simp, rfl, ?_, ?_, fun _ _ _ => rfl⟩ (Ent.fr' ⟨(by kernel_rfl), (by kernel_rfl), ?_, (by kernel_rfl), trivial⟩ (by kernel_rfl)) ?_
      · simp only []
        rw [keep_old hnew, keep_take (by omega) hpre]
      · simp only []
        rw [keep_old hnew, keep_take (by omega) hpre, List.length_take]; omega
      · refine Eq.trans (b := .hs 0 0 (0 + (k : Int).toNat * 1) ((l.length : Int).toNat - (k : Int).toNat) 1) (by kernel_rfl) ?_
        simp
      rintro ⟨⟨j, k2, C⟩, q1, q2, q3, q4, q5, q6, q7⟩
      simp only at q1 q2 q3 q4 q5 q6 q7
      repeat first | refine opsStep ?_ | refine codeStep ?_ | refine drawStep ?_
      refine decB_dec (fun hk2 => ?_) (fun hk2 => ?_)
      · have hk2 : k2 < l.length - k := by have := hk2; simp at this; omega
        have hx : k + k2 < l.length := by omega
        have hw2 : IntKind.wrap .i64 ((k2 : Int) - 1) = k2 - 1 := IntWalk.i64_in _ (by omega)
        have h1 := q7 (k + k2) (by omega) hx
        have h2 := q7 (k + k2 - 1) (by omega) (by omega)
        have c1 : C[k + k2]? = some (l.getD (k + k2) []) := by rw [← h1]; simp [List.getD_eq_getElem?_getD, show k + k2 < C.length by omega]
        have c2 : C[k + k2 - 1]? = some (l.getD (k + k2 - 1) []) := by rw [← h2]; simp [List.getD_eq_getElem?_getD, show k + k2 - 1 < C.length by omega]
        have hnw : newAt l (k + k2) = decide (l.getD (k + k2) [] ≠ l.getD (k + k2 - 1) []) := by rw [newAt, decide_eq_false (show ¬ (k + k2 = 0) by omega), Bool.false_or]
        generalize ha : l.getD (k + k2) [] = a at *
        generalize l.getD (k + k2 - 1) [] = b at *
        repeat first | refine opsStep ?_ | refine codeStep ?_ | refine drawStep ?_
        refine SW.drawn rfl (by kernel_rfl) ?_
        repeat first | refine opsStep ?_ | refine codeStep ?_ | refine drawStep ?_
        refine guardE_of (by simp; omega) ?_
        repeat first | refine opsStep ?_ | refine codeStep ?_ | refine drawStep ?_
        refine optE_of (c := .str a) (by simp [Value.cells, c1]) ?_
        repeat first | refine opsStep ?_ | refine codeStep ?_ | refine drawStep ?_
        refine guardE_of (by rw [hw2]; omega) ?_
        repeat first | refine opsStep ?_ | refine codeStep ?_ | refine drawStep ?_
        refine optE_of (c := .str b) (by rw [hw2]; simp [Value.cells, show ((k2 : Int) - 1).toNat = k2 - 1 by omega, show k + (k2 - 1) = k + k2 - 1 by omega, c2]) ?_
        repeat first | refine opsStep ?_ | refine codeStep ?_ | refine drawStep ?_
        refine ⟨by kernel_rfl, ?_⟩
        repeat first | refine opsStep ?_ | refine codeStep ?_ | refine drawStep ?_
        refine decB_dec (fun hab => ?_) (fun hab => ?_)
        · have hn := hnw.trans (decide_eq_true hab)
          repeat first | refine opsStep ?_ | refine codeStep ?_ | refine drawStep ?_
          refine guardE_of (by simp; omega) ?_
          repeat first | refine opsStep ?_ | refine codeStep ?_ | refine drawStep ?_
          refine optE_of (c := .str a) (by simp [Value.cells, c1]) ?_
          repeat first | refine opsStep ?_ | refine codeStep ?_ | refine drawStep ?_
          refine guardE_of (by simp; omega) ?_
          repeat first | refine opsStep ?_ | refine codeStep ?_ | refine drawStep ?_
          refine guardE_of ⟨rfl, by decide, by show 0 + j * 1 + 1 ≤ (C.map AV.str).length; rw [List.length_map]; omega⟩ ?_
          repeat first | refine opsStep ?_ | refine codeStep ?_ | refine drawStep ?_
          refine ⟨⟨(j + 1, k2 + 1, C.set j a), by simp, by simp only []; omega, by simp only []; omega, by simp [q4], ?_, ?_, ?_⟩, (by show l.length - (k2 + 1) < l.length - k2; omega), Ent.fr' ⟨(by kernel_rfl), inc_slot (i := j) (by omega), (by kernel_rfl), inc_slot (i := k2) (by omega), trivial⟩ ?_⟩
          · simp only []
            rw [← Nat.add_assoc, keep_new hn, ← q5]
            rw [List.take_succ_eq_append_getElem (by simp; omega)]
            rw [ha, List.take_set, List.set_eq_of_length_le (by simp; omega)]
            simp [show j < C.length by omega]
          · simp only []
            rw [← Nat.add_assoc, keep_new hn, List.length_append, q6]; rfl
          · intro i hi hil
            simp only [] at hi ⊢
            rw [← q7 i (by omega) hil]
            simp only [List.getD_eq_getElem?_getD, List.getElem?_set]
            rw [if_neg (by omega)]
          · refine Eq.trans (b := [Blk.cells 0 (over (C.map AV.str) (0 + j * 1) [.str a])]) (by kernel_rfl) ?_
            rw [Nat.zero_add, Nat.mul_one, over_one (by rw [List.length_map]; omega), ← List.map_set]
        · have hn := hnw.trans (decide_eq_false hab)
          repeat first | refine opsStep ?_ | refine codeStep ?_ | refine drawStep ?_
          refine ⟨⟨(j, k2 + 1, C), by simp, by simp only []; omega, by simp only []; omega, q4, ?_, ?_, fun i hi hil => q7 i (by simp only [] at hi; omega) hil⟩, (by show l.length - (k2 + 1) < l.length - k2; omega), Ent.fr' ⟨(by kernel_rfl), (by kernel_rfl), (by kernel_rfl), inc_slot (i := k2) (by omega), trivial⟩ (by kernel_rfl)⟩
          · simp only []
            rw [← Nat.add_assoc, keep_old hn]; exact q5
          · simp only []
            rw [← Nat.add_assoc, keep_old hn]; exact q6
      · have hk2 : k2 = l.length - k := by have := hk2; simp at this; omega
        have hfin : keepN l l.length = C.take j := by rw [q5]; congr 1; omega
        have hlen : (keepN l l.length).length = j := by rw [← q6]; congr 2; omega
        repeat first | refine opsStep ?_ | refine codeStep ?_ | refine drawStep ?_
        refine guardE_of ⟨by simp; omega, .inr (by simp; omega)⟩ ?_
        repeat first | refine opsStep ?_ | refine codeStep ?_ | refine drawStep ?_
        refine guardE_of ⟨rfl, by simp; omega⟩ ?_
        repeat first | refine opsStep ?_ | refine codeStep ?_ | refine drawStep ?_
        refine guardE_of ⟨by simp; omega, .inl rfl⟩ ?_
        repeat first | refine opsStep ?_ | refine codeStep ?_ | refine drawStep ?_
        refine finR (l := [(2, .hs 0 0 0 j 1)]) (H₁ := [Blk.cells 0 (over (C.map AV.str) (0 + j * 1) (reps [.str []] (l.length - j)))]) (v := .hs 0 0 0 j 1) ⟨?_, trivial⟩ ?_ (Ent.refl _ _ _) (by kernel_rfl) ?_
        · refine Eq.trans (b := .hs 0 0 (0 + (0 : Int).toNat * 1) ((j : Int).toNat - (0 : Int).toNat) 1) (by kernel_rfl) ?_
          simp
        · refine Eq.trans (b := [Blk.cells 0 (over (C.map AV.str) (0 + (j : Int).toNat * 1) (reps [.str []] ((l.length : Int).toNat - (j : Int).toNat)))]) (by kernel_rfl) ?_
          simp
        · rw [hlen, hfin]
          refine ⟨rfl, ?_⟩
          rw [Nat.zero_add, Nat.mul_one, reps_one, over, List.length_replicate, List.drop_of_length_le (by simp; omega), List.append_nil, List.map_append, List.map_take, List.map_replicate]
    · have hnew : newAt l k = true := by rw [newAt, g0, g1]; simp [he]
      repeat first | refine opsStep ?_ | refine codeStep ?_ | refine drawStep ?_
      refine ⟨⟨k + 1, by omega, by omega, fun i hi => ?_⟩, (by show l.length - (k + 1) < l.length - k; omega), Ent.fr' ⟨(by kernel_rfl), inc_slot (i := k) (by omega), trivial⟩ (by kernel_rfl)⟩
      by_cases e : i = k
      · subst e; exact hnew
      · exact hpre i (by omega)
  · have hkn : k = l.length := by have := hkn; simp at this; omega
    have hk := hfull fun i hi => hpre i (by omega)
    repeat first | refine opsStep ?_ | refine codeStep ?_ | refine drawStep ?_
    refine finR (l := [(2, .hs 0 0 0 l.length 1)]) (H₁ := [Blk.cells 0 ((l).map .str)]) (v := .hs 0 0 0 l.length 1) ⟨(by kernel_rfl), trivial⟩ (by kernel_rfl) (Ent.refl _ _ _) (by kernel_rfl) ?_
    rw [hk]; simp

theorem srt_le {r : List (List UInt8)} (hs : SrtTo r r.length) {j : Nat} (h0 : 0 < j) (hj : j < r.length) : r.getD (j - 1) [] = r.getD j [] ∨ less (r.getD (j - 1) []) (r.getD j []) = true := by
  have h := hs (j - 1) (by omega)
  rw [show j - 1 + 1 = j by omega] at h
  cases e : less (r.getD (j - 1) []) (r.getD j []) with
  | true => exact .inr rfl
  | false => exact .inl (less_total e h)
/-- Of what is sorted the firsts of the runs are strictly sorted. -/
theorem keep_strict {r : List (List UInt8)} (hs : SrtTo r r.length) : Strict (keepN r r.length) := by
  suffices h : ∀ j, j ≤ r.length → Strict (keepN r j) ∧ ∀ x ∈ keepN r j, 0 < j ∧ (x = r.getD (j - 1) [] ∨ less x (r.getD (j - 1) []) = true) from (h _ (Nat.le_refl _)).1
  intro j
  induction j with
  | zero => exact fun _ => ⟨List.Pairwise.nil, fun x hx => by simp [keepN] at hx⟩
  | succ j ih =>
    intro hj
    obtain ⟨i1, i2⟩ := ih (by omega)
    have hle : ∀ x ∈ keepN r j, x = r.getD j [] ∨ less x (r.getD j []) = true := fun x hx => by
      obtain ⟨p, q⟩ := i2 x hx
      have hjj := srt_le hs (show 0 < j by omega) (show j < r.length by omega)
      rcases q with rfl | q
      · rcases hjj with e | e
        · exact .inl e
        · exact .inr e
      · rcases hjj with e | e
        · exact .inr (e ▸ q)
        · exact .inr (less_trans q e)
    cases hn : newAt r j with
    | true =>
      rw [keep_new hn]
      refine ⟨List.pairwise_append.2 ⟨i1, List.pairwise_singleton _ _, fun x hx y hy => ?_⟩, fun x hx => ⟨by omega, ?_⟩⟩
      · rw [List.mem_singleton] at hy
        subst hy
        rcases hle x hx with e | e
        · obtain ⟨p, q⟩ := i2 x hx
          simp only [newAt, show ¬ (j = 0) by omega, decide_false, Bool.false_or, decide_eq_true_eq] at hn
          have hjj := srt_le hs (show 0 < j by omega) (show j < r.length by omega)
          rcases hjj with e' | e'
          · exact absurd e'.symm hn
          · rcases q with q | q
            · exact absurd (e.symm.trans q) hn
            · rw [e] at q
              have := less_asymm q
              rw [e'] at this
              simp at this
        · exact e
      · rw [Nat.add_sub_cancel]
        rcases List.mem_append.1 hx with hx | hx
        · exact hle x hx
        · exact .inl (List.mem_singleton.1 hx)
    | false =>
      rw [keep_old hn]
      exact ⟨i1, fun x hx => ⟨by omega, by rw [Nat.add_sub_cancel]; exact hle x hx⟩⟩
theorem keep_tog {l r : List (List UInt8)} (hp : r.Perm l) (hs : SrtTo r r.length) : keepN r r.length = togS l :=
  strict_eq (keep_strict hs) (tog_strict l) fun x => by
    rw [keep_mem (Nat.le_refl _), List.take_length, hp.mem_iff, tog_mem]

theorem glyph_Union (ka kb : SK) (a b : List (List UInt8)) (hl : a.length + b.length ≤ 12) (ha : ∀ s ∈ a, s.length < 2^62) (hb : ∀ s ∈ b, s.length < 2^62) (ra : risesS a = true) (rb : risesS b = true) :
    Pure Try.prog 26 [aSs ka a, aSs kb b] (.tup [aSs .any (togS (a ++ b)), .int .i64 0]) := by
  have h1 := glyph_Rises ka a (by omega) ha
  have h2 := glyph_Rises kb b (by omega) hb
  rw [ra] at h1
  rw [rb] at h2
  refine Pure.of_sw 23 Try.func26 rfl Try.ntmps26 (by kernel_rfl) (Nat.le_of_ble_eq_true (by kernel_rfl)) (by simp [closeds, AV.closed, aSs_closed, aIs_closed, aBs_closed, aRs_closed, aDen_closed]) (by simp [AV.closed, closeds, aSs_closed, aIs_closed, aBs_closed, aRs_closed, aDen_closed]) ?_; refine SW.of_vc ?_
  repeat first | refine opsStep ?_ | refine codeStep ?_ | refine drawStep ?_
  refine callP h1 ?_
  repeat first | refine opsStep ?_ | refine codeStep ?_ | refine drawStep ?_
  refine callP h2 ?_
  repeat first | refine opsStep ?_ | refine codeStep ?_ | refine drawStep ?_
  refine callN (slices_Clone_S_new ka a (by omega)) ?_
  repeat first | refine opsStep ?_ | refine codeStep ?_ | refine drawStep ?_
  refine guardE_of ⟨rfl, by simp⟩ ?_
  refine guardE_of (by simp [Value.cells]) ?_
  refine guardE_of ⟨by omega, by show (a.length + b.length) * 16 ≤ 140737488355328; omega⟩ ?_
  iterate 2 refine opsStep ?_
  refine VCode.ent (((Ent.fr' (l := [(6, .hs 0 1 0 (a ++ b).length 1)]) (H' := [] ++ [.cells 1 ((a ++ b).map .str)]) ⟨?_, trivial⟩ ?_).trans (Ent.regen (l := []) (pre := []) (g := 1) (cs := (a ++ b).map .str) 6 0 (Nat.zero_le _) trivial trivial (bels_map.2 fun _ _ => by simp [AV.bel]))).to rfl) ?_
  · refine Eq.trans (b := .hs 0 1 0 (a.length + b.length) 1) (by kernel_rfl) ?_
    rw [List.length_append]
  · refine Eq.trans (b := [.cells 1 (((a.map AV.str).drop 0).take (a.length * 1) ++ b.map AV.str)]) (by kernel_rfl) ?_
    rw [td_all (by simp), List.map_append]; rfl
  repeat first | refine opsStep ?_ | refine codeStep ?_ | refine drawStep ?_
  refine ⟨_, slices_Sort (a ++ b) (by simp; omega), ?_⟩
  rintro o H' ⟨rfl, r, hp, hsr, rfl⟩
  have hrl := hp.length_eq
  rw [← hrl] at hsr
  repeat first | refine opsStep ?_ | refine codeStep ?_ | refine drawStep ?_
  refine callH (by rw [← hrl]; exact slices_Compact r (by rw [hrl]; simp; omega)) ?_
  have hk := keep_tog hp hsr
  have hle := keep_le r r.length
  rw [hk] at hle ⊢
  repeat first | refine opsStep ?_ | refine codeStep ?_ | refine drawStep ?_
  refine finH (l := [(4, .hs 0 0 0 (togS (a ++ b)).length 1), (5, .int .i64 0)]) (H₁ := [] ++ [.cells 0 ((togS (a ++ b)).map .str ++ List.replicate (r.length - (togS (a ++ b)).length) (.str []))]) ⟨(by kernel_rfl), (by kernel_rfl), trivial⟩ ?_ (Ent.freezeCut (l := [(5, .int .i64 0)]) (pre := []) (g := 0) (n := (togS (a ++ b)).length) (cs := (togS (a ++ b)).map .str) 4 (Nat.zero_le _) (by simp [frBel, AV.bel]) trivial (by simp)) ?_
  · refine Eq.trans (b := [Blk.cells 0 ((togS (a ++ b) ++ List.replicate (r.length - (togS (a ++ b)).length) []).map .str)]) (by kernel_rfl) ?_
    rw [List.map_append, List.map_replicate]; rfl
  · exact (by kernel_rfl)

end Tab

/- The document's Widen; the fixed answers. -/
namespace Tab
open Go Go.Proofs
set_option maxRecDepth 10000
set_option linter.unusedVariables false
set_option linter.unusedSimpArgs false
set_option linter.unusedSectionVars false

end Tab

/- Rows as cubes: plain. -/
namespace Tab
open Go
set_option maxRecDepth 10000
set_option linter.unusedVariables false
set_option linter.unusedSimpArgs false
set_option linter.unusedSectionVars false

abbrev Cb := Int × Int × Int
def cubR : Nat → List Int → Nat → Nat → List Cb
  | 0, r, m, b => [((m : Int), (b : Int), r.getD 0 0)]
  | k + 1, r, m, b => if r.take (2 ^ k) = r.drop (2 ^ k) then cubR k (r.take (2 ^ k)) m b else cubR k (r.take (2 ^ k)) (m + 2 ^ k) b ++ cubR k (r.drop (2 ^ k)) (m + 2 ^ k) (b + 2 ^ k)
theorem cubR_len : ∀ (k : Nat) (r : List Int) (m b : Nat), (cubR k r m b).length ≤ 2 ^ k ∧ 1 ≤ (cubR k r m b).length
  | 0, r, m, b => by simp [cubR]
  | k + 1, r, m, b => by
    rw [cubR]
    have hp : 2 ^ (k + 1) = 2 ^ k + 2 ^ k := by rw [Nat.pow_succ]; omega
    split
    · obtain ⟨h1, h2⟩ := cubR_len k (r.take (2 ^ k)) m b
      omega
    · obtain ⟨h1, h2⟩ := cubR_len k (r.take (2 ^ k)) (m + 2 ^ k) b
      obtain ⟨h3, h4⟩ := cubR_len k (r.drop (2 ^ k)) (m + 2 ^ k) (b + 2 ^ k)
      rw [List.length_append]
      omega

def andI (a b : Int) : Int := IntKind.wrap .i64 ((BitVec.ofInt 64 a &&& BitVec.ofInt 64 b).toNat : Nat)
def orI (a b : Int) : Int := IntKind.wrap .i64 ((BitVec.ofInt 64 a ||| BitVec.ofInt 64 b).toNat : Nat)
theorem orI_nat {a b : Nat} (ha : a < 2 ^ 62) (hb : b < 2 ^ 62) : orI a b = ((a ||| b : Nat) : Int) := by
  have h : a ||| b < 2 ^ 62 := Nat.or_lt_two_pow ha hb
  rw [orI, BitVec.toNat_or, BitVec.ofInt_natCast, BitVec.ofInt_natCast, BitVec.toNat_ofNat, BitVec.toNat_ofNat, Nat.mod_eq_of_lt (by omega), Nat.mod_eq_of_lt (by omega), IntWalk.i64_in _ (by omega)]
theorem or_add {m k : Nat} (h : 2 ^ (k + 1) ∣ m) : m ||| 2 ^ k = m + 2 ^ k := by
  obtain ⟨a, rfl⟩ := h
  exact (Nat.two_pow_add_eq_or_of_lt (Nat.pow_lt_pow_right (by omega) (by omega)) a).symm

def hitC (i : Int) (c : Cb) : Bool := decide (andI i c.1 = c.2.1)
/-- Where a letter leads. -/
def atC (cs : List Cb) (i : Int) : Option Int := (cs.find? (hitC i)).map fun c => c.2.2
def rowC (cs : List Cb) (k : Nat) : List Int := (List.range (2 ^ k)).map fun i : Nat => (atC cs i).getD 0
/-- Are they a row's cubes? -/
def cubesOk (cs : List Cb) (k : Nat) : Bool := decide (cs.length ≤ 2 ^ k) && ((List.range (2 ^ k)).all fun i : Nat => (atC cs i).isSome) && ((rowC cs k).all fun x => decide (0 ≤ x)) && decide (cubR k (rowC cs k) 0 0 = cs)
theorem rowC_length (cs k) : (rowC cs k).length = 2 ^ k := by simp [rowC]
theorem rowC_get {cs : List Cb} {k i : Nat} (h : i < 2 ^ k) : (rowC cs k)[i]? = some ((atC cs i).getD 0) := by simp [rowC, h]

theorem atC_find {cs : List Cb} {i : Int} {j : Nat} (hj : j < cs.length) (hn : ∀ j' (h' : j' < j), hitC i (cs[j']'(by omega)) = false) (h : hitC i cs[j] = true) : atC cs i = some (cs[j]).2.2 := by
  rw [atC]
  have : cs.find? (hitC i) = some cs[j] := by
    rw [List.find?_eq_some_iff_getElem]
    exact ⟨h, j, hj, rfl, fun j' h' => by simp [hn j' h']⟩
  rw [this]; rfl
theorem atC_none {cs : List Cb} {i : Int} (hn : ∀ j (h : j < cs.length), hitC i cs[j] = false) : atC cs i = none := by
  rw [atC]
  have : cs.find? (hitC i) = none := by
    rw [List.find?_eq_none]
    intro c hc
    obtain ⟨j, hj, rfl⟩ := List.getElem_of_mem hc
    simp [hn j hj]
  rw [this]; rfl

structure Aut where
  tk : SK
  tracks : List (List UInt8)
  ak : SK
  accept : List Bool
  sk : SK
  starts : List Int
  ck : SK
  arena : List Cb
def Aut.st (a : Aut) (q : Nat) : Nat := (a.starts.getD q 0).toNat
def Aut.row (a : Aut) (q : Nat) : List Cb := (a.arena.drop (a.st q)).take (a.st (q + 1) - a.st q)
def sortedI : List Int → Bool
  | a :: b :: l => decide (a ≤ b) && sortedI (b :: l)
  | _ => true
/-- The frame of a table: what is checked ahead of its rows. -/
def frameS (a : Aut) : Bool := tracksS a.tracks a.accept.length && decide (a.starts.length = a.accept.length + 1) && decide (a.starts.getD 0 0 = 0) && decide (a.starts.getD a.accept.length 0 = a.arena.length) && sortedI a.starts
def rowOkS (a : Aut) (q : Nat) : Bool := decide ((a.row q).length ≤ 32) && cubesOk (a.row q) a.tracks.length && ((rowC (a.row q) a.tracks.length).all fun x => decide (x < a.accept.length))
def checkS (a : Aut) : Bool := frameS a && (List.range a.accept.length).all (rowOkS a)
@[irreducible] def unpE (a : Aut) : Int := if checkS a = true then 0 else 3
@[irreducible] def unpD (a : Aut) : Den := if checkS a = true then ⟨.any, a.tracks, .any, a.accept, .any, (List.range a.accept.length).map fun q => (.any, rowC (a.row q) a.tracks.length)⟩ else den0
theorem unpE_zero {a : Aut} : unpE a = 0 ↔ checkS a = true := by
  rw [unpE]; split <;> simp_all
theorem unpE_bad {a : Aut} (h : checkS a = false) : unpE a = 3 := by rw [unpE, h]; rfl
theorem unpD_ok {a : Aut} (h : checkS a = true) : unpD a = ⟨.any, a.tracks, .any, a.accept, .any, (List.range a.accept.length).map fun q => (.any, rowC (a.row q) a.tracks.length)⟩ := by rw [unpD, if_pos h]
theorem unpD_bad {a : Aut} (h : checkS a = false) : unpD a = den0 := by rw [unpD, h]; rfl

theorem sorted_get : ∀ {l : List Int}, sortedI l = true → ∀ i (h : i + 1 < l.length), l[i] ≤ l[i + 1]
  | [], _, i, h => by simp at h
  | [a], _, i, h => by simp at h
  | a :: b :: l, hs, i, h => by
    simp only [sortedI, Bool.and_eq_true, decide_eq_true_eq] at hs
    cases i with
    | zero => exact hs.1
    | succ i => exact sorted_get hs.2 i (by simpa using h)
theorem sorted_of : ∀ {l : List Int}, (∀ i (h : i + 1 < l.length), l[i] ≤ l[i + 1]) → sortedI l = true
  | [], _ => rfl
  | [a], _ => rfl
  | a :: b :: l, hs => by
    simp only [sortedI, Bool.and_eq_true, decide_eq_true_eq]
    exact ⟨hs 0 (by simp), sorted_of fun i h => hs (i + 1) (by simpa using h)⟩
theorem sorted_le {l : List Int} (hs : sortedI l = true) : ∀ {j i : Nat} (hj : j < l.length) (hij : i ≤ j), l[i]'(by omega) ≤ l[j]
  | 0, i, hj, hij => by have : i = 0 := by omega
                        subst this; omega
  | j + 1, i, hj, hij => by
    by_cases e : i = j + 1
    · subst e; omega
    · have h1 := sorted_le hs (j := j) (i := i) (by omega) (by omega)
      have h2 := sorted_get hs j hj
      omega
structure FrameOk (a : Aut) : Prop where
  tracks : tracksS a.tracks a.accept.length = true
  len : a.starts.length = a.accept.length + 1
  zero : a.starts.getD 0 0 = 0
  last : a.starts.getD a.accept.length 0 = a.arena.length
  sorted : sortedI a.starts = true
theorem frameS_iff {a : Aut} : frameS a = true ↔ FrameOk a := by
  simp only [frameS, Bool.and_eq_true, decide_eq_true_eq]
  exact ⟨fun ⟨⟨⟨⟨h1, h2⟩, h3⟩, h4⟩, h5⟩ => ⟨h1, h2, h3, h4, h5⟩, fun h => ⟨⟨⟨⟨h.1, h.2⟩, h.3⟩, h.4⟩, h.5⟩⟩
theorem FrameOk.get {a : Aut} (h : FrameOk a) {q : Nat} (hq : q ≤ a.accept.length) : a.starts[q]? = some (a.st q : Int) ∧ a.st q ≤ a.arena.length := by
  have hl := h.len
  have e : ∀ i, i < a.starts.length → a.starts.getD i 0 = a.starts[i]! := fun i hi => by simp [List.getD_eq_getElem?_getD, hi]
  have hz : a.starts[0]'(by omega) = 0 := by have := h.zero; rw [List.getD_eq_getElem?_getD, List.getElem?_eq_getElem (by omega)] at this; simpa using this
  have hL : a.starts[a.accept.length]'(by omega) = a.arena.length := by have := h.last; rw [List.getD_eq_getElem?_getD, List.getElem?_eq_getElem (by omega)] at this; simpa using this
  have h1 := sorted_le h.sorted (j := q) (i := 0) (by omega) (by omega)
  have h2 := sorted_le h.sorted (j := a.accept.length) (i := q) (by omega) hq
  have h3 : a.starts.getD q 0 = a.starts[q]'(by omega) := by rw [List.getD_eq_getElem?_getD, List.getElem?_eq_getElem (by omega)]; rfl
  refine ⟨?_, ?_⟩
  · rw [List.getElem?_eq_getElem (by omega), Aut.st, h3]; congr 1; omega
  · rw [Aut.st, h3]; omega
theorem FrameOk.le {a : Aut} (h : FrameOk a) {q : Nat} (hq : q < a.accept.length) : a.st q ≤ a.st (q + 1) := by
  have hl := h.len
  have h1 := sorted_get h.sorted q (by omega)
  obtain ⟨g1, _⟩ := h.get (q := q) (by omega)
  obtain ⟨g2, _⟩ := h.get (q := q + 1) (by omega)
  rw [List.getElem?_eq_getElem (by omega), Option.some.injEq] at g1 g2
  rw [g1, g2] at h1
  omega
theorem unpD_right {a : Aut} (h : checkS a = true) : rightS (unpD a) = true ∧ (unpD a).tracks = a.tracks ∧ (unpD a).accept = a.accept := by
  rw [unpD_ok h]
  refine ⟨?_, rfl, rfl⟩
  simp only [checkS, Bool.and_eq_true, List.all_eq_true, List.mem_range] at h
  obtain ⟨h1, h2⟩ := h
  have hf := frameS_iff.1 h1
  rw [rightS]
  simp only [Bool.and_eq_true, decide_eq_true_eq, List.all_eq_true, List.length_map, List.length_range, List.mem_map, List.mem_range]
  refine ⟨⟨hf.tracks, trivial⟩, ?_⟩
  rintro r ⟨q, hq, rfl⟩
  have hr := h2 q hq
  simp only [rowOkS, Bool.and_eq_true, decide_eq_true_eq, List.all_eq_true] at hr
  obtain ⟨⟨_, h4⟩, h5⟩ := hr
  simp only [cubesOk, Bool.and_eq_true, decide_eq_true_eq, List.all_eq_true] at h4
  rw [rowOk]
  simp only [Bool.and_eq_true, decide_eq_true_eq, List.all_eq_true]
  refine ⟨rowC_length _ _, fun x hx => ⟨h4.1.2 x hx, h5 x hx⟩⟩

end Tab

/- Lists compared, sorted; where a letter leads; cubes out of a row. -/
namespace Tab
open Go Go.Proofs
set_option maxRecDepth 10000
set_option linter.unusedVariables false
set_option linter.unusedSimpArgs false
set_option linter.unusedSectionVars false

def cb3 (c : Cb) : List AV := [.int .i64 c.1, .int .i64 c.2.1, .int .i64 c.2.2]
def cc3 (L : List Cb) : List AV := L.flatMap cb3
def aCs (k : SK) (l : List Cb) : AV := .sl k l.length (cc3 l)
def okI (x : Int) : Prop := -(2 ^ 63) ≤ x ∧ x < 2 ^ 63
def okC (c : Cb) : Prop := okI c.1 ∧ okI c.2.1 ∧ okI c.2.2
theorem cc3_length : ∀ L, (cc3 L).length = L.length * 3
  | [] => rfl
  | p :: L => by have := cc3_length L; simp only [cc3, cb3, List.flatMap_cons, List.length_append, List.length_cons, List.length_nil] at this ⊢; omega
theorem cc3_append (L M : List Cb) : cc3 (L ++ M) = cc3 L ++ cc3 M := by simp [cc3]
theorem cc3_drop : ∀ (L : List Cb) (i : Nat), (cc3 L).drop (i * 3) = cc3 (L.drop i)
  | L, 0 => by simp
  | [], i + 1 => by simp [cc3]
  | c :: L, i + 1 => by
    rw [show (i + 1) * 3 = i * 3 + 3 by omega, List.drop_succ_cons, ← cc3_drop L i]
    simp [cc3, cb3]
theorem cc3_take : ∀ (L : List Cb) (i : Nat), (cc3 L).take (i * 3) = cc3 (L.take i)
  | L, 0 => by simp [cc3]
  | [], i + 1 => by simp [cc3]
  | c :: L, i + 1 => by
    rw [show (i + 1) * 3 = i * 3 + 3 by omega, List.take_succ_cons]
    have := cc3_take L i
    simp only [cc3, cb3, List.flatMap_cons, List.cons_append, List.nil_append, List.take_succ_cons] at this ⊢
    rw [this]
theorem cc3_get {L : List Cb} {i : Nat} {c : Cb} (h : L[i]? = some c) : ((cc3 L).drop (i * 3)).take 3 = cb3 c ∧ 3 ≤ ((cc3 L).drop (i * 3)).length := by
  obtain ⟨h1, h2⟩ := List.getElem?_eq_some_iff.1 h
  have e : L.drop i = c :: L.drop (i + 1) := by rw [← h2]; exact List.drop_eq_getElem_cons h1
  rw [cc3_drop, e]
  simp [cc3, cb3]
theorem cb3_closed (c : Cb) : closeds (cb3 c) := by simp [cb3, closeds, AV.closed]
theorem cc3_closed (L : List Cb) : closeds (cc3 L) := by
  rw [closeds_iff]
  intro a ha
  obtain ⟨p, _, hp⟩ := List.mem_flatMap.1 ha
  exact closeds_iff.1 (cb3_closed p) a hp
theorem aCs_closed (k l) : (aCs k l).closed := cc3_closed l
def Aut.cells (a : Aut) : List AV := [aSs a.tk a.tracks, aBs a.ak a.accept, aIs a.sk a.starts, aCs a.ck a.arena]
def aAut (a : Aut) : AV := .agg a.cells
theorem aAut_closed (a : Aut) : (aAut a).closed := by simp [aAut, Aut.cells, AV.closed, closeds, aSs_closed, aBs_closed, aIs_closed, aCs_closed]
@[simp] theorem aCs_bel (n k l) : (aCs k l).bel n := AV.closed_bel _ (aCs_closed k l)
@[simp] theorem aAut_bel (n a) : (aAut a).bel n := AV.closed_bel _ (aAut_closed a)
theorem ldAgg {cs xs : List AV} {n : Nat} {k : Eff → Prop} (h : cs.take n = xs) (hl : n ≤ cs.length) (hk : k { v := .agg xs }) : guardE (n ≤ cs.length) (k { v := .agg (cs.take n) }) := by subst h; exact guardE_of hl hk

theorem lits3 {a b c : Int} (ha : okI a) (hb : okI b) (hc : okI c) (n : Nat) : Try.prog.keyLits (n + 2) 92 [.int .i64 a, .int .i64 b, .int .i64 c] = some [.int .i64 a, .int .i64 b, .int .i64 c] := by
  have hi : Try.prog.underlying 3 = some (.int .i64) := (by kernel_rfl)
  have hc1 : Try.prog.cellsOf 3 = 1 := (by kernel_rfl)
  have hcC : Try.prog.cellsOf 92 = 3 := (by kernel_rfl)
  have hu : Try.prog.underlying 92 = some (.struct #[{ name := "Mask", type := 3, offset := 0, embedded := false, tag := "", pkgPath := "", byteOffset := 0 }, { name := "Bits", type := 3, offset := 1, embedded := false, tag := "", pkgPath := "", byteOffset := 8 }, { name := "To", type := 3, offset := 2, embedded := false, tag := "", pkgPath := "", byteOffset := 16 }]) := (by kernel_rfl)
  have hw : ∀ x : Int, okI x → (Lit.int .i64 x).wf = true := fun x h => by
    obtain ⟨h1, h2⟩ := h
    simp only [Lit.wf, Bool.and_eq_true, decide_eq_true_eq, show IntKind.i64.min = -9223372036854775808 from rfl, show IntKind.i64.max = 9223372036854775807 from rfl]
    omega
  have e1 : ∀ (n : Nat) (x : Int), okI x → Try.prog.keyLits (n + 1) 3 [.int .i64 x] = some [.int .i64 x] := fun n x h => by
    unfold Program.keyLits
    rw [hi]
    exact if_pos ⟨rfl, hw x h⟩
  unfold Program.keyLits
  rw [hu]
  simp only
  rw [if_pos ⟨by rw [hcC]; rfl, (by kernel_rfl)⟩]
  simp [hc1, e1 n a ha, e1 n b hb, e1 n c hc]
theorem eqlC {c c' : Cb} (h : okC c) (h' : okC c') : EqlE Try.prog 92 (cb3 c) (cb3 c') (decide (c = c')) := by
  have hu : Try.prog.underlying 92 = some (.struct #[{ name := "Mask", type := 3, offset := 0, embedded := false, tag := "", pkgPath := "", byteOffset := 0 }, { name := "Bits", type := 3, offset := 1, embedded := false, tag := "", pkgPath := "", byteOffset := 8 }, { name := "To", type := 3, offset := 2, embedded := false, tag := "", pkgPath := "", byteOffset := 16 }]) := (by kernel_rfl)
  have hcC : Try.prog.cellsOf 92 = 3 := (by kernel_rfl)
  have hf : ∀ x y z : Int, Value.formed Try.prog 92 (.agg #[.int .i64 x, .int .i64 y, .int .i64 z]) = true := fun x y z => by simp only [Value.formed, hu, hcC]; rfl
  obtain ⟨a, b, c⟩ := c
  obtain ⟨a', b', c'⟩ := c'
  refine .mk (xs := [.int .i64 a, .int .i64 b, .int .i64 c]) (ys := [.int .i64 a', .int .i64 b', .int .i64 c']) (la := [.int .i64 a, .int .i64 b, .int .i64 c]) (lb := [.int .i64 a', .int .i64 b', .int .i64 c']) (D := 0 + 2) (D' := 0 + 2) (m := 2) ?_ rfl rfl (lits3 h.1 h.2.1 h.2.2 0) (lits3 h'.1 h'.2.1 h'.2.2 0) (by kernel_rfl) (by decide) (hf a b c) (hf a' b' c') (by kernel_rfl)
  rw [decide_eq_true_eq]
  simp

theorem slices_Equal_I (k k' : SK) (a b : List Int) (ha : a.length < 2^62) (hb : b.length < 2^62) : Pure Try.prog 167 [aIs k a, aIs k' b] (.bool (decide (a = b))) := by
  refine Pure.of_sw 26 Try.func167 rfl Try.ntmps167 (by kernel_rfl) (Nat.le_of_ble_eq_true (by kernel_rfl)) (by simp [closeds, AV.closed, aSs_closed, aIs_closed, aBs_closed, aRs_closed, aDen_closed]) (by simp [AV.closed, closeds, aSs_closed, aIs_closed, aBs_closed, aRs_closed, aDen_closed]) ?_; refine SW.of_vc ?_
  repeat first | refine opsStep ?_ | refine codeStep ?_ | refine drawStep ?_
  refine decB_split (fun h => ?_) (fun h => ?_)
  · repeat first | refine opsStep ?_ | refine codeStep ?_ | refine drawStep ?_
    exact finB rfl (by simp at h; simp; intro e; exact h (by rw [e]))
  · repeat first | refine opsStep ?_ | refine codeStep ?_ | refine drawStep ?_
    have hl : a.length = b.length := by simp at h; omega
    refine loopE_of (ι := {i : Nat // i ≤ a.length ∧ a.take i = b.take i}) (fun i => (fr [(0, aIs k a), (1, aIs k' b), (12, .int .i64 a.length), (13, .int .i64 i.1)], [])) (fun i => a.length - i.1) ⟨0, by omega, by simp⟩ (Ent.fr' ⟨(by kernel_rfl), (by kernel_rfl), (by kernel_rfl), (by kernel_rfl), trivial⟩ (by kernel_rfl)) ?_
    rintro ⟨i, hi, hpre⟩
    repeat first | refine opsStep ?_ | refine codeStep ?_ | refine drawStep ?_
    refine decB_split (fun h => ?_) (fun h => ?_)
    · have hia : i < a.length := by simpa using h
      repeat first | refine opsStep ?_ | refine codeStep ?_ | refine drawStep ?_
      refine SW.drawn rfl (by kernel_rfl) ?_
      repeat first | refine opsStep ?_ | refine codeStep ?_ | refine drawStep ?_
      refine guardE_of (by simp; omega) ?_
      repeat first | refine opsStep ?_ | refine codeStep ?_ | refine drawStep ?_
      refine optE_of (c := .int .i64 a[i]) (by simp [Value.cells, hia]) ?_
      repeat first | refine opsStep ?_ | refine codeStep ?_ | refine drawStep ?_
      refine guardE_of (by simp; omega) ?_
      repeat first | refine opsStep ?_ | refine codeStep ?_ | refine drawStep ?_
      refine optE_of (c := .int .i64 b[i]) (by simp [Value.cells, hl ▸ hia]) ?_
      repeat first | refine opsStep ?_ | refine codeStep ?_ | refine drawStep ?_
      refine ⟨by kernel_rfl, ?_⟩
      repeat first | refine opsStep ?_ | refine codeStep ?_ | refine drawStep ?_
      refine decB_split (fun h => ?_) (fun h => ?_)
      · repeat first | refine opsStep ?_ | refine codeStep ?_ | refine drawStep ?_
        exact finB rfl (by simp at h; simp; rintro rfl; exact h rfl)
      · repeat first | refine opsStep ?_ | refine codeStep ?_ | refine drawStep ?_
        refine ⟨⟨i + 1, by omega, ?_⟩, (by show a.length - (i + 1) < a.length - i; omega), Ent.fr' ⟨(by kernel_rfl), (by kernel_rfl), (by kernel_rfl), inc_slot (i := i) (by omega), trivial⟩ (by kernel_rfl)⟩
        rw [List.take_succ_eq_append_getElem hia, List.take_succ_eq_append_getElem (hl ▸ hia), hpre]
        simp at h; rw [h]
    · repeat first | refine opsStep ?_ | refine codeStep ?_ | refine drawStep ?_
      have : i = a.length := by simp at h; omega
      exact finB rfl (by subst this; rw [List.take_length, hl, List.take_length] at hpre; simpa using hpre)

theorem slices_Equal_C (k k' : SK) (a b : List Cb) (ha : a.length < 2^60) (hb : b.length < 2^60) (oa : ∀ c ∈ a, okC c) (ob : ∀ c ∈ b, okC c) : Pure Try.prog 112 [aCs k a, aCs k' b] (.bool (decide (a = b))) := by
  refine Pure.of_sw 26 Try.func112 rfl Try.ntmps112 (by kernel_rfl) (Nat.le_of_ble_eq_true (by kernel_rfl)) (by simp [closeds, AV.closed, aSs_closed, aIs_closed, aBs_closed, aRs_closed, aDen_closed, aCs_closed, aAut_closed]) (by simp [AV.closed, closeds, aSs_closed, aIs_closed, aBs_closed, aRs_closed, aDen_closed, aCs_closed, aAut_closed]) ?_; refine SW.of_vc ?_
  repeat first | refine opsStep ?_ | refine codeStep ?_ | refine drawStep ?_
  refine decB_split (fun h => ?_) (fun h => ?_)
  · repeat first | refine opsStep ?_ | refine codeStep ?_ | refine drawStep ?_
    exact finB rfl (by simp at h; simp; intro e; exact h (by rw [e]))
  · repeat first | refine opsStep ?_ | refine codeStep ?_ | refine drawStep ?_
    have hl : a.length = b.length := by simp at h; omega
    refine loopE_of (ι := {i : Nat // i ≤ a.length ∧ a.take i = b.take i}) (fun i => (fr [(0, aCs k a), (1, aCs k' b), (12, .int .i64 a.length), (13, .int .i64 i.1)], [])) (fun i => a.length - i.1) ⟨0, by omega, by simp⟩ (Ent.fr' ⟨(by kernel_rfl), (by kernel_rfl), (by kernel_rfl), (by kernel_rfl), trivial⟩ (by kernel_rfl)) ?_
    rintro ⟨i, hi, hpre⟩
    repeat first | refine opsStep ?_ | refine codeStep ?_ | refine drawStep ?_
    refine decB_split (fun h => ?_) (fun h => ?_)
    · have hia : i < a.length := by simpa using h
      obtain ⟨g1, g2⟩ := cc3_get (List.getElem?_eq_getElem hia)
      obtain ⟨g3, g4⟩ := cc3_get (List.getElem?_eq_getElem (show i < b.length by omega))
      have he : EqlE Try.prog 92 (((cc3 a).drop (i * 3)).take 3) (((cc3 b).drop (i * 3)).take 3) (decide (a[i] = b[i])) := by rw [g1, g3]; exact eqlC (oa _ (List.getElem_mem hia)) (ob _ (List.getElem_mem (show i < b.length by omega)))
      repeat first | refine opsStep ?_ | refine codeStep ?_ | refine drawStep ?_
      refine SW.drawn rfl (by kernel_rfl) ?_
      repeat first | refine opsStep ?_ | refine codeStep ?_ | refine drawStep ?_
      refine guardE_of (by simp; omega) ?_
      repeat first | refine opsStep ?_ | refine codeStep ?_ | refine drawStep ?_
      refine guardE_of g2 ?_
      repeat first | refine opsStep ?_ | refine codeStep ?_ | refine drawStep ?_
      refine guardE_of (by simp; omega) ?_
      repeat first | refine opsStep ?_ | refine codeStep ?_ | refine drawStep ?_
      refine guardE_of g4 ?_
      repeat first | refine opsStep ?_ | refine codeStep ?_ | refine drawStep ?_
      refine ⟨_, he, ?_⟩
      repeat first | refine opsStep ?_ | refine codeStep ?_ | refine drawStep ?_
      refine ⟨by kernel_rfl, ?_⟩
      repeat first | refine opsStep ?_ | refine codeStep ?_ | refine drawStep ?_
      refine decB_split (fun h => ?_) (fun h => ?_)
      · repeat first | refine opsStep ?_ | refine codeStep ?_ | refine drawStep ?_
        exact finB rfl (by simp at h; simp; rintro rfl; exact h rfl)
      · repeat first | refine opsStep ?_ | refine codeStep ?_ | refine drawStep ?_
        refine ⟨⟨i + 1, by omega, ?_⟩, (by show a.length - (i + 1) < a.length - i; omega), Ent.fr' ⟨(by kernel_rfl), (by kernel_rfl), (by kernel_rfl), inc_slot (i := i) (by omega), trivial⟩ (by kernel_rfl)⟩
        rw [List.take_succ_eq_append_getElem hia, List.take_succ_eq_append_getElem (hl ▸ hia), hpre]
        simp at h; rw [h]
    · repeat first | refine opsStep ?_ | refine codeStep ?_ | refine drawStep ?_
      have : i = a.length := by simp at h; omega
      exact finB rfl (by subst this; rw [List.take_length, hl, List.take_length] at hpre; simpa using hpre)

theorem cmp_isNaN_I (x : Int) : Pure Try.prog 106 [.int .i64 x] (.bool false) := by
  refine Pure.of_sw 6 Try.func106 rfl Try.ntmps106 (by kernel_rfl) (Nat.le_of_ble_eq_true (by kernel_rfl)) (by simp [closeds, AV.closed, aSs_closed, aIs_closed, aBs_closed, aRs_closed, aDen_closed]) (by simp [AV.closed, closeds, aSs_closed, aIs_closed, aBs_closed, aRs_closed, aDen_closed]) ?_; refine SW.of_vc ?_
  repeat first | refine opsStep ?_ | refine codeStep ?_ | refine drawStep ?_
  exact finB (b' := decide (x ≠ x)) (by kernel_rfl) (by simp)
theorem cmp_Less_I (x y : Int) : Pure Try.prog 142 [.int .i64 x, .int .i64 y] (.bool (decide (x < y))) := by
  refine Pure.of_sw 17 Try.func142 rfl Try.ntmps142 (by kernel_rfl) (Nat.le_of_ble_eq_true (by kernel_rfl)) (by simp [closeds, AV.closed, aSs_closed, aIs_closed, aBs_closed, aRs_closed, aDen_closed]) (by simp [AV.closed, closeds, aSs_closed, aIs_closed, aBs_closed, aRs_closed, aDen_closed]) ?_; refine SW.of_vc ?_
  repeat first | refine opsStep ?_ | refine codeStep ?_ | refine drawStep ?_
  refine callP (cmp_isNaN_I x) ?_
  repeat first | refine opsStep ?_ | refine codeStep ?_ | refine drawStep ?_
  exact finB (b' := decide (x < y)) (by kernel_rfl) rfl

theorem slices_IsSorted_I (k : SK) (l : List Int) (hl : l.length < 2^60) : Pure Try.prog 108 [aIs k l] (.bool (sortedI l)) := by
  refine Pure.of_sw 21 Try.func108 rfl Try.ntmps108 (by kernel_rfl) (Nat.le_of_ble_eq_true (by kernel_rfl)) (by simp [closeds, AV.closed, aSs_closed, aIs_closed, aBs_closed, aRs_closed, aDen_closed]) (by simp [AV.closed, closeds, aSs_closed, aIs_closed, aBs_closed, aRs_closed, aDen_closed]) ?_; refine SW.of_vc ?_
  repeat first | refine opsStep ?_ | refine codeStep ?_ | refine drawStep ?_
  refine loopE_of (ι := {j : Nat // j ≤ l.length ∧ ∀ i, j ≤ i + 1 → ∀ h : i + 1 < l.length, l[i] ≤ l[i + 1]}) (fun j => (fr [(0, aIs k l), (3, .int .i64 ((j.1 : Int) - 1))], [])) (fun j => j.1) ⟨l.length, by omega, fun i h h' => by omega⟩ (Ent.fr' ⟨(by kernel_rfl), dec_slot' (by omega), trivial⟩ (by kernel_rfl)) ?_
  rintro ⟨j, hj, hpre⟩
  repeat first | refine opsStep ?_ | refine codeStep ?_ | refine drawStep ?_
  refine decB_dec (fun h => ?_) (fun h => ?_)
  · have hj2 : 2 ≤ j := by have := h; simp at this; omega
    have hws : IntKind.wrap .i64 ((j : Int) - 1 - 1) = ((j - 2 : Nat) : Int) := by rw [IntWalk.i64_in _ (by omega)]; omega
    have hLs := cmp_Less_I l[j - 1] l[j - 2]
    repeat first | refine opsStep ?_ | refine codeStep ?_ | refine drawStep ?_
    refine SW.drawn rfl (by kernel_rfl) ?_
    repeat first | refine opsStep ?_ | refine codeStep ?_ | refine drawStep ?_
    refine guardE_of (by simp; omega) ?_
    repeat first | refine opsStep ?_ | refine codeStep ?_ | refine drawStep ?_
    refine optE_of (c := .int .i64 l[j - 1]) (by rw [show ((j : Int) - 1).toNat = j - 1 by omega]; simp [Value.cells, show j - 1 < l.length by omega]) ?_
    repeat first | refine opsStep ?_ | refine codeStep ?_ | refine drawStep ?_
    refine guardE_of (by rw [hws]; omega) ?_
    repeat first | refine opsStep ?_ | refine codeStep ?_ | refine drawStep ?_
    refine optE_of (c := .int .i64 l[j - 2]) (by rw [hws]; simp [Value.cells, show j - 2 < l.length by omega]) ?_
    repeat first | refine opsStep ?_ | refine codeStep ?_ | refine drawStep ?_
    refine .inl ⟨_, _, [], hLs, RdsN_refl _, .inr rfl, none_need, ?_⟩
    repeat first | refine opsStep ?_ | refine codeStep ?_ | refine drawStep ?_
    refine ⟨by kernel_rfl, ?_⟩
    repeat first | refine opsStep ?_ | refine codeStep ?_ | refine drawStep ?_
    refine decB_dec (fun h2 => ?_) (fun h2 => ?_)
    · repeat first | refine opsStep ?_ | refine codeStep ?_ | refine drawStep ?_
      refine finB (b' := false) (by kernel_rfl) ?_
      cases hs : sortedI l with
      | false => rfl
      | true =>
        have := sorted_get hs (j - 2) (by omega)
        simp only [show j - 2 + 1 = j - 1 by omega] at this
        omega
    · repeat first | refine opsStep ?_ | refine codeStep ?_ | refine drawStep ?_
      refine ⟨⟨j - 1, by omega, fun i hi h' => ?_⟩, (by show j - 1 < j; omega), Ent.fr' ⟨(by kernel_rfl), ?_, trivial⟩ (by kernel_rfl)⟩
      · by_cases e : j ≤ i + 1
        · exact hpre i e h'
        · have e : i = j - 2 := by omega
          subst e
          simp only [show j - 2 + 1 = j - 1 by omega]
          omega
      · show AV.int .i64 (IntKind.wrap .i64 ((j : Int) - 1 - 1)) = AV.int .i64 (((j - 1 : Nat) : Int) - 1)
        rw [hws]; congr 1; omega
  · repeat first | refine opsStep ?_ | refine codeStep ?_ | refine drawStep ?_
    have : j ≤ 1 := by have := h; simp at this; omega
    exact finB (b' := true) (by kernel_rfl) (sorted_of fun i h => hpre i (by omega) h).symm

theorem row_At (k : SK) (cs : List Cb) (i : Int) (hl : cs.length < 2^60) : Pure Try.prog 110 [aCs k cs, .int .i64 i] (.tup [.int .i64 ((atC cs i).getD 0), .bool (atC cs i).isSome]) := by
  refine Pure.of_sw 24 Try.func110 rfl Try.ntmps110 (by kernel_rfl) (Nat.le_of_ble_eq_true (by kernel_rfl)) (by simp [closeds, AV.closed, aSs_closed, aIs_closed, aBs_closed, aRs_closed, aDen_closed, aCs_closed, aAut_closed]) (by simp [AV.closed, closeds, aSs_closed, aIs_closed, aBs_closed, aRs_closed, aDen_closed, aCs_closed, aAut_closed]) ?_; refine SW.of_vc ?_
  repeat first | refine opsStep ?_ | refine codeStep ?_ | refine drawStep ?_
  refine loopE_of (ι := {j : Nat // j ≤ cs.length ∧ ∀ j' (h : j' < cs.length), j' < j → hitC i cs[j'] = false}) (fun j => (fr [(1, .int .i64 i), (8, aCs k cs), (9, .int .i64 cs.length), (10, .int .i64 j.1)], [])) (fun j => cs.length - j.1) ⟨0, by omega, fun _ _ h => by omega⟩ (Ent.fr' ⟨(by kernel_rfl), (by kernel_rfl), (by kernel_rfl), (by kernel_rfl), trivial⟩ (by kernel_rfl)) ?_
  rintro ⟨j, hj, hpre⟩
  repeat first | refine opsStep ?_ | refine codeStep ?_ | refine drawStep ?_
  refine decB_dec (fun h => ?_) (fun h => ?_)
  · have hja : j < cs.length := by have := h; simp at this; omega
    obtain ⟨g1, g2⟩ := cc3_get (List.getElem?_eq_getElem hja)
    repeat first | refine opsStep ?_ | refine codeStep ?_ | refine drawStep ?_
    refine guardE_of (by simp; omega) ?_
    repeat first | refine opsStep ?_ | refine codeStep ?_ | refine drawStep ?_
    refine guardE_of g2 ?_
    repeat first | refine opsStep ?_ | refine codeStep ?_ | refine drawStep ?_
    refine guardE_of ⟨by show (((cc3 cs).drop (j * 3)).take 3).length = 3; rw [g1]; rfl, by decide, by decide⟩ ?_
    iterate 1 refine opsStep ?_
    refine VCode.ent (Ent.fr' (l := [(1, .int .i64 i), (8, aCs k cs), (9, .int .i64 cs.length), (10, .int .i64 j), (7, .ref 0 0 0)]) (H' := [.cells 0 (cb3 cs[j])]) ⟨(by kernel_rfl), (by kernel_rfl), (by kernel_rfl), (by kernel_rfl), (by kernel_rfl), trivial⟩ (Eq.trans (b := [.cells 0 (over [.int .i64 0, .int .i64 0, .int .i64 0] 0 (((cc3 cs).drop (j * 3)).take 3))]) (by kernel_rfl) (by rw [g1]; rfl))) ?_
    repeat first | refine opsStep ?_ | refine codeStep ?_ | refine drawStep ?_
    refine decB_dec (fun hh => ?_) (fun hh => ?_)
    · have hh : hitC i cs[j] = true := decide_eq_true hh
      repeat first | refine opsStep ?_ | refine codeStep ?_ | refine drawStep ?_
      exact finV (v' := .tup [.int .i64 (cs[j]).2.2, .bool true]) (by kernel_rfl) (by rw [atC_find hja (fun j' h' => hpre j' (by omega) h') hh]; rfl)
    · have hh : hitC i cs[j] = false := decide_eq_false hh
      repeat first | refine opsStep ?_ | refine codeStep ?_ | refine drawStep ?_
      refine ⟨⟨j + 1, by omega, fun j' h' hlt => ?_⟩, (by show cs.length - (j + 1) < cs.length - j; omega), Ent.frD (X := [.cells 0 (cb3 cs[j])]) ⟨(by kernel_rfl), (by kernel_rfl), (by kernel_rfl), inc_slot (i := j) (by omega), trivial⟩ (by kernel_rfl) (Nat.le_of_ble_eq_true (by kernel_rfl)) (by first | (simp [frBel, blksBel, Blk.bel, AV.bel, bels, bels_append, bels_map, aSs_bel, aIs_bel, aBs_bel, aRs_bel, aDen_bel, cells_bel]; done) | (simp only [List.drop_zero, ← List.map_take, ← List.map_drop, List.map_map, frBel, blksBel, Blk.bel, AV.bel, bels, bels_append, bels_map, aSs_bel, aIs_bel, aBs_bel, aRs_bel, aDen_bel, cells_bel]; simp [AV.bel, aSs_bel, aIs_bel, aBs_bel, aRs_bel, aDen_bel, cells_bel])) (by first | (simp [frBel, blksBel, Blk.bel, AV.bel, bels, bels_append, bels_map, aSs_bel, aIs_bel, aBs_bel, aRs_bel, aDen_bel, cells_bel]; done) | (simp only [List.drop_zero, ← List.map_take, ← List.map_drop, List.map_map, frBel, blksBel, Blk.bel, AV.bel, bels, bels_append, bels_map, aSs_bel, aIs_bel, aBs_bel, aRs_bel, aDen_bel, cells_bel]; simp [AV.bel, aSs_bel, aIs_bel, aBs_bel, aRs_bel, aDen_bel, cells_bel]))⟩
      by_cases e : j' = j
      · subst e; exact hh
      · exact hpre j' h' (by omega)
  · repeat first | refine opsStep ?_ | refine codeStep ?_ | refine drawStep ?_
    have : j = cs.length := by have := h; simp at this; omega
    exact finV (v' := .tup [.int .i64 0, .bool false]) (by kernel_rfl) (by rw [atC_none fun j' h' => hpre j' h' (by omega)]; rfl)

end Tab

/- Rows: right, their leaves, Pack, Unpack, Right. -/
namespace Tab
open Go Go.Proofs
set_option maxRecDepth 10000
set_option linter.unusedVariables false
set_option linter.unusedSimpArgs false
set_option linter.unusedSectionVars false

theorem row_right (k : SK) (r : List Int) (K : Nat) (hK : K ≤ 6) (hl : r.length = 2 ^ K) : Pure Try.prog 143 [aIs k r] (.bool (r.all fun x => decide (0 ≤ x))) := by
  have hp : 0 < 2 ^ K := Nat.two_pow_pos _
  have hb : 2 ^ K ≤ 2 ^ 6 := Nat.pow_le_pow_right (by omega) hK
  match r, hl with
  | [], hl => simp at hl; omega
  | a :: l, hl =>
  have hm := slices_Min k a l (by simp at hl; omega)
  have hz : ((a :: l).all fun x => decide (0 ≤ x)) = decide (minL a l ≥ 0) := by
    have := minL_lt l a
    rw [Bool.eq_iff_iff, List.all_eq_true, decide_eq_true_eq]
    constructor
    · intro h
      have : ¬ minL a l < 0 := fun k => by
        obtain ⟨x, hx, h2⟩ := this.1 k
        have := h x hx
        simp at this; omega
      omega
    · intro h x hx
      rw [decide_eq_true_eq]
      have : ¬ x < 0 := fun k => by have := this.2 ⟨x, hx, k⟩; omega
      omega
  rw [hz]
  generalize minL a l = m at *
  have he : ∀ N, (a :: l).length = N → aIs k (a :: l) = .sl k N ((a :: l).map (.int .i64)) := fun N h => by rw [aIs, h]
  have hc : K = 0 ∨ K = 1 ∨ K = 2 ∨ K = 3 ∨ K = 4 ∨ K = 5 ∨ K = 6 := by omega
  rcases hc with rfl | rfl | rfl | rfl | rfl | rfl | rfl
  · have hN : (a :: l).length = 1 := hl
    rw [he 1 hN] at hm
    refine Pure.of_sw 24 Try.func143 rfl Try.ntmps143 (by kernel_rfl) (Nat.le_of_ble_eq_true (by kernel_rfl)) (by simp [closeds, AV.closed, aSs_closed, aIs_closed, aBs_closed, aRs_closed, aDen_closed]) (by simp [AV.closed, closeds, aSs_closed, aIs_closed, aBs_closed, aRs_closed, aDen_closed]) ?_; refine SW.of_vc ?_
    refine VCode.ent (Ent.fr' (l := [(0, .sl k 1 ((a :: l).map (.int .i64)))]) (H' := []) ⟨he 1 hN, trivial⟩ (by kernel_rfl)) ?_
    repeat first | refine opsStep ?_ | refine codeStep ?_ | refine drawStep ?_
    refine callP hm ?_
    repeat first | refine opsStep ?_ | refine codeStep ?_ | refine drawStep ?_
    exact finB (b' := decide (m ≥ 0)) (by kernel_rfl) rfl
  · have hN : (a :: l).length = 2 := hl
    rw [he 2 hN] at hm
    refine Pure.of_sw 24 Try.func143 rfl Try.ntmps143 (by kernel_rfl) (Nat.le_of_ble_eq_true (by kernel_rfl)) (by simp [closeds, AV.closed, aSs_closed, aIs_closed, aBs_closed, aRs_closed, aDen_closed]) (by simp [AV.closed, closeds, aSs_closed, aIs_closed, aBs_closed, aRs_closed, aDen_closed]) ?_; refine SW.of_vc ?_
    refine VCode.ent (Ent.fr' (l := [(0, .sl k 2 ((a :: l).map (.int .i64)))]) (H' := []) ⟨he 2 hN, trivial⟩ (by kernel_rfl)) ?_
    repeat first | refine opsStep ?_ | refine codeStep ?_ | refine drawStep ?_
    refine callP hm ?_
    repeat first | refine opsStep ?_ | refine codeStep ?_ | refine drawStep ?_
    exact finB (b' := decide (m ≥ 0)) (by kernel_rfl) rfl
  · have hN : (a :: l).length = 4 := hl
    rw [he 4 hN] at hm
    refine Pure.of_sw 24 Try.func143 rfl Try.ntmps143 (by kernel_rfl) (Nat.le_of_ble_eq_true (by kernel_rfl)) (by simp [closeds, AV.closed, aSs_closed, aIs_closed, aBs_closed, aRs_closed, aDen_closed]) (by simp [AV.closed, closeds, aSs_closed, aIs_closed, aBs_closed, aRs_closed, aDen_closed]) ?_; refine SW.of_vc ?_
    refine VCode.ent (Ent.fr' (l := [(0, .sl k 4 ((a :: l).map (.int .i64)))]) (H' := []) ⟨he 4 hN, trivial⟩ (by kernel_rfl)) ?_
    repeat first | refine opsStep ?_ | refine codeStep ?_ | refine drawStep ?_
    refine callP hm ?_
    repeat first | refine opsStep ?_ | refine codeStep ?_ | refine drawStep ?_
    exact finB (b' := decide (m ≥ 0)) (by kernel_rfl) rfl
  · have hN : (a :: l).length = 8 := hl
    rw [he 8 hN] at hm
    refine Pure.of_sw 24 Try.func143 rfl Try.ntmps143 (by kernel_rfl) (Nat.le_of_ble_eq_true (by kernel_rfl)) (by simp [closeds, AV.closed, aSs_closed, aIs_closed, aBs_closed, aRs_closed, aDen_closed]) (by simp [AV.closed, closeds, aSs_closed, aIs_closed, aBs_closed, aRs_closed, aDen_closed]) ?_; refine SW.of_vc ?_
    refine VCode.ent (Ent.fr' (l := [(0, .sl k 8 ((a :: l).map (.int .i64)))]) (H' := []) ⟨he 8 hN, trivial⟩ (by kernel_rfl)) ?_
    repeat first | refine opsStep ?_ | refine codeStep ?_ | refine drawStep ?_
    refine callP hm ?_
    repeat first | refine opsStep ?_ | refine codeStep ?_ | refine drawStep ?_
    exact finB (b' := decide (m ≥ 0)) (by kernel_rfl) rfl
  · have hN : (a :: l).length = 16 := hl
    rw [he 16 hN] at hm
    refine Pure.of_sw 24 Try.func143 rfl Try.ntmps143 (by kernel_rfl) (Nat.le_of_ble_eq_true (by kernel_rfl)) (by simp [closeds, AV.closed, aSs_closed, aIs_closed, aBs_closed, aRs_closed, aDen_closed]) (by simp [AV.closed, closeds, aSs_closed, aIs_closed, aBs_closed, aRs_closed, aDen_closed]) ?_; refine SW.of_vc ?_
    refine VCode.ent (Ent.fr' (l := [(0, .sl k 16 ((a :: l).map (.int .i64)))]) (H' := []) ⟨he 16 hN, trivial⟩ (by kernel_rfl)) ?_
    repeat first | refine opsStep ?_ | refine codeStep ?_ | refine drawStep ?_
    refine callP hm ?_
    repeat first | refine opsStep ?_ | refine codeStep ?_ | refine drawStep ?_
    exact finB (b' := decide (m ≥ 0)) (by kernel_rfl) rfl
  · have hN : (a :: l).length = 32 := hl
    rw [he 32 hN] at hm
    refine Pure.of_sw 24 Try.func143 rfl Try.ntmps143 (by kernel_rfl) (Nat.le_of_ble_eq_true (by kernel_rfl)) (by simp [closeds, AV.closed, aSs_closed, aIs_closed, aBs_closed, aRs_closed, aDen_closed]) (by simp [AV.closed, closeds, aSs_closed, aIs_closed, aBs_closed, aRs_closed, aDen_closed]) ?_; refine SW.of_vc ?_
    refine VCode.ent (Ent.fr' (l := [(0, .sl k 32 ((a :: l).map (.int .i64)))]) (H' := []) ⟨he 32 hN, trivial⟩ (by kernel_rfl)) ?_
    repeat first | refine opsStep ?_ | refine codeStep ?_ | refine drawStep ?_
    refine callP hm ?_
    repeat first | refine opsStep ?_ | refine codeStep ?_ | refine drawStep ?_
    exact finB (b' := decide (m ≥ 0)) (by kernel_rfl) rfl
  · have hN : (a :: l).length = 64 := hl
    rw [he 64 hN] at hm
    refine Pure.of_sw 24 Try.func143 rfl Try.ntmps143 (by kernel_rfl) (Nat.le_of_ble_eq_true (by kernel_rfl)) (by simp [closeds, AV.closed, aSs_closed, aIs_closed, aBs_closed, aRs_closed, aDen_closed]) (by simp [AV.closed, closeds, aSs_closed, aIs_closed, aBs_closed, aRs_closed, aDen_closed]) ?_; refine SW.of_vc ?_
    refine VCode.ent (Ent.fr' (l := [(0, .sl k 64 ((a :: l).map (.int .i64)))]) (H' := []) ⟨he 64 hN, trivial⟩ (by kernel_rfl)) ?_
    repeat first | refine opsStep ?_ | refine codeStep ?_ | refine drawStep ?_
    refine callP hm ?_
    repeat first | refine opsStep ?_ | refine codeStep ?_ | refine drawStep ?_
    exact finB (b' := decide (m ≥ 0)) (by kernel_rfl) rfl

theorem row_leaf (c : Cb) (L : List Cb) (hL : L.length < 2^40) : ACall Try.prog 145 [.agg (cb3 c), .ref 0 0 0] [Blk.cells 0 [.hs 1 (L).length 0 (L).length 3], .cells (L).length (cc3 (L))] fun o H' => o = .ret (.tup []) ∧ H' = [Blk.cells 0 [.hs 1 (L ++ [c]).length 0 (L ++ [c]).length 3], .cells (L ++ [c]).length (cc3 (L ++ [c]))] := by
  have hl : (L ++ [c]).length = L.length + 1 := by simp
  have hcc : (cc3 L).length = L.length * 3 := cc3_length L
  refine ACall.of_sw 7 Try.func145 rfl Try.ntmps145 (by kernel_rfl) (Nat.le_of_ble_eq_true (by kernel_rfl)) ?_; refine SW.of_vc ?_
  repeat first | refine opsStep ?_ | refine codeStep ?_ | refine drawStep ?_
  refine guardE_of ⟨rfl, by show 0 + L.length * 3 ≤ (cc3 L).length; omega⟩ ?_
  repeat first | refine opsStep ?_ | refine codeStep ?_ | refine drawStep ?_
  refine guardE_of rfl ?_
  repeat first | refine opsStep ?_ | refine codeStep ?_ | refine drawStep ?_
  refine guardE_of ⟨by omega, by show (L.length + 1) * 24 ≤ 140737488355328; omega⟩ ?_
  repeat first | refine opsStep ?_ | refine codeStep ?_ | refine drawStep ?_
  refine finR (l := []) (H₁ := [Blk.cells 0 [.hs 1 (L ++ [c]).length 0 (L ++ [c]).length 3], .cells (L ++ [c]).length (cc3 (L ++ [c]))] ++ [.cells 0 (cb3 c), .cells 0 (cb3 c)]) (v := .tup []) trivial (Eq.trans (b := [.cells 0 [.hs 1 (L.length + 1) 0 (L.length + 1) 3], .cells (L.length + 1) (((cc3 L).drop 0).take (L.length * 3) ++ cb3 c), .cells 0 (cb3 c), .cells 0 (cb3 c)]) (by kernel_rfl) ?_) (Ent.drop (Nat.le_of_ble_eq_true (by kernel_rfl)) trivial ?_) (by kernel_rfl) ⟨rfl, rfl⟩
  · rw [hl, List.drop_zero, List.take_of_length_le (by omega), cc3_append]; simp [cc3]
  · simp [blksBel, Blk.bel, bels, AV.bel, closeds_bel _ (cc3_closed _)]

theorem or_pow {m k : Nat} (h : 2 ^ (k + 1) ∣ m) (hm : m ≤ 1000) (hk : k ≤ 6) : AV.int .i64 (orI m ((2 ^ k : Nat) : Int)) = AV.int .i64 ((m + 2 ^ k : Nat) : Int) := by
  have hb : 2 ^ k ≤ 2 ^ 6 := Nat.pow_le_pow_right (by omega) hk
  rw [orI_nat (by omega) (by omega), or_add h]

theorem row_leaves : ∀ (K : Nat), K ≤ 6 → ∀ (kk : SK) (r : List Int) (m b : Nat) (L : List Cb), r.length = 2 ^ K → 2 ^ K ∣ m → 2 ^ K ∣ b → m + 64 * K ≤ 1000 → b + 64 * K ≤ 1000 → L.length + 2 ^ K ≤ 2 ^ 40 →
    ACall Try.prog 144 [aIs kk r, .int .i64 m, .int .i64 b, .fn (.func 145) [] [.ref 0 0 0]] [Blk.cells 0 [.hs 1 (L).length 0 (L).length 3], .cells (L).length (cc3 (L))] fun o H' => o = .ret (.tup []) ∧ H' = [Blk.cells 0 [.hs 1 (L ++ cubR K r m b).length 0 (L ++ cubR K r m b).length 3], .cells (L ++ cubR K r m b).length (cc3 (L ++ cubR K r m b))]
  | 0, _, kk, r, m, b, L, hr, _, _, _, _, hL => by
    obtain ⟨x, rfl⟩ : ∃ x, r = [x] := by
      match r, hr with
      | [x], _ => exact ⟨x, rfl⟩
    have hlf := row_leaf ((m : Int), (b : Int), x) L (by omega)
    refine ACall.of_sw 58 Try.func144 rfl Try.ntmps144 (by kernel_rfl) (Nat.le_of_ble_eq_true (by kernel_rfl)) ?_; refine SW.of_vc ?_
    iterate 2 refine codeStep ?_
    iterate 5 refine opsStep ?_
    refine VCode.ent (Ent.fr' (l := [(0, aIs kk [x]), (1, .int .i64 m), (2, .int .i64 b), (3, .fn (.func 145) [] [.ref 0 0 0]), (8, .int .i64 0)]) (H' := [Blk.cells 0 [.hs 1 (L).length 0 (L).length 3], .cells (L).length (cc3 (L))]) ⟨(by kernel_rfl), (by kernel_rfl), (by kernel_rfl), (by kernel_rfl), (by kernel_rfl), trivial⟩ (by kernel_rfl)) ?_
    repeat first | refine opsStep ?_ | refine codeStep ?_ | refine drawStep ?_
    refine callH hlf ?_
    repeat first | refine opsStep ?_ | refine codeStep ?_ | refine drawStep ?_
    exact finR (l := []) (H₁ := [Blk.cells 0 [.hs 1 (L ++ [((m : Int), (b : Int), x)]).length 0 (L ++ [((m : Int), (b : Int), x)]).length 3], .cells (L ++ [((m : Int), (b : Int), x)]).length (cc3 (L ++ [((m : Int), (b : Int), x)]))]) (v := .tup []) trivial (by kernel_rfl) (Ent.refl _ _ _) (by kernel_rfl) ⟨rfl, rfl⟩
  | K + 1, hK, kk, r, m, b, L, hr, hdm, hdb, hm, hb, hL => by
    have hp : 2 ^ (K + 1) = 2 ^ K + 2 ^ K := by rw [Nat.pow_succ]; omega
    have hq : 2 ^ K ≤ 2 ^ 6 := Nat.pow_le_pow_right (by omega) (by omega)
    have hpos : 0 < 2 ^ K := Nat.two_pow_pos _
    have om := or_pow hdm (by omega) (show K ≤ 6 by omega)
    have ob := or_pow hdb (by omega) (show K ≤ 6 by omega)
    have hd : 2 ^ K ∣ 2 ^ (K + 1) := ⟨2, by omega⟩
    have i0 := row_leaves K (by omega) kk.cut (r.take (2 ^ K)) m b L (by simp; omega) (Nat.dvd_trans hd hdm) (Nat.dvd_trans hd hdb) (by omega) (by omega) (by omega)
    have hln := cubR_len K (r.take (2 ^ K)) (m + 2 ^ K) b
    have i1 := row_leaves K (by omega) kk.cut (r.take (2 ^ K)) (m + 2 ^ K) b L (by simp; omega) (Nat.dvd_add (Nat.dvd_trans hd hdm) (Nat.dvd_refl _)) (Nat.dvd_trans hd hdb) (by omega) (by omega) (by omega)
    have i2 := row_leaves K (by omega) kk.cut (r.drop (2 ^ K)) (m + 2 ^ K) (b + 2 ^ K) (L ++ cubR K (r.take (2 ^ K)) (m + 2 ^ K) b) (by simp; omega) (Nat.dvd_add (Nat.dvd_trans hd hdm) (Nat.dvd_refl _)) (Nat.dvd_add (Nat.dvd_trans hd hdb) (Nat.dvd_refl _)) (by omega) (by omega) (by rw [List.length_append]; omega)
    rw [← om] at i1 i2
    rw [← ob] at i2
    have hEq := slices_Equal_I kk.cut kk.cut (r.take (2 ^ K)) (r.drop (2 ^ K)) (by simp; omega) (by simp; omega)
    have hcub : cubR (K + 1) r m b = if r.take (2 ^ K) = r.drop (2 ^ K) then cubR K (r.take (2 ^ K)) m b else cubR K (r.take (2 ^ K)) (m + 2 ^ K) b ++ cubR K (r.drop (2 ^ K)) (m + 2 ^ K) (b + 2 ^ K) := rfl
    generalize cubR (K + 1) r m b = C at *
    generalize cubR K (r.take (2 ^ K)) (m + 2 ^ K) b = C1 at *
    generalize cubR K (r.drop (2 ^ K)) (m + 2 ^ K) (b + 2 ^ K) = C2 at *
    generalize cubR K (r.take (2 ^ K)) m b = C0 at *
    generalize 2 ^ K = h at *
    have e1 : aIs kk.cut (r.take h) = .sl kk.cut ((h : Int).toNat - (0 : Int).toNat) (((r.map (AV.int .i64)).drop ((0 : Int).toNat * 1)).take (((h : Int).toNat - (0 : Int).toNat) * 1)) := by
      rw [aIs]; simp; omega
    have e2 : aIs kk.cut (r.drop h) = .sl kk.cut ((r.length : Int).toNat - (h : Int).toNat) (((r.map (AV.int .i64)).drop ((h : Int).toNat * 1)).take (((r.length : Int).toNat - (h : Int).toNat) * 1)) := by
      rw [aIs]; simp; rw [List.take_of_length_le (by simp)]
    rw [e1, e2] at hEq
    rw [e1] at i0 i1
    rw [e2] at i2
    have hw : IntKind.wrap .i64 ((r.length : Int).tdiv 2) = (h : Int) := by
      rw [show (r.length : Int) = 2 * (h : Int) by omega, Int.mul_tdiv_cancel_left _ (by decide), IntWalk.i64_in _ (by omega)]
    refine ACall.of_sw 58 Try.func144 rfl Try.ntmps144 (by kernel_rfl) (Nat.le_of_ble_eq_true (by kernel_rfl)) ?_; refine SW.of_vc ?_
    iterate 2 refine codeStep ?_
    iterate 5 refine opsStep ?_
    refine VCode.ent (Ent.fr' (l := [(0, aIs kk r), (1, .int .i64 m), (2, .int .i64 b), (3, .fn (.func 145) [] [.ref 0 0 0]), (8, .int .i64 h)]) (H' := [Blk.cells 0 [.hs 1 (L).length 0 (L).length 3], .cells (L).length (cc3 (L))]) ⟨(by kernel_rfl), (by kernel_rfl), (by kernel_rfl), (by kernel_rfl), congrArg (AV.int .i64) hw, trivial⟩ (by kernel_rfl)) ?_
    repeat first | refine opsStep ?_ | refine codeStep ?_ | refine drawStep ?_
    refine decB_dec (fun h0 => ?_) (fun h0 => ?_)
    · exact absurd h0 (by omega)
    repeat first | refine opsStep ?_ | refine codeStep ?_ | refine drawStep ?_
    refine SW.drawn rfl (by kernel_rfl) ?_
    repeat first | refine opsStep ?_ | refine codeStep ?_ | refine drawStep ?_
    refine guardE_of (by simp; omega) ?_
    repeat first | refine opsStep ?_ | refine codeStep ?_ | refine drawStep ?_
    refine guardE_of (by simp; omega) ?_
    repeat first | refine opsStep ?_ | refine codeStep ?_ | refine drawStep ?_
    refine .inl ⟨_, _, [], hEq, RdsN_refl _, .inr rfl, none_need, ?_⟩
    repeat first | refine opsStep ?_ | refine codeStep ?_ | refine drawStep ?_
    refine ⟨by kernel_rfl, ?_⟩
    repeat first | refine opsStep ?_ | refine codeStep ?_ | refine drawStep ?_
    refine decB_dec (fun heq => ?_) (fun heq => ?_)
    · repeat first | refine opsStep ?_ | refine codeStep ?_ | refine drawStep ?_
      refine guardE_of (by simp; omega) ?_
      repeat first | refine opsStep ?_ | refine codeStep ?_ | refine drawStep ?_
      refine callH i0 ?_
      repeat first | refine opsStep ?_ | refine codeStep ?_ | refine drawStep ?_
      refine finR (l := []) (H₁ := [Blk.cells 0 [.hs 1 (L ++ C0).length 0 (L ++ C0).length 3], .cells (L ++ C0).length (cc3 (L ++ C0))]) (v := .tup []) trivial (by kernel_rfl) (Ent.refl _ _ _) (by kernel_rfl) ⟨rfl, ?_⟩
      rw [hcub, if_pos heq]
    · repeat first | refine opsStep ?_ | refine codeStep ?_ | refine drawStep ?_
      refine guardE_of (by simp; omega) ?_
      repeat first | refine opsStep ?_ | refine codeStep ?_ | refine drawStep ?_
      refine callH i1 ?_
      repeat first | refine opsStep ?_ | refine codeStep ?_ | refine drawStep ?_
      refine guardE_of (by simp; omega) ?_
      repeat first | refine opsStep ?_ | refine codeStep ?_ | refine drawStep ?_
      refine callH i2 ?_
      repeat first | refine opsStep ?_ | refine codeStep ?_ | refine drawStep ?_
      refine finR (l := []) (H₁ := [Blk.cells 0 [.hs 1 ((L ++ C1) ++ C2).length 0 ((L ++ C1) ++ C2).length 3], .cells ((L ++ C1) ++ C2).length (cc3 ((L ++ C1) ++ C2))]) (v := .tup []) trivial (by kernel_rfl) (Ent.refl _ _ _) (by kernel_rfl) ⟨rfl, ?_⟩
      rw [hcub, if_neg heq, List.append_assoc]

end Tab

/- Rows: Pack, Unpack, Right. -/
namespace Tab
open Go Go.Proofs
set_option maxRecDepth 10000
set_option linter.unusedVariables false
set_option linter.unusedSimpArgs false
set_option linter.unusedSectionVars false

theorem ints_cl (l : List Int) : closeds (l.map (.int .i64)) := aIs_closed .any l
theorem cubR_ok : ∀ (K : Nat), K ≤ 6 → ∀ (r : List Int) (m b : Nat), (∀ x ∈ r, okI x) → m + 64 * K ≤ 1000 → b + 64 * K ≤ 1000 → ∀ c ∈ cubR K r m b, okC c
  | 0, _, r, m, b, hr, hm, hb, c, hc => by
    simp only [cubR, List.mem_singleton] at hc
    subst hc
    refine ⟨⟨by show -(2 ^ 63) ≤ (m : Int); omega, by show (m : Int) < 2 ^ 63; omega⟩, ⟨by show -(2 ^ 63) ≤ (b : Int); omega, by show (b : Int) < 2 ^ 63; omega⟩, ?_⟩
    show okI (r.getD 0 0)
    cases r with
    | nil => exact ⟨by decide, by decide⟩
    | cons x r => exact hr x (by simp)
  | K + 1, hK, r, m, b, hr, hm, hb, c, hc => by
    have hq : 2 ^ K ≤ 2 ^ 6 := Nat.pow_le_pow_right (by omega) (by omega)
    have ht : ∀ x ∈ r.take (2 ^ K), okI x := fun x h => hr x (List.mem_of_mem_take h)
    have hd : ∀ x ∈ r.drop (2 ^ K), okI x := fun x h => hr x (List.mem_of_mem_drop h)
    rw [cubR] at hc
    split at hc
    · exact cubR_ok K (by omega) _ m b ht (by omega) (by omega) c hc
    · rcases List.mem_append.1 hc with hc | hc
      · exact cubR_ok K (by omega) _ _ b ht (by omega) (by omega) c hc
      · exact cubR_ok K (by omega) _ _ _ hd (by omega) (by omega) c hc
theorem atC_ok {cs : List Cb} (h : ∀ c ∈ cs, okC c) (i : Int) : okI ((atC cs i).getD 0) := by
  rw [atC]
  cases e : cs.find? (hitC i) with
  | none => exact ⟨by decide, by decide⟩
  | some c => exact (h c (List.mem_of_find?_eq_some e)).2.2
theorem rowC_ok {cs : List Cb} (h : ∀ c ∈ cs, okC c) (k : Nat) : ∀ x ∈ rowC cs k, okI x := by
  intro x hx
  obtain ⟨i, _, rfl⟩ := List.mem_map.1 hx
  exact atC_ok h i

theorem row_Pack_bad (k : SK) (r : List Int) (K : Nat) (hK : K ≤ 6) (hl : r.length = 2 ^ K) (h : (r.all fun x => decide (0 ≤ x)) = false) : Pure Try.prog 111 [aIs k r] (.tup [.sl .nil 0 [], .int .i64 3]) := by
  have hr := row_right k r K hK hl
  rw [h] at hr
  refine Pure.of_sw 12 Try.func111 rfl Try.ntmps111 (by kernel_rfl) (Nat.le_of_ble_eq_true (by kernel_rfl)) (by simp [closeds, AV.closed, aSs_closed, aIs_closed, aBs_closed, aRs_closed, aDen_closed]) (by simp [AV.closed, closeds, aSs_closed, aIs_closed, aBs_closed, aRs_closed, aDen_closed]) ?_; refine SW.of_vc ?_
  repeat first | refine opsStep ?_ | refine codeStep ?_ | refine drawStep ?_
  refine callP hr ?_
  repeat first | refine opsStep ?_ | refine codeStep ?_ | refine drawStep ?_
  exact finV (v' := .tup [.sl .nil 0 [], .int .i64 3]) (by kernel_rfl) rfl
theorem row_Pack_ok (k : SK) (r : List Int) (K : Nat) (hK : K ≤ 6) (hl : r.length = 2 ^ K) (h : (r.all fun x => decide (0 ≤ x)) = true) : Pure Try.prog 111 [aIs k r] (.tup [aCs .any (cubR K r 0 0), .int .i64 0]) := by
  have hr := row_right k r K hK hl
  rw [h] at hr
  have hq : 2 ^ K ≤ 2 ^ 6 := Nat.pow_le_pow_right (by omega) (by omega)
  have hlv := row_leaves K hK k r 0 0 [] hl (Nat.dvd_zero _) (Nat.dvd_zero _) (by omega) (by omega) (by simp; omega)
  rw [List.nil_append] at hlv
  generalize cubR K r 0 0 = C at *
  refine Pure.of_read (by simp [closeds, aIs_closed]) (by simp [AV.closed, closeds, aCs_closed]) (R := fun o H' => o = .ret (.tup [.hs 1 C.length 0 C.length 3, .int .i64 0]) ∧ H' = [Blk.cells 0 [.hs 1 (C).length 0 (C).length 3], .cells (C).length (cc3 (C))]) ?_ ?_
  · refine ACall.of_sw 12 Try.func111 rfl Try.ntmps111 (by kernel_rfl) (Nat.le_of_ble_eq_true (by kernel_rfl)) ?_; refine SW.of_vc ?_
    refine codeStep ?_
    refine codeStep ?_
    iterate 3 refine opsStep ?_
    refine VCode.upto (fr [(0, aIs k r)]) [] ?_ ?_
    · repeat first | refine opsStep ?_ | refine codeStep ?_ | refine drawStep ?_
      refine callP hr ?_
      repeat first | refine opsStep ?_ | refine codeStep ?_ | refine drawStep ?_
      show Ent _ _ _ _ _
      exact Ent.fr' ⟨(by kernel_rfl), trivial⟩ (by kernel_rfl)
    refine VCode.upto (fr [(0, aIs k r), (4, .ref 0 0 0)]) [.cells 0 [.hs 1 0 0 0 3], .cells 0 []] ?_ ?_
    · repeat first | refine opsStep ?_ | refine codeStep ?_ | refine drawStep ?_
      show Ent _ _ _ _ _
      exact ((Ent.fr' (l := [(0, aIs k r), (4, .ref 0 0 0)]) (H' := [.cells 0 [.sl .nil 0 []]]) ⟨(by kernel_rfl), (by kernel_rfl), trivial⟩ (by kernel_rfl)).trans (Ent.nilCell 0 0 3 rfl rfl)).to rfl
    repeat first | refine opsStep ?_ | refine codeStep ?_ | refine drawStep ?_
    refine callH hlv ?_
    repeat first | refine opsStep ?_ | refine codeStep ?_ | refine drawStep ?_
    exact finR (l := [(2, .hs 1 C.length 0 C.length 3), (3, .int .i64 0)]) (H₁ := [Blk.cells 0 [.hs 1 (C).length 0 (C).length 3], .cells (C).length (cc3 (C))]) (v := .tup [.hs 1 C.length 0 C.length 3, .int .i64 0]) ⟨(by kernel_rfl), (by kernel_rfl), trivial⟩ (by kernel_rfl) (Ent.refl _ _ _) (by kernel_rfl) ⟨rfl, rfl⟩
  · rintro o H' ⟨rfl, rfl⟩
    exact ⟨_, rfl, .tup (.cons (Rd.whole rfl (cc3_length C).symm) (.cons (.refl _) .nil))⟩

def rowU (cs : List Cb) (k : Nat) : AV := if cubesOk cs k = true then .tup [aIs .any (rowC cs k), .int .i64 0] else .tup [.sl .nil 0 [], .int .i64 3]
theorem cubesOk_iff {cs k} : cubesOk cs k = true ↔ cs.length ≤ 2 ^ k ∧ (∀ i : Nat, i < 2 ^ k → (atC cs i).isSome = true) ∧ ((rowC cs k).all fun x => decide (0 ≤ x)) = true ∧ cubR k (rowC cs k) 0 0 = cs := by
  simp only [cubesOk, Bool.and_eq_true, decide_eq_true_eq, List.all_eq_true, List.mem_range]
  exact ⟨fun ⟨⟨⟨h1, h2⟩, h3⟩, h4⟩ => ⟨h1, h2, h3, h4⟩, fun ⟨h1, h2, h3, h4⟩ => ⟨⟨⟨h1, h2⟩, h3⟩, h4⟩⟩

theorem row_Unpack (kc : SK) (cs : List Cb) (k : Nat) (hk : k ≤ 6) (hl : cs.length < 2^40) (ho : ∀ c ∈ cs, okC c) : Pure Try.prog 76 [aCs kc cs, .int .i64 k] (rowU cs k) := by
  have hq : 2 ^ k ≤ 2 ^ 6 := Nat.pow_le_pow_right (by omega) (by omega)
  have hb := shl_one (k := k) (by omega)
  have hat := fun i : Nat => row_At kc cs i (by omega)
  have hrl := rowC_length cs k
  have hio := cubesOk_iff (cs := cs) (k := k)
  have hpb := row_Pack_bad .any (rowC cs k) k hk hrl
  have hpo := row_Pack_ok .any (rowC cs k) k hk hrl
  have hE := slices_Equal_C .any kc (cubR k (rowC cs k) 0 0) cs (by have := (cubR_len k (rowC cs k) 0 0).1; omega) (by omega) (cubR_ok k hk _ 0 0 (rowC_ok ho k) (by omega) (by omega)) ho
  have hfull : partL (fun i => (atC cs i).getD 0) (2 ^ k) (2 ^ k) = rowC cs k := partL_full _ _
  have hR : aIs .any (rowC cs k) = .sl .any (2 ^ k) ((rowC cs k).map (.int .i64)) := by rw [aIs, hrl]
  have hv : rowU cs k = if cubesOk cs k = true then .tup [.sl .any (2 ^ k) ((rowC cs k).map (.int .i64)), .int .i64 0] else .tup [.sl .nil 0 [], .int .i64 3] := by rw [rowU, hR]
  rw [hR] at hpb hpo
  rw [hv]
  generalize cubR k (rowC cs k) 0 0 = C at *
  generalize rowC cs k = r at *
  generalize cubesOk cs k = ok at *
  generalize 2 ^ k = q at *
  refine Pure.of_read (by simp [closeds, aCs_closed, AV.closed]) (by split <;> simp [AV.closed, closeds, ints_cl]) (R := fun o H' => (ok = false ∧ o = .ret (.tup [.sl .nil 0 [], .int .i64 3])) ∨ (ok = true ∧ o = .ret (.tup [.hs 0 0 0 q 1, .int .i64 0]) ∧ H' = [.fro 0 (r.map (.int .i64))])) ?_ ?_
  · refine ACall.of_sw 59 Try.func76 rfl Try.ntmps76 (by kernel_rfl) (Nat.le_of_ble_eq_true (by kernel_rfl)) ?_; refine SW.of_vc ?_
    repeat first | refine opsStep ?_ | refine codeStep ?_ | refine drawStep ?_
    refine decB_dec (fun h => ?_) (fun h => ?_)
    · exact absurd h (by omega)
    repeat first | refine opsStep ?_ | refine codeStep ?_ | refine drawStep ?_
    refine decB_dec (fun h => ?_) (fun h => ?_)
    · repeat first | refine opsStep ?_ | refine codeStep ?_ | refine drawStep ?_
      refine finR (l := [(4, .sl .nil 0 []), (5, .int .i64 3)]) (H₁ := []) (v := .tup [.sl .nil 0 [], .int .i64 3]) ⟨(by kernel_rfl), (by kernel_rfl), trivial⟩ (by kernel_rfl) (Ent.refl _ _ _) (by kernel_rfl) (.inl ⟨?_, rfl⟩)
      rw [← Bool.not_eq_true, hio]
      rintro ⟨h1, _⟩
      rw [hb] at h; omega
    have hcl : cs.length ≤ q := by rw [hb] at h; omega
    repeat first | refine opsStep ?_ | refine codeStep ?_ | refine drawStep ?_
    refine guardE_of (by rw [hb]; exact ⟨by omega, by omega, by show (8 : Int) * (q : Int) ≤ 281474976710656; omega, by omega⟩) ?_
    repeat first | refine opsStep ?_ | refine codeStep ?_ | refine drawStep ?_
    refine loopE_of (ι := {a : Nat // a ≤ q ∧ ∀ i : Nat, i < a → (atC cs i).isSome = true})
      (fun a => (fr [(0, aCs kc cs), (7, .hs 0 0 0 q 1), (28, .int .i64 q), (29, .int .i64 a.1)], [.cells 0 ((partL (fun i => (atC cs i).getD 0) q a.1).map (.int .i64))]))
      (fun a => q - a.1) ⟨0, by omega, fun _ h => by omega⟩ (Ent.fr' ⟨(by kernel_rfl), ?_, ?_, (by kernel_rfl), trivial⟩ ?_) ?_
    · refine Eq.trans (b := .hs 0 0 0 (IntKind.wrap .i64 (1 * 2 ^ (min (k : Int).toNat (IntKind.bits .i64)))).toNat 1) (by kernel_rfl) ?_
      rw [hb]; rfl
    · refine Eq.trans (b := .int .i64 ((IntKind.wrap .i64 (1 * 2 ^ (min (k : Int).toNat (IntKind.bits .i64)))).toNat : Nat)) (by kernel_rfl) ?_
      rw [hb]; rfl
    · refine Eq.trans (b := [.cells 0 (reps [.int .i64 0] (IntKind.wrap .i64 (1 * 2 ^ (min (k : Int).toNat (IntKind.bits .i64)))).toNat)]) (by kernel_rfl) ?_
      rw [hb, reps_one, partL_zero]; simp
    rintro ⟨a, ha, hsome⟩
    repeat first | refine opsStep ?_ | refine codeStep ?_ | refine drawStep ?_
    refine decB_dec (fun g => ?_) (fun g => ?_)
    · have haq : a < q := by have := g; simp at this; omega
      have hat := hat a
      cases hx : atC cs a with
      | none =>
        rw [hx] at hat
        repeat first | refine opsStep ?_ | refine codeStep ?_ | refine drawStep ?_
        refine callP hat ?_
        repeat first | refine opsStep ?_ | refine codeStep ?_ | refine drawStep ?_
        refine finR (l := [(4, .sl .nil 0 []), (5, .int .i64 3)]) (H₁ := [.cells 0 ((partL (fun i => (atC cs i).getD 0) q a).map (.int .i64))]) (v := .tup [.sl .nil 0 [], .int .i64 3]) ⟨(by kernel_rfl), (by kernel_rfl), trivial⟩ (by kernel_rfl) (Ent.refl _ _ _) (by kernel_rfl) (.inl ⟨?_, rfl⟩)
        rw [← Bool.not_eq_true, hio]
        rintro ⟨_, h2, _⟩
        have := h2 a haq
        rw [hx] at this; simp at this
      | some x =>
        rw [hx] at hat
        repeat first | refine opsStep ?_ | refine codeStep ?_ | refine drawStep ?_
        refine callP hat ?_
        repeat first | refine opsStep ?_ | refine codeStep ?_ | refine drawStep ?_
        refine guardE_of (by simp; omega) ?_
        repeat first | refine opsStep ?_ | refine codeStep ?_ | refine drawStep ?_
        refine guardE_of ⟨rfl, by decide, by show 0 + a * 1 + 1 ≤ ((partL (fun i => (atC cs i).getD 0) q a).map (AV.int .i64)).length; simp [partL_length]; omega⟩ ?_
        repeat first | refine opsStep ?_ | refine codeStep ?_ | refine drawStep ?_
        refine ⟨⟨a + 1, by omega, fun i hi => ?_⟩, (by show q - (a + 1) < q - a; omega), Ent.fr' ⟨(by kernel_rfl), (by kernel_rfl), (by kernel_rfl), inc_slot (i := a) (by omega), trivial⟩ ?_⟩
        · by_cases e : i = a
          · subst e; rw [hx]; rfl
          · exact hsome i (by omega)
        · refine Eq.trans (b := [Blk.cells 0 (over ((partL (fun i => (atC cs i).getD 0) q a).map (.int .i64)) (0 + a * 1) [.int .i64 x])]) (by kernel_rfl) ?_
          show _ = [Blk.cells 0 ((partL (fun i => (atC cs i).getD 0) q (a + 1)).map (.int .i64))]
          rw [Nat.zero_add, Nat.mul_one, over_one (by simp [partL_length]; omega), ← partL_step, List.map_set, hx]
          rfl
    · have haq : a = q := by have := g; simp at this; omega
      subst haq
      rw [hfull]
      cases hp : r.all fun x => decide (0 ≤ x) with
      | false =>
        repeat first | refine opsStep ?_ | refine codeStep ?_ | refine drawStep ?_
        refine callZ 0 (g := 0) (cs := r.map (.int .i64)) (by kernel_rfl) (hpb hp) (.hs (b := 0) (g := 0) rfl (by simp [hrl]) .nil) ?_
        repeat first | refine opsStep ?_ | refine codeStep ?_ | refine drawStep ?_
        refine finR (l := [(4, .sl .nil 0 []), (5, .int .i64 3)]) (H₁ := [.fro 0 (r.map (.int .i64))]) (v := .tup [.sl .nil 0 [], .int .i64 3]) ⟨(by kernel_rfl), (by kernel_rfl), trivial⟩ (by kernel_rfl) (Ent.refl _ _ _) (by kernel_rfl) (.inl ⟨?_, rfl⟩)
        rw [← Bool.not_eq_true, hio]
        rintro ⟨_, _, h3, _⟩
        rw [hp] at h3; simp at h3
      | true =>
        repeat first | refine opsStep ?_ | refine codeStep ?_ | refine drawStep ?_
        refine callZ 0 (g := 0) (cs := r.map (.int .i64)) (by kernel_rfl) (hpo hp) (.hs (b := 0) (g := 0) rfl (by simp [hrl]) .nil) ?_
        repeat first | refine opsStep ?_ | refine codeStep ?_ | refine drawStep ?_
        by_cases he : C = cs
        · rw [decide_eq_true he] at hE
          refine callP hE ?_
          repeat first | refine opsStep ?_ | refine codeStep ?_ | refine drawStep ?_
          refine finR (l := [(4, .hs 0 0 0 a 1), (5, .int .i64 0)]) (H₁ := [.fro 0 (r.map (.int .i64))]) (v := .tup [.hs 0 0 0 a 1, .int .i64 0]) ⟨(by kernel_rfl), (by kernel_rfl), trivial⟩ (by kernel_rfl) (Ent.refl _ _ _) (by kernel_rfl) (.inr ⟨hio.2 ⟨hcl, hsome, hp, he⟩, rfl, rfl⟩)
        · rw [decide_eq_false he] at hE
          refine callP hE ?_
          repeat first | refine opsStep ?_ | refine codeStep ?_ | refine drawStep ?_
          refine finR (l := [(4, .sl .nil 0 []), (5, .int .i64 3)]) (H₁ := [.fro 0 (r.map (.int .i64))]) (v := .tup [.sl .nil 0 [], .int .i64 3]) ⟨(by kernel_rfl), (by kernel_rfl), trivial⟩ (by kernel_rfl) (Ent.refl _ _ _) (by kernel_rfl) (.inl ⟨?_, rfl⟩)
          rw [← Bool.not_eq_true, hio]
          rintro ⟨_, _, _, h4⟩
          exact he h4
  · rintro o H' (⟨h, rfl⟩ | ⟨h, rfl, rfl⟩)
    · exact ⟨_, rfl, by rw [h]; exact .refl _⟩
    · refine ⟨_, rfl, ?_⟩
      rw [h]
      exact .tup (.cons (Rd.frozen rfl (by simp [hrl])) (.cons (.refl _) .nil))

end Tab

/- Tables: rowOf, Check, Unpack. -/
namespace Tab
open Go Go.Proofs
set_option maxRecDepth 10000
set_option linter.unusedVariables false
set_option linter.unusedSimpArgs false
set_option linter.unusedSectionVars false

theorem rowU_ok {cs k} (h : cubesOk cs k = true) : rowU cs k = .tup [aIs .any (rowC cs k), .int .i64 0] := by rw [rowU, if_pos h]
theorem rowU_bad {cs k} (h : cubesOk cs k = false) : rowU cs k = .tup [.sl .nil 0 [], .int .i64 3] := by rw [rowU, h]; rfl
theorem row_Right (kc : SK) (cs : List Cb) (k n : Nat) (hk : k ≤ 6) (hl : cs.length < 2^40) (ho : ∀ c ∈ cs, okC c) : Pure Try.prog 109 [aCs kc cs, .int .i64 k, .int .i64 n] (.bool (cubesOk cs k && (rowC cs k).all fun x => decide (x < n))) := by
  have hu := row_Unpack kc cs k hk hl ho
  have hq : 2 ^ k ≤ 2 ^ 6 := Nat.pow_le_pow_right (by omega) (by omega)
  have hp : 0 < 2 ^ k := Nat.two_pow_pos _
  have hrl := rowC_length cs k
  cases hc : cubesOk cs k with
  | false =>
    rw [rowU_bad hc] at hu
    refine Pure.of_sw 23 Try.func109 rfl Try.ntmps109 (by kernel_rfl) (Nat.le_of_ble_eq_true (by kernel_rfl)) (by simp [closeds, AV.closed, aSs_closed, aIs_closed, aBs_closed, aRs_closed, aDen_closed, aCs_closed, aAut_closed]) (by simp [AV.closed, closeds, aSs_closed, aIs_closed, aBs_closed, aRs_closed, aDen_closed, aCs_closed, aAut_closed]) ?_; refine SW.of_vc ?_
    repeat first | refine opsStep ?_ | refine codeStep ?_ | refine drawStep ?_
    refine callP hu ?_
    repeat first | refine opsStep ?_ | refine codeStep ?_ | refine drawStep ?_
    exact finB (b' := false) (by kernel_rfl) (by simp)
  | true =>
    rw [rowU_ok hc] at hu
    obtain ⟨x, l, hr⟩ : ∃ x l, rowC cs k = x :: l := by
      cases e : rowC cs k with
      | nil => rw [e] at hrl; simp at hrl; omega
      | cons x l => exact ⟨x, l, rfl⟩
    rw [hr] at hu hrl ⊢
    have hm := slices_Max .any x l (by simp at hrl; omega)
    have hz : ((x :: l).all fun y => decide (y < (n : Int))) = decide (maxL x l < (n : Int)) := by
      have := maxL_ge n l x
      rw [Bool.eq_iff_iff, List.all_eq_true, decide_eq_true_eq]
      constructor
      · intro h
        have : ¬ (n : Int) ≤ maxL x l := fun k => by
          obtain ⟨y, hy, h2⟩ := this.1 k
          have := h y hy
          simp at this; omega
        omega
      · intro h y hy
        rw [decide_eq_true_eq]
        have : ¬ (n : Int) ≤ y := fun k => by have := this.2 ⟨y, hy, k⟩; omega
        omega
    rw [hz]
    generalize maxL x l = m at *
    refine Pure.of_sw 23 Try.func109 rfl Try.ntmps109 (by kernel_rfl) (Nat.le_of_ble_eq_true (by kernel_rfl)) (by simp [closeds, AV.closed, aSs_closed, aIs_closed, aBs_closed, aRs_closed, aDen_closed, aCs_closed, aAut_closed]) (by simp [AV.closed, closeds, aSs_closed, aIs_closed, aBs_closed, aRs_closed, aDen_closed, aCs_closed, aAut_closed]) ?_; refine SW.of_vc ?_
    repeat first | refine opsStep ?_ | refine codeStep ?_ | refine drawStep ?_
    refine callP hu ?_
    repeat first | refine opsStep ?_ | refine codeStep ?_ | refine drawStep ?_
    refine callP hm ?_
    repeat first | refine opsStep ?_ | refine codeStep ?_ | refine drawStep ?_
    exact finB (b' := decide (m < (n : Int))) (by kernel_rfl) (by simp)

structure AutOk (a : Aut) : Prop where
  tracks : a.tracks.length * 16 ≤ 140737488351232
  names : ∀ s ∈ a.tracks, s.length ≤ 140737488351232
  accept : a.accept.length ≤ 140737488351232
  starts : a.starts.length * 8 ≤ 140737488351232
  arena : a.arena.length * 24 ≤ 140737488351232
  cubes : ∀ c ∈ a.arena, okC c

theorem table_rowOf (a : Aut) (q : Nat) (hq : q < 2^60) (h1 : a.starts[q]? = some (a.st q : Int)) (h2 : a.starts[q + 1]? = some (a.st (q + 1) : Int)) (h3 : a.st q ≤ a.st (q + 1)) (h4 : a.st (q + 1) ≤ a.arena.length) :
    Pure Try.prog 77 [aAut a, .int .i64 q] (aCs a.ck.cut (a.row q)) := by
  have l1 := (List.getElem?_eq_some_iff.1 h1).1
  have l2 := (List.getElem?_eq_some_iff.1 h2).1
  have hw : IntKind.wrap .i64 ((q : Int) + 1) = ((q + 1 : Nat) : Int) := by rw [IntWalk.i64_in _ (by omega)]; simp
  have hrow : aCs a.ck.cut (a.row q) = .sl a.ck.cut ((a.st (q + 1) : Int).toNat - (a.st q : Int).toNat) (((cc3 a.arena).drop ((a.st q : Int).toNat * 3)).take (((a.st (q + 1) : Int).toNat - (a.st q : Int).toNat) * 3)) := by
    rw [Int.toNat_natCast, Int.toNat_natCast, cc3_drop, cc3_take, aCs, Aut.row]
    congr 1
    simp; omega
  generalize a.st q = x at *
  generalize a.st (q + 1) = y at *
  refine Pure.of_sw 19 Try.func77 rfl Try.ntmps77 (by kernel_rfl) (Nat.le_of_ble_eq_true (by kernel_rfl)) (by simp [closeds, AV.closed, aSs_closed, aIs_closed, aBs_closed, aRs_closed, aDen_closed, aCs_closed, aAut_closed]) (by simp [AV.closed, closeds, aSs_closed, aIs_closed, aBs_closed, aRs_closed, aDen_closed, aCs_closed, aAut_closed]) ?_; refine SW.of_vc ?_
  repeat first | refine opsStep ?_ | refine codeStep ?_ | refine drawStep ?_
  refine SW.drawn rfl (by kernel_rfl) ?_
  repeat first | refine opsStep ?_ | refine codeStep ?_ | refine drawStep ?_
  refine guardE_of (by simp; omega) ?_
  repeat first | refine opsStep ?_ | refine codeStep ?_ | refine drawStep ?_
  refine optE_of (c := .int .i64 (x : Nat)) (by simp [Value.cells, h1]) ?_
  repeat first | refine opsStep ?_ | refine codeStep ?_ | refine drawStep ?_
  refine guardE_of (by rw [hw]; simp; omega) ?_
  repeat first | refine opsStep ?_ | refine codeStep ?_ | refine drawStep ?_
  refine optE_of (c := .int .i64 (y : Nat)) (by rw [hw]; simp [Value.cells, h2]) ?_
  repeat first | refine opsStep ?_ | refine codeStep ?_ | refine drawStep ?_
  refine guardE_of (by simp; omega) ?_
  repeat first | refine opsStep ?_ | refine codeStep ?_ | refine drawStep ?_
  refine ⟨by kernel_rfl, ?_⟩
  repeat first | refine opsStep ?_ | refine codeStep ?_ | refine drawStep ?_
  exact finV (by kernel_rfl) hrow.symm

theorem frameS_bad {a : Aut} (h : frameS a = false) : unpE a = 3 := unpE_bad (by rw [checkS, h]; rfl)
theorem rows_bad {a : Aut} {q : Nat} (hq : q < a.accept.length) (h : rowOkS a q = false) : unpE a = 3 := unpE_bad (by
  rw [checkS, ← Bool.not_eq_true, Bool.and_eq_true, List.all_eq_true]
  rintro ⟨_, k⟩
  have := k q (List.mem_range.2 hq)
  rw [h] at this; simp at this)
theorem row_cubes {a : Aut} (ha : AutOk a) (q : Nat) : (a.row q).length < 2 ^ 40 ∨ (a.row q).length ≥ 2 ^ 40 := by omega
theorem row_mem {a : Aut} {q : Nat} : ∀ c ∈ a.row q, c ∈ a.arena := fun c hc => List.mem_of_mem_drop (List.mem_of_mem_take hc)

theorem table_Check (a : Aut) (ha : AutOk a) : Pure Try.prog 74 [aAut a] (.int .i64 (unpE a)) := by
  have h1 := ha.tracks
  have h2 := ha.accept
  have h3 := ha.starts
  have h4 := ha.arena
  have hT := table_tracks a.tk a.tracks a.accept.length (by omega) (fun s hs => by have := ha.names s hs; omega)
  have hS := slices_IsSorted_I a.sk a.starts (by omega)
  have hfb : ∀ h : frameS a = false, unpE a = 3 := frameS_bad
  have hrb : ∀ q, q < a.accept.length → rowOkS a q = false → unpE a = 3 := fun q => rows_bad
  have hgood : checkS a = true → unpE a = 0 := unpE_zero.2
  generalize unpE a = E at *
  have hw : IntKind.wrap .i64 ((a.accept.length : Int) + 1) = ((a.accept.length + 1 : Nat) : Int) := by rw [IntWalk.i64_in _ (by omega)]; simp
  refine Pure.of_sw 66 Try.func74 rfl Try.ntmps74 (by kernel_rfl) (Nat.le_of_ble_eq_true (by kernel_rfl)) (by simp [closeds, AV.closed, aSs_closed, aIs_closed, aBs_closed, aRs_closed, aDen_closed, aCs_closed, aAut_closed]) (by simp [AV.closed, closeds, aSs_closed, aIs_closed, aBs_closed, aRs_closed, aDen_closed, aCs_closed, aAut_closed]) ?_; refine SW.of_vc ?_
  repeat first | refine opsStep ?_ | refine codeStep ?_ | refine drawStep ?_
  refine SW.drawn rfl (by kernel_rfl) ?_
  repeat first | refine opsStep ?_ | refine codeStep ?_ | refine drawStep ?_
  refine .inl ⟨_, _, [], hT, RdsN_refl _, .inr rfl, none_need, ?_⟩
  cases ht : tracksS a.tracks a.accept.length with
  | false =>
    repeat first | refine opsStep ?_ | refine codeStep ?_ | refine drawStep ?_
    refine ⟨by kernel_rfl, ?_⟩
    repeat first | refine opsStep ?_ | refine codeStep ?_ | refine drawStep ?_
    exact finV (v' := .int .i64 3) (by kernel_rfl) (by rw [hfb (by rw [frameS, ht]; rfl)])
  | true =>
    have k6 := (tracksS_parts ht).1
    have kp := (tracksS_parts ht).2.2.1
    have k256 := (tracksS_parts ht).2.2.2
    repeat first | refine opsStep ?_ | refine codeStep ?_ | refine drawStep ?_
    refine decB_dec (fun hl => ?_) (fun hl => ?_)
    · repeat first | refine opsStep ?_ | refine codeStep ?_ | refine drawStep ?_
      refine ⟨by kernel_rfl, ?_⟩
      repeat first | refine opsStep ?_ | refine codeStep ?_ | refine drawStep ?_
      exact finV (v' := .int .i64 3) (by kernel_rfl) (by rw [hfb (by rw [frameS, decide_eq_false (show ¬ a.starts.length = a.accept.length + 1 by rw [hw] at hl; omega)]; simp)])
    have hl : a.starts.length = a.accept.length + 1 := by rw [hw] at hl; omega
    obtain ⟨z0, hz0⟩ : ∃ z, a.starts[0]? = some z := ⟨_, List.getElem?_eq_getElem (show 0 < a.starts.length by omega)⟩
    obtain ⟨zn, hzn⟩ : ∃ z, a.starts[a.accept.length]? = some z := ⟨_, List.getElem?_eq_getElem (show a.accept.length < a.starts.length by omega)⟩
    have g0 : a.starts.getD 0 0 = z0 := by rw [List.getD_eq_getElem?_getD, hz0]; rfl
    have gn : a.starts.getD a.accept.length 0 = zn := by rw [List.getD_eq_getElem?_getD, hzn]; rfl
    repeat first | refine opsStep ?_ | refine codeStep ?_ | refine drawStep ?_
    refine guardE_of (by simp; omega) ?_
    repeat first | refine opsStep ?_ | refine codeStep ?_ | refine drawStep ?_
    refine optE_of (c := .int .i64 z0) (by simp [Value.cells, hz0]) ?_
    repeat first | refine opsStep ?_ | refine codeStep ?_ | refine drawStep ?_
    refine decB_dec (fun h0 => ?_) (fun h0 => ?_)
    · repeat first | refine opsStep ?_ | refine codeStep ?_ | refine drawStep ?_
      refine ⟨by kernel_rfl, ?_⟩
      repeat first | refine opsStep ?_ | refine codeStep ?_ | refine drawStep ?_
      exact finV (v' := .int .i64 3) (by kernel_rfl) (by rw [hfb (by rw [frameS, g0, decide_eq_false h0]; simp)])
    have h0 : z0 = 0 := Decidable.of_not_not h0
    repeat first | refine opsStep ?_ | refine codeStep ?_ | refine drawStep ?_
    refine guardE_of (by simp; omega) ?_
    repeat first | refine opsStep ?_ | refine codeStep ?_ | refine drawStep ?_
    refine optE_of (c := .int .i64 zn) (by simp [Value.cells, hzn]) ?_
    repeat first | refine opsStep ?_ | refine codeStep ?_ | refine drawStep ?_
    refine decB_dec (fun hn => ?_) (fun hn => ?_)
    · repeat first | refine opsStep ?_ | refine codeStep ?_ | refine drawStep ?_
      refine ⟨by kernel_rfl, ?_⟩
      repeat first | refine opsStep ?_ | refine codeStep ?_ | refine drawStep ?_
      exact finV (v' := .int .i64 3) (by kernel_rfl) (by rw [hfb (by rw [frameS, gn, decide_eq_false hn]; simp)])
    have hn : zn = a.arena.length := Decidable.of_not_not hn
    repeat first | refine opsStep ?_ | refine codeStep ?_ | refine drawStep ?_
    refine .inl ⟨_, _, [], hS, RdsN_refl _, .inr rfl, none_need, ?_⟩
    cases hs : sortedI a.starts with
    | false =>
      repeat first | refine opsStep ?_ | refine codeStep ?_ | refine drawStep ?_
      refine ⟨by kernel_rfl, ?_⟩
      repeat first | refine opsStep ?_ | refine codeStep ?_ | refine drawStep ?_
      exact finV (v' := .int .i64 3) (by kernel_rfl) (by rw [hfb (by rw [frameS, hs]; simp)])
    | true =>
      have hf : FrameOk a := ⟨ht, hl, by rw [g0, h0], by rw [gn, hn], hs⟩
      repeat first | refine opsStep ?_ | refine codeStep ?_ | refine drawStep ?_
      refine ⟨by kernel_rfl, ?_⟩
      repeat first | refine opsStep ?_ | refine codeStep ?_ | refine drawStep ?_
      refine loopE_of (ι := {q : Nat // q ≤ a.accept.length ∧ ∀ i, i < q → rowOkS a i = true})
        (fun q => (fr [(1, .ref 0 0 0), (3, .int .i64 a.accept.length), (46, .int .i64 a.accept.length), (47, .int .i64 q.1)], [.cells 0 a.cells])) (fun q => a.accept.length - q.1) ⟨0, by omega, fun _ h => by omega⟩ (Ent.fr' ⟨(by kernel_rfl), (by kernel_rfl), (by kernel_rfl), (by kernel_rfl), trivial⟩ (by kernel_rfl)) ?_
      rintro ⟨q, hq, hpre⟩
      repeat first | refine opsStep ?_ | refine codeStep ?_ | refine drawStep ?_
      refine decB_dec (fun h => ?_) (fun h => ?_)
      · have hqa : q < a.accept.length := by have := h; simp at this; omega
        obtain ⟨p1, p2⟩ := hf.get (q := q) (by omega)
        obtain ⟨p3, p4⟩ := hf.get (q := q + 1) (by omega)
        have hro := table_rowOf a q (by omega) p1 p3 (hf.le hqa) p4
        have hrl : (a.row q).length < 2 ^ 60 := by
          have : (a.row q).length ≤ a.arena.length := by simp [Aut.row]; omega
          omega
        have hRt := fun h => row_Right a.ck.cut (a.row q) a.tracks.length a.accept.length (by omega) h fun c hc => ha.cubes c (row_mem c hc)
        have hrow : rowOkS a q = (decide ((a.row q).length ≤ 32) && (cubesOk (a.row q) a.tracks.length && (rowC (a.row q) a.tracks.length).all fun x => decide (x < a.accept.length))) := by rw [rowOkS, Bool.and_assoc]
        have hrb := hrb q hqa
        generalize a.row q = cs at *
        repeat first | refine opsStep ?_ | refine codeStep ?_ | refine drawStep ?_
        refine callP hro ?_
        repeat first | refine opsStep ?_ | refine codeStep ?_ | refine drawStep ?_
        refine decB_dec (fun h32 => ?_) (fun h32 => ?_)
        · repeat first | refine opsStep ?_ | refine codeStep ?_ | refine drawStep ?_
          exact finV (v' := .int .i64 3) (by kernel_rfl) (by rw [hrb (by rw [hrow, decide_eq_false (show ¬ cs.length ≤ 32 by omega)]; rfl)])
        have h32 : cs.length ≤ 32 := by omega
        have hRt := hRt (by omega)
        rw [decide_eq_true h32, Bool.true_and] at hrow
        rw [← hrow] at hRt
        cases hb : rowOkS a q with
        | false =>
          rw [hb] at hRt
          repeat first | refine opsStep ?_ | refine codeStep ?_ | refine drawStep ?_
          refine callP hRt ?_
          repeat first | refine opsStep ?_ | refine codeStep ?_ | refine drawStep ?_
          exact finV (v' := .int .i64 3) (by kernel_rfl) (by rw [hrb hb])
        | true =>
          rw [hb] at hRt
          repeat first | refine opsStep ?_ | refine codeStep ?_ | refine drawStep ?_
          refine callP hRt ?_
          repeat first | refine opsStep ?_ | refine codeStep ?_ | refine drawStep ?_
          refine ⟨⟨q + 1, by omega, fun i hi => ?_⟩, (by show a.accept.length - (q + 1) < a.accept.length - q; omega), Ent.fr' ⟨(by kernel_rfl), (by kernel_rfl), (by kernel_rfl), inc_slot (i := q) (by omega), trivial⟩ (by kernel_rfl)⟩
          by_cases e : i = q
          · subst e; exact hb
          · exact hpre i (by omega)
      · have hqa : q = a.accept.length := by have := h; simp at this; omega
        repeat first | refine opsStep ?_ | refine codeStep ?_ | refine drawStep ?_
        exact finV (v' := .int .i64 0) (by kernel_rfl) (by
          rw [hgood (by
            rw [checkS, frameS_iff.2 hf, Bool.true_and, List.all_eq_true]
            intro i hi
            exact hpre i (by have := List.mem_range.1 hi; omega))])

end Tab

/- tabardref11: half, same, Cubes, Tracks, Row, Pack. -/
namespace Tab
open Go Go.Proofs
set_option maxRecDepth 10000
set_option linter.unusedVariables false
set_option linter.unusedSimpArgs false
set_option linter.unusedSectionVars false

theorem r11_half (k : SK) (r : List Int) (h d : Nat) (hr : r.length = 2 * h) (hl : h < 2^40) (hd : d ≤ 1) : Pure Try.prog 121 [aIs k r, .int .i64 d] (aIs .any ((r.drop (d * h)).take h)) := by
  have hw : IntKind.wrap .i64 ((r.length : Int).tdiv 2) = (h : Int) := by
    rw [show (r.length : Int) = 2 * (h : Int) by omega, Int.mul_tdiv_cancel_left _ (by decide), IntWalk.i64_in _ (by omega)]
  have hdh : d * h ≤ h := by rcases (show d = 0 ∨ d = 1 by omega) with rfl | rfl <;> omega
  have hmul : IntKind.wrap .i64 ((d : Int) * (h : Int)) = ((d * h : Nat) : Int) := by rw [IntWalk.i64_in _ (by rw [← Int.natCast_mul]; omega)]; simp
  have hlt : ∀ i, i < h → d * h + i < r.length := fun i hi => by omega
  generalize d * h = o at *
  refine Pure.of_sw 28 Try.func121 rfl Try.ntmps121 (by kernel_rfl) (Nat.le_of_ble_eq_true (by kernel_rfl)) (by simp [closeds, AV.closed, aSs_closed, aIs_closed, aBs_closed, aRs_closed, aDen_closed]) (by simp [AV.closed, closeds, aSs_closed, aIs_closed, aBs_closed, aRs_closed, aDen_closed]) ?_; refine SW.of_vc ?_
  repeat first | refine opsStep ?_ | refine codeStep ?_ | refine drawStep ?_
  refine loopE_of (ι := {i : Nat // i ≤ h}) (fun i => (fr [(0, aIs k r), (1, .int .i64 d), (5, .hs 0 i.1 0 i.1 1), (6, .int .i64 h), (7, .int .i64 i.1)], [.cells i.1 (((r.drop o).take i.1).map (.int .i64))])) (fun i => h - i.1) ⟨0, by omega⟩
    (((Ent.fr' (l := [(0, aIs k r), (1, .int .i64 d), (5, .sl .nil 0 []), (6, .int .i64 h), (7, .int .i64 (0 : Nat))]) (H' := []) ⟨(by kernel_rfl), (by kernel_rfl), (by kernel_rfl), congrArg (AV.int .i64) hw, (by kernel_rfl), trivial⟩ (by kernel_rfl)).trans (Ent.nil 5 1 rfl)).trans (Ent.fr' ⟨(by kernel_rfl), (by kernel_rfl), (by kernel_rfl), (by kernel_rfl), (by kernel_rfl), trivial⟩ (by kernel_rfl))) ?_
  rintro ⟨i, hi⟩
  repeat first | refine opsStep ?_ | refine codeStep ?_ | refine drawStep ?_
  refine decB_dec (fun g => ?_) (fun g => ?_)
  · have hih : i < h := by have := g; simp at this; omega
    have hio := hlt i hih
    have hadd : IntKind.wrap .i64 (IntKind.wrap .i64 ((d : Int) * (h : Int)) + (i : Int)) = ((o + i : Nat) : Int) := by rw [hmul, IntWalk.i64_in _ (by omega)]; simp
    have hsn : (r.drop o).take (i + 1) = (r.drop o).take i ++ [r[o + i]] := by
      rw [List.take_add_one, List.getElem?_drop, List.getElem?_eq_getElem hio]; rfl
    have hln : ((r.drop o).take i).length = i := by simp; omega
    generalize (r.drop o).take i = l at *
    repeat first | refine opsStep ?_ | refine codeStep ?_ | refine drawStep ?_
    refine guardE_of (by rw [hadd]; simp; omega) ?_
    repeat first | refine opsStep ?_ | refine codeStep ?_ | refine drawStep ?_
    refine optE_of (c := .int .i64 r[o + i]) (by rw [hadd, Int.toNat_natCast]; simp [Value.cells, hio]) ?_
    repeat first | refine opsStep ?_ | refine codeStep ?_ | refine drawStep ?_
    refine guardE_of ⟨rfl, by simp [hln]⟩ ?_
    repeat first | refine opsStep ?_ | refine codeStep ?_ | refine drawStep ?_
    refine guardE_of rfl ?_
    repeat first | refine opsStep ?_ | refine codeStep ?_ | refine drawStep ?_
    refine guardE_of ⟨by omega, by show (i + 1) * 8 ≤ 140737488355328; omega⟩ ?_
    repeat first | refine opsStep ?_ | refine codeStep ?_ | refine drawStep ?_
    refine ⟨⟨i + 1, by omega⟩, (by show h - (i + 1) < h - i; omega), Ent.frD (X := [.cells 0 [.int .i64 r[o + i]]]) ⟨(by kernel_rfl), (by kernel_rfl), (by kernel_rfl), (by kernel_rfl), inc_slot (i := i) (by omega), trivial⟩ ?_ (Nat.le_of_ble_eq_true (by kernel_rfl)) (by first | (simp [frBel, blksBel, Blk.bel, AV.bel, bels, bels_append, bels_map, aSs_bel, aIs_bel, aBs_bel, aRs_bel, aDen_bel, cells_bel]; done) | (simp only [List.drop_zero, ← List.map_take, ← List.map_drop, List.map_map, frBel, blksBel, Blk.bel, AV.bel, bels, bels_append, bels_map, aSs_bel, aIs_bel, aBs_bel, aRs_bel, aDen_bel, cells_bel]; simp [AV.bel, aSs_bel, aIs_bel, aBs_bel, aRs_bel, aDen_bel, cells_bel])) ?_⟩
    · refine Eq.trans (b := [Blk.cells (i + 1) (((l.map (AV.int .i64)).drop 0).take (i * 1) ++ [.int .i64 r[o + i]]), .cells 0 [.int .i64 r[o + i]]]) (by kernel_rfl) ?_
      show _ = [Blk.cells (i + 1) (((r.drop o).take (i + 1)).map (.int .i64)), .cells 0 [.int .i64 r[o + i]]]
      rw [hsn, List.drop_zero, List.take_of_length_le (by simp [hln]), List.map_append]
      rfl
    · exact ⟨bels_map.2 fun x _ => by simp [AV.bel], trivial⟩
  · have hih : i = h := by have := g; simp at this; omega
    subst hih
    have hln : ((r.drop o).take i).length = i := by
      have h1 : o + i ≤ r.length := by
        by_cases h0 : i = 0
        · subst h0; omega
        · have := hlt (i - 1) (by omega); omega
      simp; omega
    have er : aIs .any ((r.drop o).take i) = .sl .any i (((r.drop o).take i).map (.int .i64)) := by rw [aIs, hln]
    rw [er]
    repeat first | refine opsStep ?_ | refine codeStep ?_ | refine drawStep ?_
    exact finFrz 4 (b := 0) (g := i) (es := 1) (by kernel_rfl) (by kernel_rfl) (by rw [List.length_map, hln, Nat.mul_one]) (by kernel_rfl)

theorem r11_same (k k' : SK) (a b : List Int) (hl : a.length = b.length) (ha : a.length < 2^60) : Pure Try.prog 122 [aIs k a, aIs k' b] (.bool (decide (a = b))) := by
  refine Pure.of_sw 21 Try.func122 rfl Try.ntmps122 (by kernel_rfl) (Nat.le_of_ble_eq_true (by kernel_rfl)) (by simp [closeds, AV.closed, aSs_closed, aIs_closed, aBs_closed, aRs_closed, aDen_closed]) (by simp [AV.closed, closeds, aSs_closed, aIs_closed, aBs_closed, aRs_closed, aDen_closed]) ?_; refine SW.of_vc ?_
  repeat first | refine opsStep ?_ | refine codeStep ?_ | refine drawStep ?_
  refine loopE_of (ι := {i : Nat // i ≤ a.length ∧ a.take i = b.take i}) (fun i => (fr [(0, aIs k a), (1, aIs k' b), (5, .int .i64 i.1)], [])) (fun i => a.length - i.1) ⟨0, by omega, by simp⟩ (Ent.fr' ⟨(by kernel_rfl), (by kernel_rfl), (by kernel_rfl), trivial⟩ (by kernel_rfl)) ?_
  rintro ⟨i, hi, hpre⟩
  repeat first | refine opsStep ?_ | refine codeStep ?_ | refine drawStep ?_
  refine decB_split (fun h => ?_) (fun h => ?_)
  · have hia : i < a.length := by simpa using h
    repeat first | refine opsStep ?_ | refine codeStep ?_ | refine drawStep ?_
    refine SW.drawn rfl (by kernel_rfl) ?_
    repeat first | refine opsStep ?_ | refine codeStep ?_ | refine drawStep ?_
    refine guardE_of (by simp; omega) ?_
    repeat first | refine opsStep ?_ | refine codeStep ?_ | refine drawStep ?_
    refine optE_of (c := .int .i64 a[i]) (by simp [Value.cells, hia]) ?_
    repeat first | refine opsStep ?_ | refine codeStep ?_ | refine drawStep ?_
    refine guardE_of (by simp; omega) ?_
    repeat first | refine opsStep ?_ | refine codeStep ?_ | refine drawStep ?_
    refine optE_of (c := .int .i64 b[i]) (by simp [Value.cells, hl ▸ hia]) ?_
    repeat first | refine opsStep ?_ | refine codeStep ?_ | refine drawStep ?_
    refine ⟨by kernel_rfl, ?_⟩
    repeat first | refine opsStep ?_ | refine codeStep ?_ | refine drawStep ?_
    refine decB_split (fun h => ?_) (fun h => ?_)
    · repeat first | refine opsStep ?_ | refine codeStep ?_ | refine drawStep ?_
      exact finB rfl (by simp at h; simp; rintro rfl; exact h rfl)
    · repeat first | refine opsStep ?_ | refine codeStep ?_ | refine drawStep ?_
      refine ⟨⟨i + 1, by omega, ?_⟩, (by show a.length - (i + 1) < a.length - i; omega), Ent.fr' ⟨(by kernel_rfl), (by kernel_rfl), inc_slot (i := i) (by omega), trivial⟩ (by kernel_rfl)⟩
      rw [List.take_succ_eq_append_getElem hia, List.take_succ_eq_append_getElem (hl ▸ hia), hpre]
      simp at h; rw [h]
  · repeat first | refine opsStep ?_ | refine codeStep ?_ | refine drawStep ?_
    have : i = a.length := by simp at h; omega
    exact finB rfl (by subst this; rw [List.take_length, hl, List.take_length] at hpre; simpa using hpre)

theorem add_pow {m k : Nat} (hm : m ≤ 1000) (hk : k ≤ 6) : AV.int .i64 (IntKind.wrap .i64 ((m : Int) + ((2 ^ k : Nat) : Int))) = AV.int .i64 ((m + 2 ^ k : Nat) : Int) := by
  have hb : 2 ^ k ≤ 2 ^ 6 := Nat.pow_le_pow_right (by omega) hk
  generalize 2 ^ k = q at *
  rw [IntWalk.i64_in _ (by omega)]; simp

theorem r11_Cubes : ∀ (K : Nat), K ≤ 6 → ∀ (kk : SK) (r : List Int) (m b : Nat), r.length = 2 ^ K → m + 64 * K ≤ 1000 → b + 64 * K ≤ 1000 →
    PureNew Try.prog 94 [aIs kk r, .int .i64 m, .int .i64 b] (cubR K r m b).length 3 (cc3 (cubR K r m b))
  | 0, _, kk, r, m, b, hr, _, _ => by
    obtain ⟨x, rfl⟩ : ∃ x, r = [x] := by
      match r, hr with
      | [x], _ => exact ⟨x, rfl⟩
    refine ⟨by simp [closeds, aIs_closed, AV.closed], cc3_closed _, ?_⟩
    refine ACall.of_sw 50 Try.func94 rfl Try.ntmps94 (by kernel_rfl) (Nat.le_of_ble_eq_true (by kernel_rfl)) ?_; refine SW.of_vc ?_
    repeat first | refine opsStep ?_ | refine codeStep ?_ | refine drawStep ?_
    exact finR (l := [(6, .hs 0 0 0 1 3)]) (H₁ := [.cells 0 [.int .i64 (m : Int), .int .i64 (b : Int), .int .i64 x]]) (v := .hs 0 0 0 1 3) ⟨(by kernel_rfl), trivial⟩ (by kernel_rfl) (Ent.refl _ _ _) (by kernel_rfl) ⟨0, rfl, rfl⟩
  | K + 1, hK, kk, r, m, b, hr, hm, hb => by
    have hp : 2 ^ (K + 1) = 2 ^ K + 2 ^ K := by rw [Nat.pow_succ]; omega
    have hq : 2 ^ K ≤ 2 ^ 6 := Nat.pow_le_pow_right (by omega) (by omega)
    have hpos : 0 < 2 ^ K := Nat.two_pow_pos _
    have om := add_pow (m := m) (k := K) (by omega) (by omega)
    have ob := add_pow (m := b) (k := K) (by omega) (by omega)
    have hl0 : (r.take (2 ^ K)).length = 2 ^ K := by simp; omega
    have hl1 : (r.drop (2 ^ K)).length = 2 ^ K := by simp; omega
    have i0 := r11_Cubes K (by omega) .any (r.take (2 ^ K)) m b hl0 (by omega) (by omega)
    have i1 := r11_Cubes K (by omega) .any (r.take (2 ^ K)) (m + 2 ^ K) b hl0 (by omega) (by omega)
    have i2 := r11_Cubes K (by omega) .any (r.drop (2 ^ K)) (m + 2 ^ K) (b + 2 ^ K) hl1 (by omega) (by omega)
    have c1 := cubR_len K (r.take (2 ^ K)) (m + 2 ^ K) b
    have c2 := cubR_len K (r.drop (2 ^ K)) (m + 2 ^ K) (b + 2 ^ K)
    rw [← om] at i1 i2
    rw [← ob] at i2
    have hh0 := r11_half kk r (2 ^ K) 0 (by omega) (by omega) (by omega)
    have hh1 := r11_half kk r (2 ^ K) 1 (by omega) (by omega) (by omega)
    rw [Nat.zero_mul, List.drop_zero] at hh0
    rw [Nat.one_mul, List.take_of_length_le (by omega)] at hh1
    have hEq := r11_same .any .any (r.take (2 ^ K)) (r.drop (2 ^ K)) (by omega) (by omega)
    have hcub : cubR (K + 1) r m b = if r.take (2 ^ K) = r.drop (2 ^ K) then cubR K (r.take (2 ^ K)) m b else cubR K (r.take (2 ^ K)) (m + 2 ^ K) b ++ cubR K (r.drop (2 ^ K)) (m + 2 ^ K) (b + 2 ^ K) := rfl
    have hc1 := cc3_length (cubR K (r.take (2 ^ K)) (m + 2 ^ K) b)
    have hc2 := cc3_length (cubR K (r.drop (2 ^ K)) (m + 2 ^ K) (b + 2 ^ K))
    generalize cubR (K + 1) r m b = C at *
    generalize cubR K (r.take (2 ^ K)) (m + 2 ^ K) b = C1 at *
    generalize cubR K (r.drop (2 ^ K)) (m + 2 ^ K) (b + 2 ^ K) = C2 at *
    generalize cubR K (r.take (2 ^ K)) m b = C0 at *
    generalize r.take (2 ^ K) = lo at *
    generalize r.drop (2 ^ K) = hi at *
    generalize 2 ^ K = h at *
    refine ⟨by simp [closeds, aIs_closed, AV.closed], cc3_closed _, ?_⟩
    refine ACall.of_sw 50 Try.func94 rfl Try.ntmps94 (by kernel_rfl) (Nat.le_of_ble_eq_true (by kernel_rfl)) ?_; refine SW.of_vc ?_
    repeat first | refine opsStep ?_ | refine codeStep ?_ | refine drawStep ?_
    refine decB_dec (fun h1 => ?_) (fun h1 => ?_)
    · exact absurd h1 (by omega)
    repeat first | refine opsStep ?_ | refine codeStep ?_ | refine drawStep ?_
    refine callP hh0 ?_
    repeat first | refine opsStep ?_ | refine codeStep ?_ | refine drawStep ?_
    refine callP hh1 ?_
    repeat first | refine opsStep ?_ | refine codeStep ?_ | refine drawStep ?_
    refine callP hEq ?_
    repeat first | refine opsStep ?_ | refine codeStep ?_ | refine drawStep ?_
    refine decB_dec (fun heq => ?_) (fun heq => ?_)
    · repeat first | refine opsStep ?_ | refine codeStep ?_ | refine drawStep ?_
      refine callN i0 ?_
      repeat first | refine opsStep ?_ | refine codeStep ?_ | refine drawStep ?_
      refine finR (l := [(6, .hs 0 0 0 C0.length 3)]) (H₁ := [.cells 0 (cc3 C0)]) (v := .hs 0 0 0 C0.length 3) ⟨(by kernel_rfl), trivial⟩ (by kernel_rfl) (Ent.refl _ _ _) (by kernel_rfl) ?_
      rw [hcub, if_pos heq]
      exact ⟨0, rfl, rfl⟩
    · iterate 3 refine codeStep ?_
      iterate 4 refine opsStep ?_
      refine VCode.ent (Ent.fr' (l := [(1, .int .i64 m), (2, .int .i64 b), (7, aIs .any lo), (8, aIs .any hi), (9, .int .i64 h)]) (H' := []) ⟨(by kernel_rfl), (by kernel_rfl), (by kernel_rfl), (by kernel_rfl), Eq.trans (b := .int .i64 (lo.length : Nat)) (by kernel_rfl) (by rw [hl0]), trivial⟩ (by kernel_rfl)) ?_
      repeat first | refine opsStep ?_ | refine codeStep ?_ | refine drawStep ?_
      refine callN i1 ?_
      repeat first | refine opsStep ?_ | refine codeStep ?_ | refine drawStep ?_
      refine callN i2 ?_
      repeat first | refine opsStep ?_ | refine codeStep ?_ | refine drawStep ?_
      refine guardE_of ⟨rfl, by show 0 + C1.length * 3 ≤ (cc3 C1).length; omega⟩ ?_
      repeat first | refine opsStep ?_ | refine codeStep ?_ | refine drawStep ?_
      refine guardE_of rfl ?_
      repeat first | refine opsStep ?_ | refine codeStep ?_ | refine drawStep ?_
      refine guardE_of ⟨rfl, by show 0 + C2.length * 3 ≤ (cc3 C2).length; omega⟩ ?_
      repeat first | refine opsStep ?_ | refine codeStep ?_ | refine drawStep ?_
      refine guardE_of ⟨by omega, by show (C1.length + C2.length) * 24 ≤ 140737488355328; omega⟩ ?_
      repeat first | refine opsStep ?_ | refine codeStep ?_ | refine drawStep ?_
      refine finR (l := [(6, .hs 0 1 0 (C1.length + C2.length) 3)]) (H₁ := [.cells 1 (cc3 C1 ++ cc3 C2)] ++ [.cells 0 (cc3 C2)]) (v := .hs 0 1 0 (C1.length + C2.length) 3) ⟨(by kernel_rfl), trivial⟩ (Eq.trans (b := [.cells 1 (((cc3 C1).drop 0).take (C1.length * 3) ++ ((cc3 C2).drop 0).take (C2.length * 3)), .cells 0 (cc3 C2)]) (by kernel_rfl) ?_) (Ent.drop (Nat.le_of_ble_eq_true (by kernel_rfl)) (by first | (simp [frBel, blksBel, Blk.bel, AV.bel, bels, bels_append, bels_map, aSs_bel, aIs_bel, aBs_bel, aRs_bel, aDen_bel, cells_bel]; done) | (simp only [List.drop_zero, ← List.map_take, ← List.map_drop, List.map_map, frBel, blksBel, Blk.bel, AV.bel, bels, bels_append, bels_map, aSs_bel, aIs_bel, aBs_bel, aRs_bel, aDen_bel, cells_bel]; simp [AV.bel, aSs_bel, aIs_bel, aBs_bel, aRs_bel, aDen_bel, cells_bel])) ?_) (by kernel_rfl) ?_
      · rw [List.drop_zero, List.drop_zero, List.take_of_length_le (by omega), List.take_of_length_le (by omega)]; rfl
      · exact ⟨bels_append.2 ⟨closeds_bel _ (cc3_closed _), closeds_bel _ (cc3_closed _)⟩, trivial⟩
      · rw [hcub, if_neg heq, List.length_append, cc3_append]
        exact ⟨1, rfl, rfl⟩

end Tab

/- tabardref11: Row, Pack; tabardref12.Pack. -/
namespace Tab
open Go Go.Proofs
set_option maxRecDepth 10000
set_option linter.unusedVariables false
set_option linter.unusedSimpArgs false
set_option linter.unusedSectionVars false

theorem r11_Tracks (K : Nat) (hK : K ≤ 6) : Pure Try.prog 170 [.int .i64 (2 ^ K : Nat)] (.int .i64 K) := by
  have hq : 2 ^ K ≤ 2 ^ 6 := Nat.pow_le_pow_right (by omega) hK
  have hne : ∀ k, k < K → 2 ^ k < 2 ^ K := fun k h => Nat.pow_lt_pow_right (by omega) h
  refine Pure.of_sw 15 Try.func170 rfl Try.ntmps170 (by kernel_rfl) (Nat.le_of_ble_eq_true (by kernel_rfl)) (by simp [closeds, AV.closed, aSs_closed, aIs_closed, aBs_closed, aRs_closed, aDen_closed]) (by simp [AV.closed, closeds, aSs_closed, aIs_closed, aBs_closed, aRs_closed, aDen_closed]) ?_; refine SW.of_vc ?_
  repeat first | refine opsStep ?_ | refine codeStep ?_ | refine drawStep ?_
  refine loopE_of (ι := {k : Nat // k ≤ K}) (fun k => (fr [(0, .int .i64 (2 ^ K : Nat)), (3, .int .i64 (2 ^ k.1 : Nat)), (4, .int .i64 k.1)], [])) (fun k => K - k.1) ⟨0, by omega⟩ (Ent.fr' ⟨(by kernel_rfl), (by kernel_rfl), (by kernel_rfl), trivial⟩ (by kernel_rfl)) ?_
  rintro ⟨k, hk⟩
  repeat first | refine opsStep ?_ | refine codeStep ?_ | refine drawStep ?_
  refine decB_dec (fun h => ?_) (fun h => ?_)
  · repeat first | refine opsStep ?_ | refine codeStep ?_ | refine drawStep ?_
    by_cases e : k = K
    · subst e
      refine decB_dec (fun h2 => ?_) (fun h2 => ?_)
      · repeat first | refine opsStep ?_ | refine codeStep ?_ | refine drawStep ?_
        exact finE_of (by kernel_rfl)
      · exact absurd rfl h2
    · have hlt := hne k (by omega)
      refine decB_dec (fun h2 => ?_) (fun h2 => ?_)
      · exact absurd (show 2 ^ k = 2 ^ K from Int.ofNat_inj.1 h2) (by omega)
      · repeat first | refine opsStep ?_ | refine codeStep ?_ | refine drawStep ?_
        refine ⟨⟨k + 1, by omega⟩, (by show K - (k + 1) < K - k; omega), Ent.fr' ⟨(by kernel_rfl), ?_, inc_slot (i := k) (by omega), trivial⟩ (by kernel_rfl)⟩
        show AV.int .i64 (IntKind.wrap .i64 (((2 ^ k : Nat) : Int) * 2)) = AV.int .i64 ((2 ^ (k + 1) : Nat) : Int)
        have e2 : 2 ^ (k + 1) = 2 ^ k * 2 := Nat.pow_succ 2 k
        rw [e2]
        generalize 2 ^ k = x at *
        rw [IntWalk.i64_in _ (by omega)]; simp
  · exact absurd (show ¬ (k : Int) ≤ 6 from h) (by omega)

theorem r11_Row (k : SK) (r : List Int) (K : Nat) (hK : K ≤ 6) (hl : r.length = 2 ^ K) (hp : ∀ x ∈ r, 0 ≤ x) : Pure Try.prog 153 [aIs k r] (.bool true) := by
  have hT := r11_Tracks K hK
  rw [← hl] at hT
  have hq : 2 ^ K ≤ 2 ^ 6 := Nat.pow_le_pow_right (by omega) hK
  refine Pure.of_sw 19 Try.func153 rfl Try.ntmps153 (by kernel_rfl) (Nat.le_of_ble_eq_true (by kernel_rfl)) (by simp [closeds, AV.closed, aSs_closed, aIs_closed, aBs_closed, aRs_closed, aDen_closed]) (by simp [AV.closed, closeds, aSs_closed, aIs_closed, aBs_closed, aRs_closed, aDen_closed]) ?_; refine SW.of_vc ?_
  repeat first | refine opsStep ?_ | refine codeStep ?_ | refine drawStep ?_
  refine callP hT ?_
  repeat first | refine opsStep ?_ | refine codeStep ?_ | refine drawStep ?_
  refine loopE_of (ι := {i : Nat // i ≤ r.length}) (fun i => (fr [(0, aIs k r), (3, .int .i64 i.1)], [])) (fun i => r.length - i.1) ⟨0, by omega⟩ (Ent.fr' ⟨(by kernel_rfl), (by kernel_rfl), trivial⟩ (by kernel_rfl)) ?_
  rintro ⟨i, hi⟩
  repeat first | refine opsStep ?_ | refine codeStep ?_ | refine drawStep ?_
  refine decB_dec (fun g => ?_) (fun g => ?_)
  · have hia : i < r.length := by have := g; simp at this; omega
    have h0 := hp _ (List.getElem_mem hia)
    repeat first | refine opsStep ?_ | refine codeStep ?_ | refine drawStep ?_
    refine guardE_of (by simp; omega) ?_
    repeat first | refine opsStep ?_ | refine codeStep ?_ | refine drawStep ?_
    refine optE_of (c := .int .i64 r[i]) (by simp [Value.cells, hia]) ?_
    repeat first | refine opsStep ?_ | refine codeStep ?_ | refine drawStep ?_
    refine decB_dec (fun h2 => ?_) (fun h2 => ?_)
    · exact absurd h2 (by omega)
    repeat first | refine opsStep ?_ | refine codeStep ?_ | refine drawStep ?_
    refine ⟨⟨i + 1, by omega⟩, (by show r.length - (i + 1) < r.length - i; omega), Ent.fr' ⟨(by kernel_rfl), inc_slot (i := i) (by omega), trivial⟩ (by kernel_rfl)⟩
  · repeat first | refine opsStep ?_ | refine codeStep ?_ | refine drawStep ?_
    exact finB (b' := true) (by kernel_rfl) rfl
theorem r11_Pack (k : SK) (r : List Int) (K : Nat) (hK : K ≤ 6) (hl : r.length = 2 ^ K) (hp : ∀ x ∈ r, 0 ≤ x) : Pure Try.prog 119 [aIs k r] (.tup [aCs .any (cubR K r 0 0), .int .i64 0]) := by
  have hr := r11_Row k r K hK hl hp
  have hc := (r11_Cubes K hK k r 0 0 hl (by omega) (by omega)).pure (cc3_length _).symm
  have hcl := aCs_closed .any (cubR K r 0 0)
  rw [aCs] at hcl ⊢
  generalize cubR K r 0 0 = C at *
  refine Pure.of_sw 9 Try.func119 rfl Try.ntmps119 (by kernel_rfl) (Nat.le_of_ble_eq_true (by kernel_rfl)) (by simp [closeds, aIs_closed]) (by simp only [AV.closed, closeds, and_true]; exact hcl) ?_; refine SW.of_vc ?_
  repeat first | refine opsStep ?_ | refine codeStep ?_ | refine drawStep ?_
  refine callP hr ?_
  repeat first | refine opsStep ?_ | refine codeStep ?_ | refine drawStep ?_
  refine callP hc ?_
  repeat first | refine opsStep ?_ | refine codeStep ?_ | refine drawStep ?_
  exact finE_of (by kernel_rfl)

def packC (d : Den) (q : Nat) : List Cb := (d.rows.take q).flatMap fun r => cubR d.tracks.length r 0 0
def packS (d : Den) (q : Nat) : List Int := (List.range (q + 1)).map fun i => ((packC d i).length : Int)
def packA (d : Den) : Aut := ⟨.any, d.tracks, .any, d.accept, .any, packS d d.next.length, .any, packC d d.next.length⟩
theorem packS_length (d q) : (packS d q).length = q + 1 := by simp [packS]
theorem packS_succ (d q) : packS d (q + 1) = packS d q ++ [((packC d (q + 1)).length : Int)] := by rw [packS, List.range_succ, List.map_append]; rfl
theorem packC_succ {d : Den} {q : Nat} (h : q < d.rows.length) : packC d (q + 1) = packC d q ++ cubR d.tracks.length d.rows[q] 0 0 := by
  rw [packC, List.take_succ_eq_append_getElem h, List.flatMap_append]; simp [packC]
theorem packC_len {d : Den} (h : ∀ r ∈ d.rows, (cubR d.tracks.length r 0 0).length ≤ 32) : ∀ q, (packC d q).length ≤ 32 * q
  | 0 => by simp [packC]
  | q + 1 => by
    by_cases hq : q < d.rows.length
    · rw [packC_succ hq, List.length_append]
      have h1 := packC_len h q
      have h2 := h _ (List.getElem_mem hq)
      omega
    · have : packC d (q + 1) = packC d q := by rw [packC, packC, List.take_of_length_le (by omega), List.take_of_length_le (by omega)]
      rw [this]
      have h1 := packC_len h q
      omega

theorem r12_Pack (d : Den) (hd : DenOk d) (hr : rightS d = true) (h32 : ∀ r ∈ d.rows, (cubR d.tracks.length r 0 0).length ≤ 32) : Pure Try.prog 91 [aDen d] (.tup [aAut (packA d), .int .i64 0]) := by
  have d1 := hd.tracks
  have d2 := hd.accept
  obtain ⟨ht, hn, hrows⟩ := rightS_parts hr
  obtain ⟨k6, _, _, k256⟩ := tracksS_parts ht
  have hrl : d.rows.length = d.next.length := by simp [Den.rows]
  have hn256 : d.next.length ≤ 256 := by rw [hn]; omega
  refine Pure.of_read (by simp [closeds, aDen_closed]) (by simp [AV.closed, closeds, aAut_closed]) (R := fun o H' => o = .ret (.tup [.agg [aSs .any d.tracks, aBs .any d.accept, .hs 4 d.next.length 0 (d.next.length + 1) 1, .hs 6 d.next.length 0 (packC d d.next.length).length 3], .int .i64 0]) ∧ ∃ b0 b1 b2 b3 b5, H' = [b0, b1, b2, b3, .cells d.next.length ((packS d d.next.length).map (.int .i64)), b5, .cells d.next.length (cc3 (packC d d.next.length))]) ?_ ?_
  rotate_left
  · rintro o H' ⟨rfl, b0, b1, b2, b3, b5, rfl⟩
    refine ⟨_, rfl, .tup (.cons (.agg (.cons (.refl _) (.cons (.refl _) (.cons ?_ (.cons ?_ .nil))))) (.cons (.refl _) .nil))⟩
    · show Rd _ _ (aIs .any (packS d d.next.length))
      rw [aIs, packS_length]
      exact Rd.whole rfl (by simp [packS_length])
    · exact Rd.whole rfl (cc3_length _).symm
  refine ACall.of_sw 52 Try.func91 rfl Try.ntmps91 (by kernel_rfl) (Nat.le_of_ble_eq_true (by kernel_rfl)) ?_; refine SW.of_vc ?_
  repeat first | refine opsStep ?_ | refine codeStep ?_ | refine drawStep ?_
  refine SW.drawn rfl (by kernel_rfl) ?_
  repeat first | refine opsStep ?_ | refine codeStep ?_ | refine drawStep ?_
  refine guardE_of (by simp [Value.cells]) ?_
  refine guardE_of ⟨by omega, by show (0 + d.tracks.length) * 16 ≤ 140737488355328; omega⟩ ?_
  repeat first | refine opsStep ?_ | refine codeStep ?_ | refine drawStep ?_
  refine guardE_of (by simp [Value.cells]) ?_
  refine guardE_of ⟨by omega, by show (0 + d.accept.length) * 1 ≤ 140737488355328; omega⟩ ?_
  repeat first | refine opsStep ?_ | refine codeStep ?_ | refine drawStep ?_
  refine ⟨by kernel_rfl, ?_⟩
  repeat first | refine opsStep ?_ | refine codeStep ?_ | refine drawStep ?_
  have hinit : ∀ (nt : Fr) (s : Slots) (H : List Blk), nt.k = 0 → frOk s [(1, .ref 0 0 0), (2, .ref 1 0 0), (4, .ref 5 0 0), (5, .int .i64 (0 : Nat))] →
      H = [.cells 0 d.cells, .cells 0 [.sl .nil 0 [], .sl .nil 0 [], .sl .nil 0 [], .sl .nil 0 []], .cells 1 (d.tracks.map .str), .cells 1 (d.accept.map .bool), .cells 0 [.int .i64 0], .cells 0 [.hs 2 1 0 (0 + d.tracks.length) 1, .hs 3 1 0 (0 + d.accept.length) 1, .hs 4 0 0 1 1, .sl .nil 0 []]] →
      Ent nt s H (fr [(1, .ref 0 0 0), (2, .ref 1 0 0), (4, .ref 5 0 0), (5, .int .i64 (0 : Nat))]) [.cells 0 d.cells, .cells 0 [.sl .nil 0 [], .sl .nil 0 [], .sl .nil 0 [], .sl .nil 0 []], .fro 1 (d.tracks.map .str), .fro 1 (d.accept.map .bool), .cells (0) ((packS d 0).map (.int .i64)), .cells 0 [aSs .any d.tracks, aBs .any d.accept, .hs 4 (0) 0 ((0) + 1) 1, .hs 6 (0) 0 (packC d 0).length 3], Blk.cells (0) (cc3 (packC d 0))] := by
    intro nt s H hk hf hH
    subst hH
    rw [Nat.zero_add, Nat.zero_add]
    exact ((((Ent.fr hf).trans (Ent.freezeCell 5 0 (b := 2) rfl rfl rfl (by omega) (by simp))).trans (Ent.freezeCell 5 1 (b := 3) rfl rfl rfl (by omega) (by simp))).trans (Ent.nilCell 5 3 3 rfl rfl)).to (by kernel_rfl)
  refine loopE_of (ι := {q : Nat // q ≤ d.next.length}) (fun q => (fr [(1, .ref 0 0 0), (2, .ref 1 0 0), (4, .ref 5 0 0), (5, .int .i64 q.1)], [.cells 0 d.cells, .cells 0 [.sl .nil 0 [], .sl .nil 0 [], .sl .nil 0 [], .sl .nil 0 []], .fro 1 (d.tracks.map .str), .fro 1 (d.accept.map .bool), .cells (q.1) ((packS d q.1).map (.int .i64)), .cells 0 [aSs .any d.tracks, aBs .any d.accept, .hs 4 (q.1) 0 ((q.1) + 1) 1, .hs 6 (q.1) 0 (packC d q.1).length 3], Blk.cells (q.1) (cc3 (packC d q.1))])) (fun q => d.next.length - q.1) ⟨0, by omega⟩ (hinit _ _ _ rfl ⟨(by kernel_rfl), (by kernel_rfl), (by kernel_rfl), (by kernel_rfl), trivial⟩ (by kernel_rfl)) ?_
  rintro ⟨q, hq⟩
  repeat first | refine opsStep ?_ | refine codeStep ?_ | refine drawStep ?_
  refine decB_dec (fun h => ?_) (fun h => ?_)
  · have hqa : q < d.next.length := by have := h; simp at this; omega
    have hqr : q < d.rows.length := by omega
    have ga : d.rows[q] = (d.next[q]).2 := by simp [Den.rows]
    obtain ⟨l1, l2⟩ := rowOk_parts (hrows _ (List.getElem_mem hqa))
    have hpk := r11_Pack (d.next[q]).1 (d.next[q]).2 d.tracks.length k6 l1 fun x hx => (l2 x hx).1
    have hC32 := h32 _ (List.getElem_mem hqr)
    have hA := packC_len h32 q
    have hs := packS_succ d q
    have hc := packC_succ hqr
    have hsl := packS_length d q
    rw [hc, List.length_append] at hs
    rw [ga] at hC32 hc hs
    have hcl := cc3_length (packC d q)
    generalize packC d q = A at *
    generalize packS d q = S at *
    generalize cubR d.tracks.length (d.next[q]).2 0 0 = C at *
    have hcc := cc3_length C
    repeat first | refine opsStep ?_ | refine codeStep ?_ | refine drawStep ?_
    refine guardE_of (by simp; omega) ?_
    repeat first | refine opsStep ?_ | refine codeStep ?_ | refine drawStep ?_
    refine optE_of (c := aIs (d.next[q]).1 (d.next[q]).2) (by simp [Value.cells, hqa]) ?_
    repeat first | refine opsStep ?_ | refine codeStep ?_ | refine drawStep ?_
    refine callP hpk ?_
    repeat first | refine opsStep ?_ | refine codeStep ?_ | refine drawStep ?_
    refine decB_dec (fun h33 => ?_) (fun h33 => ?_)
    · exact absurd h33 (by omega)
    repeat first | refine opsStep ?_ | refine codeStep ?_ | refine drawStep ?_
    refine guardE_of ⟨rfl, by show 0 + A.length * 3 ≤ (cc3 A).length; omega⟩ ?_
    repeat first | refine opsStep ?_ | refine codeStep ?_ | refine drawStep ?_
    refine guardE_of (by show (cc3 C).length = C.length * 3; exact hcc) ?_
    repeat first | refine opsStep ?_ | refine codeStep ?_ | refine drawStep ?_
    refine guardE_of ⟨by omega, by show (A.length + C.length) * 24 ≤ 140737488355328; omega⟩ ?_
    repeat first | refine opsStep ?_ | refine codeStep ?_ | refine drawStep ?_
    refine guardE_of ⟨rfl, by show 0 + (q + 1) * 1 ≤ (S.map (AV.int .i64)).length; simp [hsl]⟩ ?_
    repeat first | refine opsStep ?_ | refine codeStep ?_ | refine drawStep ?_
    refine guardE_of rfl ?_
    repeat first | refine opsStep ?_ | refine codeStep ?_ | refine drawStep ?_
    refine guardE_of ⟨by show q + 1 + 1 ≤ 9223372036854775807; omega, by show (q + 1 + 1) * 8 ≤ 140737488355328; omega⟩ ?_
    repeat first | refine opsStep ?_ | refine codeStep ?_ | refine drawStep ?_
    refine ⟨⟨q + 1, by omega⟩, (by show d.next.length - (q + 1) < d.next.length - q; omega), Ent.frD (X := [.cells 0 [.int .i64 (A.length + C.length : Nat)]]) ⟨(by kernel_rfl), (by kernel_rfl), (by kernel_rfl), inc_slot (i := q) (by omega), trivial⟩ ?_ (Nat.le_of_ble_eq_true (by kernel_rfl)) (by first | (simp [frBel, blksBel, Blk.bel, AV.bel, bels, bels_append, bels_map, aSs_bel, aIs_bel, aBs_bel, aRs_bel, aDen_bel, cells_bel]; done) | (simp only [List.drop_zero, ← List.map_take, ← List.map_drop, List.map_map, frBel, blksBel, Blk.bel, AV.bel, bels, bels_append, bels_map, aSs_bel, aIs_bel, aBs_bel, aRs_bel, aDen_bel, cells_bel]; simp [AV.bel, aSs_bel, aIs_bel, aBs_bel, aRs_bel, aDen_bel, cells_bel])) ?_⟩
    · refine Eq.trans (b := [.cells 0 d.cells, .cells 0 [.sl .nil 0 [], .sl .nil 0 [], .sl .nil 0 [], .sl .nil 0 []], .fro 1 (d.tracks.map .str), .fro 1 (d.accept.map .bool), .cells (q + 1) (((S.map (.int .i64)).drop 0).take ((q + 1) * 1) ++ [.int .i64 (A.length + C.length : Nat)]), .cells 0 [aSs .any d.tracks, aBs .any d.accept, .hs 4 (q + 1) 0 (q + 1 + 1) 1, .hs 6 (q + 1) 0 (A.length + C.length) 3], Blk.cells (q + 1) (((cc3 A).drop 0).take (A.length * 3) ++ ((cc3 C))), .cells 0 [.int .i64 (A.length + C.length : Nat)]]) (by kernel_rfl) ?_
      show _ = [.cells 0 d.cells, .cells 0 [.sl .nil 0 [], .sl .nil 0 [], .sl .nil 0 [], .sl .nil 0 []], .fro 1 (d.tracks.map .str), .fro 1 (d.accept.map .bool), .cells ((q + 1)) ((packS d (q + 1)).map (.int .i64)), .cells 0 [aSs .any d.tracks, aBs .any d.accept, .hs 4 ((q + 1)) 0 (((q + 1)) + 1) 1, .hs 6 ((q + 1)) 0 (packC d (q + 1)).length 3], Blk.cells ((q + 1)) (cc3 (packC d (q + 1)))] ++ [.cells 0 [.int .i64 (A.length + C.length : Nat)]]
      rw [hs, hc, cc3_append, List.length_append, List.drop_zero, List.drop_zero, List.take_of_length_le (by simp [hsl]), List.take_of_length_le (by omega), List.map_append]
      rfl
    · simp [blksBel, Blk.bel, bels, AV.bel, Den.cells, bels_map, aSs_bel, aBs_bel, aRs_bel, closeds_bel _ (cc3_closed _)]
  · have hqa : q = d.next.length := by have := h; simp at this; omega
    subst hqa
    repeat first | refine opsStep ?_ | refine codeStep ?_ | refine drawStep ?_
    exact finR (l := [(2, .ref 1 0 0), (3, .int .i64 0)]) (H₁ := [.cells 0 d.cells, .cells 0 [aSs .any d.tracks, aBs .any d.accept, .hs 4 d.next.length 0 (d.next.length + 1) 1, .hs 6 d.next.length 0 (packC d d.next.length).length 3], .fro 1 (d.tracks.map .str), .fro 1 (d.accept.map .bool), .cells d.next.length ((packS d d.next.length).map (.int .i64)), .cells 0 [aSs .any d.tracks, aBs .any d.accept, .hs 4 d.next.length 0 (d.next.length + 1) 1, .hs 6 d.next.length 0 (packC d d.next.length).length 3], Blk.cells d.next.length (cc3 (packC d d.next.length))]) (v := .tup [.agg [aSs .any d.tracks, aBs .any d.accept, .hs 4 d.next.length 0 (d.next.length + 1) 1, .hs 6 d.next.length 0 (packC d d.next.length).length 3], .int .i64 0]) ⟨(by kernel_rfl), (by kernel_rfl), trivial⟩ (by kernel_rfl) (Ent.refl _ _ _) (by kernel_rfl) ⟨rfl, _, _, _, _, _, rfl⟩

end Tab

/- A machine packed and unpacked: plain. -/
namespace Tab
open Go
set_option maxRecDepth 10000
set_option linter.unusedVariables false
set_option linter.unusedSimpArgs false
set_option linter.unusedSectionVars false

theorem andI_nat {a b : Nat} (ha : a < 2 ^ 62) (hb : b < 2 ^ 62) : andI a b = ((a &&& b : Nat) : Int) := by
  have h : a &&& b ≤ a := Nat.and_le_left
  rw [andI, BitVec.toNat_and, BitVec.ofInt_natCast, BitVec.ofInt_natCast, BitVec.toNat_ofNat, BitVec.toNat_ofNat, Nat.mod_eq_of_lt (by omega), Nat.mod_eq_of_lt (by omega), IntWalk.i64_in _ (by omega)]
theorem and_step {i m k : Nat} (h : 2 ^ (k + 1) ∣ m) : i &&& (m + 2 ^ k) = (i &&& m) + (if i.testBit k = true then 2 ^ k else 0) := by
  have h1 : 2 ^ (k + 1) ∣ i &&& m := by
    refine Nat.dvd_of_mod_eq_zero ?_
    rw [Nat.and_mod_two_pow, Nat.mod_eq_zero_of_dvd h, Nat.and_zero]
  have h2 : i &&& 2 ^ k = (if i.testBit k = true then 2 ^ k else 0) := by
    apply Nat.eq_of_testBit_eq
    intro j
    rw [Nat.testBit_and, Nat.testBit_two_pow]
    by_cases e : k = j
    · subst e
      cases hb : i.testBit k <;> simp
    · split <;> simp [e, Nat.testBit_two_pow]
  rw [← or_add h, Nat.and_or_distrib_left, h2]
  split
  · rw [or_add h1]
  · rw [Nat.or_zero, Nat.add_zero]
theorem no_half {k a b : Nat} (ha : 2 ^ (k + 1) ∣ a) (hb : 2 ^ (k + 1) ∣ b) : a ≠ b + 2 ^ k := by
  intro e
  rw [e] at ha
  have h := (Nat.dvd_add_right hb).1 ha
  have h1 := Nat.le_of_dvd (Nat.two_pow_pos k) h
  rw [Nat.pow_succ] at h1
  have := Nat.two_pow_pos k
  omega
theorem cubR_at : ∀ (k : Nat) (r : List Int) (m b i : Nat), r.length = 2 ^ k → 2 ^ k ∣ m → 2 ^ k ∣ b → m + 2 ^ k ≤ 2 ^ 40 → i < 2 ^ 40 →
    (i &&& m = b → atC (cubR k r m b) i = some (r.getD (i % 2 ^ k) 0)) ∧ (i &&& m ≠ b → atC (cubR k r m b) i = none)
  | 0, r, m, b, i, hr, _, _, hm, hi => by
    have hm' : m < 2 ^ 62 := by have : (2 : Nat) ^ 40 < 2 ^ 62 := by decide
                                omega
    have hi' : i < 2 ^ 62 := by have : (2 : Nat) ^ 40 < 2 ^ 62 := by decide
                                omega
    constructor
    · intro h
      have : hitC i ((m : Int), (b : Int), r.getD 0 0) = true := by
        rw [hitC, andI_nat hi' hm', h]; simp
      rw [cubR, atC, List.find?_cons, this, Nat.pow_zero, Nat.mod_one]; rfl
    · intro h
      have : hitC i ((m : Int), (b : Int), r.getD 0 0) = false := by
        rw [hitC, andI_nat hi' hm']
        exact decide_eq_false fun e => h (Int.ofNat_inj.1 e)
      rw [cubR, atC, List.find?_cons, this]; rfl
  | k + 1, r, m, b, i, hr, hd, hb, hm, hi => by
    have hp : 2 ^ (k + 1) = 2 ^ k + 2 ^ k := by rw [Nat.pow_succ]; omega
    have hpos : 0 < 2 ^ k := Nat.two_pow_pos k
    have hd' : 2 ^ k ∣ m := Nat.dvd_trans ⟨2, by rw [Nat.pow_succ]⟩ hd
    have hb' : 2 ^ k ∣ b := Nat.dvd_trans ⟨2, by rw [Nat.pow_succ]⟩ hb
    have hd2 : 2 ^ (k + 1) ∣ i &&& m := Nat.dvd_of_mod_eq_zero (by rw [Nat.and_mod_two_pow, Nat.mod_eq_zero_of_dvd hd, Nat.and_zero])
    have hlt : (r.take (2 ^ k)).length = 2 ^ k := by rw [List.length_take]; omega
    have hld : (r.drop (2 ^ k)).length = 2 ^ k := by rw [List.length_drop]; omega
    have hmod : i % 2 ^ (k + 1) = i % 2 ^ k + 2 ^ k * (i / 2 ^ k % 2) := by rw [Nat.pow_succ, Nat.mod_mul]
    have htb : i.testBit k = decide (i / 2 ^ k % 2 = 1) := by rw [Nat.testBit_eq_decide_div_mod_eq]
    have hik : i % 2 ^ k < 2 ^ k := Nat.mod_lt _ hpos
    have hget0 : (r.take (2 ^ k)).getD (i % 2 ^ k) 0 = r.getD (i % 2 ^ k) 0 := by
      simp only [List.getD_eq_getElem?_getD]; rw [List.getElem?_take_of_lt hik]
    have hget1 : (r.drop (2 ^ k)).getD (i % 2 ^ k) 0 = r.getD (i % 2 ^ k + 2 ^ k) 0 := by
      simp only [List.getD_eq_getElem?_getD]; rw [List.getElem?_drop, Nat.add_comm]
    have h2 : i / 2 ^ k % 2 = 0 ∨ i / 2 ^ k % 2 = 1 := by omega
    rw [cubR]
    split
    · rename_i heq
      obtain ⟨g1, g2⟩ := cubR_at k (r.take (2 ^ k)) m b i hlt hd' hb' (by omega) hi
      refine ⟨fun h => ?_, g2⟩
      rw [g1 h, hmod]
      congr 1
      rcases h2 with h2 | h2
      · rw [h2, hget0]; simp
      · rw [h2, heq, hget1]; simp
    · obtain ⟨a1, a2⟩ := cubR_at k (r.take (2 ^ k)) (m + 2 ^ k) b i hlt (Nat.dvd_add hd' (Nat.dvd_refl _)) hb' (by omega) hi
      obtain ⟨b1, b2⟩ := cubR_at k (r.drop (2 ^ k)) (m + 2 ^ k) (b + 2 ^ k) i hld (Nat.dvd_add hd' (Nat.dvd_refl _)) (Nat.dvd_add hb' (Nat.dvd_refl _)) (by omega) hi
      have happ : ∀ (x y : List Cb), atC (x ++ y) i = (atC x i).or (atC y i) := fun x y => by
        rw [atC, atC, atC, List.find?_append]
        cases x.find? (hitC i) <;> rfl
      rw [happ]
      have hst := and_step (i := i) hd
      rw [htb] at hst
      constructor
      · intro h
        rw [h] at hst
        rcases h2 with h2 | h2
        · rw [h2] at hst
          rw [a1 (by simpa using hst), hmod, h2, hget0]; simp
        · rw [h2] at hst
          have hst : i &&& m + 2 ^ k = b + 2 ^ k := by simpa using hst
          rw [a2 (by omega), b1 hst, hmod, h2, hget1]; simp
      · intro h
        have hx : i &&& m + 2 ^ k ≠ b ∧ i &&& m + 2 ^ k ≠ b + 2 ^ k := by
          rcases h2 with h2 | h2
          · rw [h2] at hst
            have hst : i &&& m + 2 ^ k = i &&& m := by simpa using hst
            refine ⟨by omega, fun e => ?_⟩
            exact no_half hd2 hb (by omega)
          · rw [h2] at hst
            have hst : i &&& m + 2 ^ k = (i &&& m) + 2 ^ k := by simpa using hst
            refine ⟨fun e => ?_, by omega⟩
            exact no_half hb hd2 (by omega)
        rw [a2 hx.1, b2 hx.2]; rfl

theorem cubR_get {K : Nat} {r : List Int} (hK : K ≤ 6) (hr : r.length = 2 ^ K) {i : Nat} (hi : i < 2 ^ K) : atC (cubR K r 0 0) i = some (r.getD i 0) := by
  have hp : 2 ^ K ≤ 2 ^ 6 := Nat.pow_le_pow_right (by omega) hK
  have h64 : (2 : Nat) ^ 6 < 2 ^ 40 := by decide
  have h := (cubR_at K r 0 0 i hr (Nat.dvd_zero _) (Nat.dvd_zero _) (by omega) (by omega)).1 (Nat.and_zero _)
  rw [h, Nat.mod_eq_of_lt hi]
theorem rowC_cubR {K : Nat} {r : List Int} (hK : K ≤ 6) (hr : r.length = 2 ^ K) : rowC (cubR K r 0 0) K = r := by
  refine List.ext_getElem (by rw [rowC_length, hr]) fun i h1 h2 => ?_
  rw [rowC_length] at h1
  have h := rowC_get (cs := cubR K r 0 0) h1
  rw [cubR_get hK hr h1, List.getElem?_eq_getElem (by rw [rowC_length]; exact h1)] at h
  have h := Option.some.inj h
  rw [h]
  simp [List.getD_eq_getElem?_getD, h2]
theorem cubR_cubesOk {K : Nat} {r : List Int} (hK : K ≤ 6) (hr : r.length = 2 ^ K) (hp : ∀ x ∈ r, 0 ≤ x) : cubesOk (cubR K r 0 0) K = true := by
  rw [cubesOk, rowC_cubR hK hr]
  simp only [Bool.and_eq_true, decide_eq_true_eq, List.all_eq_true, List.mem_range]
  refine ⟨⟨⟨(cubR_len K r 0 0).1, fun i hi => ?_⟩, hp⟩, trivial⟩
  rw [cubR_get hK hr hi]; rfl
theorem packA_st (d : Den) {q : Nat} (h : q ≤ d.next.length) : (packA d).starts[q]? = some ((packC d q).length : Int) ∧ (packA d).st q = (packC d q).length := by
  have e : (packA d).starts[q]? = some ((packC d q).length : Int) := by
    show (packS d d.next.length)[q]? = _
    rw [packS, List.getElem?_map, List.getElem?_range (by omega)]; rfl
  refine ⟨e, ?_⟩
  rw [Aut.st, List.getD_eq_getElem?_getD, e]; rfl
theorem packC_pre {d : Den} : ∀ {q : Nat}, q ≤ d.rows.length → ∃ t, packC d d.rows.length = packC d q ++ t := by
  intro q hq
  refine ⟨(d.rows.drop q).flatMap fun r => cubR d.tracks.length r 0 0, ?_⟩
  rw [packC, packC, ← List.flatMap_append, List.take_append_drop, List.take_length]
theorem rowsL (d : Den) : d.rows.length = d.next.length := by simp [Den.rows]
theorem packA_row {d : Den} {q : Nat} (h : q < d.next.length) : (packA d).row q = cubR d.tracks.length (d.rows[q]'(by rw [rowsL]; exact h)) 0 0 := by
  have hl := rowsL d
  have h' : q < d.rows.length := by omega
  rw [Aut.row, (packA_st d (q := q) (by omega)).2, (packA_st d (q := q + 1) (by omega)).2]
  show ((packC d d.next.length).drop _).take _ = _
  obtain ⟨t, ht⟩ := packC_pre (d := d) (q := q + 1) (by omega)
  have ht' : packC d d.next.length = packC d (q + 1) ++ t := by rw [← ht, hl]
  rw [ht', packC_succ h', List.append_assoc, List.drop_left, List.length_append, Nat.add_sub_cancel_left, List.take_left]
theorem pk_rowsOk {d : Den} (hr : rightS d = true) {q : Nat} (h : q < d.next.length) : (d.rows[q]'(by rw [rowsL]; exact h)).length = 2 ^ d.tracks.length ∧ ∀ x ∈ d.rows[q]'(by rw [rowsL]; exact h), 0 ≤ x ∧ x < d.accept.length := by
  obtain ⟨_, _, h3⟩ := rightS_parts hr
  have ga : d.rows[q]'(by rw [rowsL]; exact h) = (d.next[q]).2 := by simp [Den.rows]
  rw [ga]
  exact rowOk_parts (h3 _ (List.getElem_mem h))
theorem pk_check {d : Den} (hr : rightS d = true) (h32 : ∀ r ∈ d.rows, (cubR d.tracks.length r 0 0).length ≤ 32) : checkS (packA d) = true := by
  obtain ⟨h1, h2, h3⟩ := rightS_parts hr
  obtain ⟨k6, _, _, _⟩ := tracksS_parts h1
  have hl := rowsL d
  rw [checkS, Bool.and_eq_true]
  constructor
  · rw [frameS_iff]
    have hlen : (packA d).starts.length = d.accept.length + 1 := by show (packS d d.next.length).length = _; rw [packS_length, h2]
    refine ⟨h1, hlen, ?_, ?_, sorted_of fun i hi => ?_⟩
    · rw [List.getD_eq_getElem?_getD, (packA_st d (q := 0) (by omega)).1]; rfl
    · show (packA d).starts.getD d.accept.length 0 = _
      rw [← h2, List.getD_eq_getElem?_getD, (packA_st d (q := d.next.length) (by omega)).1]; rfl
    · rw [hlen] at hi
      have e1 := (packA_st d (q := i) (by omega)).1
      have e2 := (packA_st d (q := i + 1) (by omega)).1
      rw [List.getElem?_eq_getElem (by omega), Option.some.injEq] at e1 e2
      rw [e1, e2, packC_succ (by omega), List.length_append]
      omega
  · rw [List.all_eq_true]
    intro q hq
    have hq : q < d.next.length := by rw [h2]; exact List.mem_range.1 hq
    obtain ⟨r1, r2⟩ := pk_rowsOk hr hq
    rw [rowOkS, packA_row hq]
    show (decide (_ ≤ 32) && cubesOk (cubR d.tracks.length _ 0 0) d.tracks.length && _) = true
    rw [cubR_cubesOk k6 r1 fun x hx => (r2 x hx).1]
    show (decide (_ ≤ 32) && true && (rowC (cubR d.tracks.length _ 0 0) d.tracks.length).all fun x => decide (x < (d.accept.length : Int))) = true
    rw [rowC_cubR k6 r1, decide_eq_true (h32 _ (List.getElem_mem _))]
    simp only [Bool.true_and, List.all_eq_true, decide_eq_true_eq]
    exact fun x hx => (r2 x hx).2
theorem pk_unp {d : Den} (hr : rightS d = true) (h32 : ∀ r ∈ d.rows, (cubR d.tracks.length r 0 0).length ≤ 32) : (unpD (packA d)).tracks = d.tracks ∧ (unpD (packA d)).accept = d.accept ∧ (unpD (packA d)).rows = d.rows := by
  obtain ⟨h1, h2, h3⟩ := rightS_parts hr
  obtain ⟨k6, _, _, _⟩ := tracksS_parts h1
  have hl := rowsL d
  rw [unpD_ok (pk_check hr h32)]
  refine ⟨rfl, rfl, ?_⟩
  show ((List.range d.accept.length).map fun q => ((.any : SK), rowC ((packA d).row q) d.tracks.length)).map (·.2) = _
  refine List.ext_getElem (by simp; omega) fun q g1 g2 => ?_
  simp only [List.getElem_map, List.getElem_range]
  obtain ⟨r1, r2⟩ := pk_rowsOk hr (q := q) (by omega)
  rw [packA_row (by omega), rowC_cubR k6 r1]

end Tab

/- table.Unpack. -/
namespace Tab
open Go Go.Proofs
set_option maxRecDepth 10000
set_option linter.unusedVariables false
set_option linter.unusedSimpArgs false
set_option linter.unusedSectionVars false

theorem den0_cl : aDen den0 = .agg [.sl .nil 0 [], .sl .nil 0 [], .sl .nil 0 []] := rfl
def unR (a : Aut) (i : Nat) : List (SK × List Int) := (List.range i).map fun q => (.any, rowC (a.row q) a.tracks.length)
theorem unR_length (a i) : (unR a i).length = i := by simp [unR]
theorem unR_succ (a i) : unR a (i + 1) = unR a i ++ [(.any, rowC (a.row i) a.tracks.length)] := by rw [unR, List.range_succ, List.map_append]; rfl
theorem table_Unpack (a : Aut) (ha : AutOk a) : Pure Try.prog 31 [aAut a] (.tup [aDen (unpD a), .int .i64 (unpE a)]) := by
  have h1 := ha.tracks
  have h2 := ha.accept
  have h4 := ha.arena
  have hck := table_Check a ha
  cases hc : checkS a with
  | false =>
    rw [unpE_bad hc] at hck
    rw [unpE_bad hc, unpD_bad hc]
    refine Pure.of_sw 50 Try.func31 rfl Try.ntmps31 (by kernel_rfl) (Nat.le_of_ble_eq_true (by kernel_rfl)) (by simp [closeds, AV.closed, aSs_closed, aIs_closed, aBs_closed, aRs_closed, aDen_closed, aCs_closed, aAut_closed]) (by simp [AV.closed, closeds, aSs_closed, aIs_closed, aBs_closed, aRs_closed, aDen_closed, aCs_closed, aAut_closed]) ?_; refine SW.of_vc ?_
    repeat first | refine opsStep ?_ | refine codeStep ?_ | refine drawStep ?_
    refine callP hck ?_
    repeat first | refine opsStep ?_ | refine codeStep ?_ | refine drawStep ?_
    exact finV (v' := .tup [aDen den0, .int .i64 3]) (by kernel_rfl) rfl
  | true =>
  rw [unpE_zero.2 hc] at hck
  rw [unpE_zero.2 hc, unpD_ok hc]
  have hc' := hc
  simp only [checkS, Bool.and_eq_true, List.all_eq_true, List.mem_range] at hc'
  obtain ⟨hf, hrows⟩ := hc'
  have hf := frameS_iff.1 hf
  obtain ⟨k6, _, _, k256⟩ := tracksS_parts hf.tracks
  have hcs := slices_Clone_S a.tk a.tracks (by omega)
  have hcb := slices_Clone_B a.ak a.accept (by omega)
  refine Pure.of_read (by simp [closeds, aAut_closed]) (by simp [AV.closed, closeds, aDen_closed]) (R := fun o H' => o = .ret (.tup [.agg [aSs .any a.tracks, aBs .any a.accept, .hs 3 a.accept.length 0 a.accept.length 1], .int .i64 0]) ∧ ∃ b0 b1 b2, H' = [b0, b1, b2, .cells a.accept.length ((unR a a.accept.length).map fun r => aIs r.1 r.2)]) ?_ ?_
  · refine ACall.of_sw 50 Try.func31 rfl Try.ntmps31 (by kernel_rfl) (Nat.le_of_ble_eq_true (by kernel_rfl)) ?_; refine SW.of_vc ?_
    repeat first | refine opsStep ?_ | refine codeStep ?_ | refine drawStep ?_
    refine callP hck ?_
    repeat first | refine opsStep ?_ | refine codeStep ?_ | refine drawStep ?_
    refine SW.drawn rfl (by kernel_rfl) ?_
    repeat first | refine opsStep ?_ | refine codeStep ?_ | refine drawStep ?_
    refine .inl ⟨_, _, [], hcs, RdsN_refl _, .inr rfl, none_need, ?_⟩
    repeat first | refine opsStep ?_ | refine codeStep ?_ | refine drawStep ?_
    refine .inl ⟨_, _, [], hcb, RdsN_refl _, .inr rfl, none_need, ?_⟩
    repeat first | refine opsStep ?_ | refine codeStep ?_ | refine drawStep ?_
    refine ⟨by kernel_rfl, ?_⟩
    repeat first | refine opsStep ?_ | refine codeStep ?_ | refine drawStep ?_
    refine loopE_of (ι := {q : Nat // q ≤ a.accept.length}) (fun q => (fr [(1, .ref 0 0 0), (2, .ref 1 0 0), (5, .ref 2 0 0), (24, .int .i64 a.accept.length), (25, .int .i64 q.1)], [.cells 0 a.cells, .cells 0 [.sl .nil 0 [], .sl .nil 0 [], .sl .nil 0 []], .cells 0 [aSs .any a.tracks, aBs .any a.accept, .hs 3 (q.1) 0 (q.1) 1], Blk.cells (q.1) ((unR a q.1).map fun r => aIs r.1 r.2)])) (fun q => a.accept.length - q.1) ⟨0, by omega⟩ ?_ ?_
    · exact ((Ent.fr' (l := [(1, .ref 0 0 0), (2, .ref 1 0 0), (5, .ref 2 0 0), (24, .int .i64 a.accept.length), (25, .int .i64 (0 : Nat))]) (H' := [.cells 0 a.cells, .cells 0 [.sl .nil 0 [], .sl .nil 0 [], .sl .nil 0 []], .cells 0 [aSs .any a.tracks, aBs .any a.accept, .sl .nil 0 []]]) ⟨(by kernel_rfl), (by kernel_rfl), (by kernel_rfl), (by kernel_rfl), (by kernel_rfl), trivial⟩ (by kernel_rfl)).trans (Ent.nilCell 2 2 1 rfl rfl)).to rfl
    rintro ⟨q, hq⟩
    repeat first | refine opsStep ?_ | refine codeStep ?_ | refine drawStep ?_
    refine decB_dec (fun h => ?_) (fun h => ?_)
    · have hqa : q < a.accept.length := by have := h; simp at this; omega
      obtain ⟨p1, p2⟩ := hf.get (q := q) (by omega)
      obtain ⟨p3, p4⟩ := hf.get (q := q + 1) (by omega)
      have hro := table_rowOf a q (by omega) p1 p3 (hf.le hqa) p4
      have hok := hrows q hqa
      simp only [rowOkS, Bool.and_eq_true, decide_eq_true_eq] at hok
      have hun := row_Unpack a.ck.cut (a.row q) a.tracks.length k6 (by omega) fun c hc => ha.cubes c (row_mem c hc)
      rw [rowU_ok hok.1.2] at hun
      have hs := unR_succ a q
      have hl := unR_length a q
      generalize rowC (a.row q) a.tracks.length = r at *
      generalize a.row q = cs at *
      generalize unR a q = rs at *
      repeat first | refine opsStep ?_ | refine codeStep ?_ | refine drawStep ?_
      refine SW.drawn rfl (by kernel_rfl) ?_
      repeat first | refine opsStep ?_ | refine codeStep ?_ | refine drawStep ?_
      refine .inl ⟨_, _, [], hro, RdsN_refl _, .inr rfl, none_need, ?_⟩
      repeat first | refine opsStep ?_ | refine codeStep ?_ | refine drawStep ?_
      refine .inl ⟨_, _, [], hun, RdsN_refl _, .inr rfl, none_need, ?_⟩
      repeat first | refine opsStep ?_ | refine codeStep ?_ | refine drawStep ?_
      refine ⟨by kernel_rfl, ?_⟩
      repeat first | refine opsStep ?_ | refine codeStep ?_ | refine drawStep ?_
      refine guardE_of ⟨rfl, by simp [hl]⟩ ?_
      repeat first | refine opsStep ?_ | refine codeStep ?_ | refine drawStep ?_
      refine guardE_of rfl ?_
      repeat first | refine opsStep ?_ | refine codeStep ?_ | refine drawStep ?_
      refine guardE_of ⟨by omega, by show (q + 1) * 24 ≤ 140737488355328; omega⟩ ?_
      repeat first | refine opsStep ?_ | refine codeStep ?_ | refine drawStep ?_
      refine ⟨⟨q + 1, by omega⟩, (by show a.accept.length - (q + 1) < a.accept.length - q; omega), Ent.frD (X := [.cells 0 [aIs .any r]]) ⟨(by kernel_rfl), (by kernel_rfl), (by kernel_rfl), (by kernel_rfl), inc_slot (i := q) (by omega), trivial⟩ ?_ (Nat.le_of_ble_eq_true (by kernel_rfl)) (by first | (simp [frBel, blksBel, Blk.bel, AV.bel, bels, bels_append, bels_map, aSs_bel, aIs_bel, aBs_bel, aRs_bel, aDen_bel, cells_bel]; done) | (simp only [List.drop_zero, ← List.map_take, ← List.map_drop, List.map_map, frBel, blksBel, Blk.bel, AV.bel, bels, bels_append, bels_map, aSs_bel, aIs_bel, aBs_bel, aRs_bel, aDen_bel, cells_bel]; simp [AV.bel, aSs_bel, aIs_bel, aBs_bel, aRs_bel, aDen_bel, cells_bel])) ?_⟩
      · refine Eq.trans (b := [.cells 0 a.cells, .cells 0 [.sl .nil 0 [], .sl .nil 0 [], .sl .nil 0 []], .cells 0 [aSs .any a.tracks, aBs .any a.accept, .hs 3 (q + 1) 0 (q + 1) 1], Blk.cells (q + 1) (((((rs).map fun r => aIs r.1 r.2)).drop 0).take (q * 1) ++ [aIs .any r]), .cells 0 [aIs .any r]]) (by kernel_rfl) ?_
        show _ = [.cells 0 a.cells, .cells 0 [.sl .nil 0 [], .sl .nil 0 [], .sl .nil 0 []], .cells 0 [aSs .any a.tracks, aBs .any a.accept, .hs 3 ((q + 1)) 0 ((q + 1)) 1], Blk.cells ((q + 1)) ((unR a (q + 1)).map fun r => aIs r.1 r.2)] ++ [.cells 0 [aIs .any r]]
        rw [hs, List.drop_zero, List.take_of_length_le (by simp [hl]), List.map_append]
        rfl
      · simp [blksBel, Blk.bel, bels, AV.bel, Aut.cells, bels_map, aSs_bel, aBs_bel, aIs_bel]
    · have hqa : q = a.accept.length := by have := h; simp at this; omega
      subst hqa
      repeat first | refine opsStep ?_ | refine codeStep ?_ | refine drawStep ?_
      exact finR (l := [(2, .ref 1 0 0), (3, .int .i64 0)]) (H₁ := [.cells 0 a.cells, .cells 0 [aSs .any a.tracks, aBs .any a.accept, .hs 3 a.accept.length 0 a.accept.length 1], .cells 0 [aSs .any a.tracks, aBs .any a.accept, .hs 3 a.accept.length 0 a.accept.length 1], Blk.cells a.accept.length ((unR a a.accept.length).map fun r => aIs r.1 r.2)]) (v := .tup [.agg [aSs .any a.tracks, aBs .any a.accept, .hs 3 a.accept.length 0 a.accept.length 1], .int .i64 0]) ⟨(by kernel_rfl), (by kernel_rfl), trivial⟩ (by kernel_rfl) (Ent.refl _ _ _) (by kernel_rfl) ⟨rfl, _, _, _, rfl⟩
  · rintro o H' ⟨rfl, b0, b1, b2, rfl⟩
    refine ⟨_, rfl, .tup (.cons (.agg (.cons (.refl _) (.cons (.refl _) (.cons ?_ .nil)))) (.cons (.refl _) .nil))⟩
    show Rd _ _ (aRs .any (unR a a.accept.length))
    have hl := unR_length a a.accept.length
    rw [aRs, hl]
    exact Rd.whole rfl (by simp [hl])

end Tab

/- table.Pack, as a value. -/
namespace Tab
open Go Go.Proofs
set_option maxRecDepth 10000
set_option linter.unusedVariables false
set_option linter.unusedSimpArgs false
set_option linter.unusedSectionVars false

def cubsOk (d : Den) : Bool := d.rows.all fun r => decide ((cubR d.tracks.length r 0 0).length ≤ 32)
@[irreducible] def packE (d : Den) : Int := if rightS d = true then (if cubsOk d = true then 0 else 120) else 3
def aut0 : Aut := ⟨.nil, [], .nil, [], .nil, [], .nil, []⟩
@[irreducible] def packV (d : Den) : Aut := if rightS d = true ∧ cubsOk d = true then packA d else aut0
theorem packE_shape {d : Den} (h : rightS d = false) : packE d = 3 ∧ packV d = aut0 := by
  rw [packE, packV, h]; exact ⟨rfl, rfl⟩
theorem packE_wide {d : Den} (h : rightS d = true) (hc : cubsOk d = false) : packE d = 120 ∧ packV d = aut0 := by
  rw [packE, packV, h, hc]; exact ⟨rfl, rfl⟩
theorem packE_ok {d : Den} (h : rightS d = true) (hc : cubsOk d = true) : packE d = 0 ∧ packV d = packA d := by
  rw [packE, packV, h, hc]; exact ⟨rfl, rfl⟩
theorem packE_zero {d : Den} (h : packE d = 0) : rightS d = true ∧ cubsOk d = true := by
  rw [packE] at h
  split at h
  · split at h
    · exact ⟨by assumption, by assumption⟩
    · omega
  · omega
theorem cubsOk_iff {d : Den} : cubsOk d = true ↔ ∀ r ∈ d.rows, (cubR d.tracks.length r 0 0).length ≤ 32 := by
  simp only [cubsOk, List.all_eq_true, decide_eq_true_eq]
theorem packC_len6 {d : Den} (h : d.tracks.length ≤ 6) : ∀ q, (packC d q).length ≤ 64 * q
  | 0 => by simp [packC]
  | q + 1 => by
    have h1 := packC_len6 h q
    by_cases hq : q < d.rows.length
    · rw [packC_succ hq, List.length_append]
      have h2 := (cubR_len d.tracks.length d.rows[q] 0 0).1
      have hp : 2 ^ d.tracks.length ≤ 2 ^ 6 := Nat.pow_le_pow_right (by omega) h
      omega
    · have : packC d (q + 1) = packC d q := by rw [packC, packC, List.take_of_length_le (by omega), List.take_of_length_le (by omega)]
      rw [this]; omega

theorem table_Pack (d : Den) (hd : DenOk d) : Pure Try.prog 80 [aDen d] (.tup [aAut (packV d), .int .i64 (packE d)]) := by
  have d1 := hd.tracks
  have d2 := hd.accept
  have d3 := hd.next
  have hR := table_Right d hd
  cases hr : rightS d with
  | false =>
    rw [rightE_bad hr] at hR
    rw [(packE_shape hr).1, (packE_shape hr).2]
    refine Pure.of_sw 59 Try.func80 rfl Try.ntmps80 (by kernel_rfl) (Nat.le_of_ble_eq_true (by kernel_rfl)) (by simp [closeds, AV.closed, aSs_closed, aIs_closed, aBs_closed, aRs_closed, aDen_closed, aCs_closed, aAut_closed]) (by simp [AV.closed, closeds, aSs_closed, aIs_closed, aBs_closed, aRs_closed, aDen_closed, aCs_closed, aAut_closed]) ?_; refine SW.of_vc ?_
    repeat first | refine opsStep ?_ | refine codeStep ?_ | refine drawStep ?_
    refine callP hR ?_
    repeat first | refine opsStep ?_ | refine codeStep ?_ | refine drawStep ?_
    exact finV (v' := .tup [.agg [.sl .nil 0 [], .sl .nil 0 [], .sl .nil 0 [], .sl .nil 0 []], .int .i64 3]) (by kernel_rfl) rfl
  | true =>
    rw [rightE_ok hr] at hR
    obtain ⟨ht, hn, hrows⟩ := rightS_parts hr
    obtain ⟨k6, _, _, k256⟩ := tracksS_parts ht
    have hrl : d.rows.length = d.next.length := by simp [Den.rows]
    have hn256 : d.next.length ≤ 256 := by rw [hn]; omega
    have hcs := slices_Clone_S d.tk d.tracks (by omega)
    have hcb := slices_Clone_B d.ak d.accept (by omega)
    refine Pure.of_read (by simp [closeds, aDen_closed]) (by simp [AV.closed, closeds, aAut_closed]) (R := fun o H' => (cubsOk d = false ∧ o = .ret (.tup [aAut aut0, .int .i64 120])) ∨ (cubsOk d = true ∧ o = .ret (.tup [.agg [aSs .any d.tracks, aBs .any d.accept, .hs 2 d.next.length 0 (d.next.length + 1) 1, .hs 4 d.next.length 0 (packC d d.next.length).length 3], .int .i64 0]) ∧ ∃ b0 b1 b3, H' = [b0, b1, .cells d.next.length ((packS d d.next.length).map (.int .i64)), b3, .cells d.next.length (cc3 (packC d d.next.length))])) ?_ ?_
    rotate_left
    · rintro o H' (⟨hc, rfl⟩ | ⟨hc, rfl, b0, b1, b3, rfl⟩)
      · rw [(packE_wide hr hc).1, (packE_wide hr hc).2]
        exact ⟨_, rfl, .refl _⟩
      · rw [(packE_ok hr hc).1, (packE_ok hr hc).2]
        refine ⟨_, rfl, .tup (.cons (.agg (.cons (.refl _) (.cons (.refl _) (.cons ?_ (.cons ?_ .nil))))) (.cons (.refl _) .nil))⟩
        · show Rd _ _ (aIs .any (packS d d.next.length))
          rw [aIs, packS_length]
          exact Rd.whole rfl (by simp [packS_length])
        · exact Rd.whole rfl (cc3_length _).symm
    refine ACall.of_sw 59 Try.func80 rfl Try.ntmps80 (by kernel_rfl) (Nat.le_of_ble_eq_true (by kernel_rfl)) ?_; refine SW.of_vc ?_
    repeat first | refine opsStep ?_ | refine codeStep ?_ | refine drawStep ?_
    refine callP hR ?_
    repeat first | refine opsStep ?_ | refine codeStep ?_ | refine drawStep ?_
    refine SW.drawn rfl (by kernel_rfl) ?_
    repeat first | refine opsStep ?_ | refine codeStep ?_ | refine drawStep ?_
    refine .inl ⟨_, _, [], hcs, RdsN_refl _, .inr rfl, none_need, ?_⟩
    repeat first | refine opsStep ?_ | refine codeStep ?_ | refine drawStep ?_
    refine .inl ⟨_, _, [], hcb, RdsN_refl _, .inr rfl, none_need, ?_⟩
    repeat first | refine opsStep ?_ | refine codeStep ?_ | refine drawStep ?_
    refine ⟨by kernel_rfl, ?_⟩
    repeat first | refine opsStep ?_ | refine codeStep ?_ | refine drawStep ?_
    have hinit : ∀ (nt : Fr) (s : Slots) (H : List Blk), nt.k = 0 → frOk s [(1, .ref 0 0 0), (2, .ref 1 0 0), (5, .ref 3 0 0), (25, aRs d.nk d.next), (26, .int .i64 d.next.length), (27, .int .i64 (0 : Nat))] →
        H = [.cells 0 d.cells, .cells 0 [.sl .nil 0 [], .sl .nil 0 [], .sl .nil 0 [], .sl .nil 0 []], .cells 0 [.int .i64 0], .cells 0 [aSs .any d.tracks, aBs .any d.accept, .hs 2 0 0 1 1, .sl .nil 0 []]] →
        Ent nt s H (fr [(1, .ref 0 0 0), (2, .ref 1 0 0), (5, .ref 3 0 0), (25, aRs d.nk d.next), (26, .int .i64 d.next.length), (27, .int .i64 (0 : Nat))]) [.cells 0 d.cells, .cells 0 [.sl .nil 0 [], .sl .nil 0 [], .sl .nil 0 [], .sl .nil 0 []], .cells (0) ((packS d 0).map (.int .i64)), .cells 0 [aSs .any d.tracks, aBs .any d.accept, .hs 2 (0) 0 ((0) + 1) 1, .hs 4 (0) 0 (packC d 0).length 3], Blk.cells (0) (cc3 (packC d 0))] := by
      intro nt s H hk hf hH
      subst hH
      exact ((Ent.fr hf).trans (Ent.nilCell 3 3 3 rfl rfl)).to (by kernel_rfl)
    refine loopE_of (ι := {q : Nat // q ≤ d.next.length ∧ ∀ r ∈ d.rows.take q, (cubR d.tracks.length r 0 0).length ≤ 32}) (fun q => (fr [(1, .ref 0 0 0), (2, .ref 1 0 0), (5, .ref 3 0 0), (25, aRs d.nk d.next), (26, .int .i64 d.next.length), (27, .int .i64 (q.1 : Nat))], [.cells 0 d.cells, .cells 0 [.sl .nil 0 [], .sl .nil 0 [], .sl .nil 0 [], .sl .nil 0 []], .cells (q.1) ((packS d q.1).map (.int .i64)), .cells 0 [aSs .any d.tracks, aBs .any d.accept, .hs 2 (q.1) 0 ((q.1) + 1) 1, .hs 4 (q.1) 0 (packC d q.1).length 3], Blk.cells (q.1) (cc3 (packC d q.1))])) (fun q => d.next.length - q.1) ⟨0, by omega, by simp⟩ (hinit _ _ _ rfl ⟨(by kernel_rfl), (by kernel_rfl), (by kernel_rfl), (by kernel_rfl), (by kernel_rfl), (by kernel_rfl), trivial⟩ (by kernel_rfl)) ?_
    rintro ⟨q, hq, hpre⟩
    repeat first | refine opsStep ?_ | refine codeStep ?_ | refine drawStep ?_
    refine decB_dec (fun h => ?_) (fun h => ?_)
    · have hqa : q < d.next.length := by have := h; simp at this; omega
      have hqr : q < d.rows.length := by omega
      have ga : d.rows[q] = (d.next[q]).2 := by simp [Den.rows]
      obtain ⟨l1, l2⟩ := rowOk_parts (hrows _ (List.getElem_mem hqa))
      have hpk := row_Pack_ok (d.next[q]).1 (d.next[q]).2 d.tracks.length k6 l1 (by rw [List.all_eq_true]; exact fun x hx => decide_eq_true (l2 x hx).1)
      have hA := packC_len6 k6 q
      have hC6 := (cubR_len d.tracks.length (d.next[q]).2 0 0).1
      have hp : 2 ^ d.tracks.length ≤ 2 ^ 6 := Nat.pow_le_pow_right (by omega) k6
      have hs := packS_succ d q
      have hc := packC_succ hqr
      have hsl := packS_length d q
      rw [hc, List.length_append] at hs
      have htk : d.rows.take (q + 1) = d.rows.take q ++ [(d.next[q]).2] := by rw [List.take_succ_eq_append_getElem hqr, ga]
      have hmem : (d.next[q]).2 ∈ d.rows := by rw [← ga]; exact List.getElem_mem _
      have hCd : (cubR d.tracks.length (d.next[q]).2 0 0).length > 32 → cubsOk d = false := fun e => by
        rw [← Bool.not_eq_true, cubsOk_iff]
        intro k; have := k _ hmem; omega
      have hpre' : (cubR d.tracks.length (d.next[q]).2 0 0).length ≤ 32 → ∀ r ∈ d.rows.take (q + 1), (cubR d.tracks.length r 0 0).length ≤ 32 := fun e r hr => by
        rw [htk, List.mem_append, List.mem_singleton] at hr
        rcases hr with hr | rfl
        · exact hpre r hr
        · exact e
      rw [ga] at hc hs
      have hcl := cc3_length (packC d q)
      generalize packC d q = A at *
      generalize packS d q = S at *
      generalize cubR d.tracks.length (d.next[q]).2 0 0 = C at *
      have hcc := cc3_length C
      repeat first | refine opsStep ?_ | refine codeStep ?_ | refine drawStep ?_
      refine guardE_of (by simp; omega) ?_
      repeat first | refine opsStep ?_ | refine codeStep ?_ | refine drawStep ?_
      refine optE_of (c := aIs (d.next[q]).1 (d.next[q]).2) (by simp [Value.cells, hqa]) ?_
      repeat first | refine opsStep ?_ | refine codeStep ?_ | refine drawStep ?_
      refine callP hpk ?_
      repeat first | refine opsStep ?_ | refine codeStep ?_ | refine drawStep ?_
      refine decB_dec (fun h33 => ?_) (fun h33 => ?_)
      · have h33 : C.length > 32 := by have := h33; omega
        repeat first | refine opsStep ?_ | refine codeStep ?_ | refine drawStep ?_
        exact finR (l := [(2, .ref 1 0 0), (3, .int .i64 120)]) (H₁ := [.cells 0 d.cells, .cells 0 [.sl .nil 0 [], .sl .nil 0 [], .sl .nil 0 [], .sl .nil 0 []], .cells (q) ((S).map (.int .i64)), .cells 0 [aSs .any d.tracks, aBs .any d.accept, .hs 2 (q) 0 ((q) + 1) 1, .hs 4 (q) 0 (A).length 3], Blk.cells (q) (cc3 (A))]) (v := .tup [aAut aut0, .int .i64 120]) ⟨(by kernel_rfl), (by kernel_rfl), trivial⟩ (by kernel_rfl) (Ent.refl _ _ _) (by kernel_rfl) (.inl ⟨hCd h33, rfl⟩)
      have h33 : C.length ≤ 32 := by have := h33; omega
      repeat first | refine opsStep ?_ | refine codeStep ?_ | refine drawStep ?_
      refine guardE_of ⟨rfl, by show 0 + A.length * 3 ≤ (cc3 A).length; omega⟩ ?_
      repeat first | refine opsStep ?_ | refine codeStep ?_ | refine drawStep ?_
      refine guardE_of (by show (cc3 C).length = C.length * 3; exact hcc) ?_
      repeat first | refine opsStep ?_ | refine codeStep ?_ | refine drawStep ?_
      refine guardE_of ⟨by omega, by show (A.length + C.length) * 24 ≤ 140737488355328; omega⟩ ?_
      repeat first | refine opsStep ?_ | refine codeStep ?_ | refine drawStep ?_
      refine guardE_of ⟨rfl, by show 0 + (q + 1) * 1 ≤ (S.map (AV.int .i64)).length; simp [hsl]⟩ ?_
      repeat first | refine opsStep ?_ | refine codeStep ?_ | refine drawStep ?_
      refine guardE_of rfl ?_
      repeat first | refine opsStep ?_ | refine codeStep ?_ | refine drawStep ?_
      refine guardE_of ⟨by show q + 1 + 1 ≤ 9223372036854775807; omega, by show (q + 1 + 1) * 8 ≤ 140737488355328; omega⟩ ?_
      repeat first | refine opsStep ?_ | refine codeStep ?_ | refine drawStep ?_
      refine ⟨⟨q + 1, by omega, hpre' h33⟩, (by show d.next.length - (q + 1) < d.next.length - q; omega), Ent.frD (X := [.cells 0 [.int .i64 (A.length + C.length : Nat)]]) ⟨(by kernel_rfl), (by kernel_rfl), (by kernel_rfl), (by kernel_rfl), (by kernel_rfl), inc_slot (i := q) (by omega), trivial⟩ ?_ (Nat.le_of_ble_eq_true (by kernel_rfl)) (by first | (simp [frBel, blksBel, Blk.bel, AV.bel, bels, bels_append, bels_map, aSs_bel, aIs_bel, aBs_bel, aRs_bel, aDen_bel, cells_bel]; done) | (simp only [List.drop_zero, ← List.map_take, ← List.map_drop, List.map_map, frBel, blksBel, Blk.bel, AV.bel, bels, bels_append, bels_map, aSs_bel, aIs_bel, aBs_bel, aRs_bel, aDen_bel, cells_bel]; simp [AV.bel, aSs_bel, aIs_bel, aBs_bel, aRs_bel, aDen_bel, cells_bel])) ?_⟩
      · refine Eq.trans (b := [.cells 0 d.cells, .cells 0 [.sl .nil 0 [], .sl .nil 0 [], .sl .nil 0 [], .sl .nil 0 []], .cells (q + 1) (((S.map (.int .i64)).drop 0).take ((q + 1) * 1) ++ [.int .i64 (A.length + C.length : Nat)]), .cells 0 [aSs .any d.tracks, aBs .any d.accept, .hs 2 (q + 1) 0 (q + 1 + 1) 1, .hs 4 (q + 1) 0 (A.length + C.length) 3], Blk.cells (q + 1) (((cc3 A).drop 0).take (A.length * 3) ++ ((cc3 C))), .cells 0 [.int .i64 (A.length + C.length : Nat)]]) (by kernel_rfl) ?_
        show _ = [.cells 0 d.cells, .cells 0 [.sl .nil 0 [], .sl .nil 0 [], .sl .nil 0 [], .sl .nil 0 []], .cells ((q + 1)) ((packS d (q + 1)).map (.int .i64)), .cells 0 [aSs .any d.tracks, aBs .any d.accept, .hs 2 ((q + 1)) 0 (((q + 1)) + 1) 1, .hs 4 ((q + 1)) 0 (packC d (q + 1)).length 3], Blk.cells ((q + 1)) (cc3 (packC d (q + 1)))] ++ [.cells 0 [.int .i64 (A.length + C.length : Nat)]]
        rw [hs, hc, cc3_append, List.length_append, List.drop_zero, List.drop_zero, List.take_of_length_le (by simp [hsl]), List.take_of_length_le (by omega), List.map_append]
        rfl
      · simp [blksBel, Blk.bel, bels, AV.bel, Den.cells, bels_map, aSs_bel, aBs_bel, aRs_bel, closeds_bel _ (cc3_closed _)]
    · have hqa : q = d.next.length := by have := h; simp at this; omega
      subst hqa
      have hcok : cubsOk d = true := cubsOk_iff.2 fun r hr => hpre r (by rw [← hrl, List.take_length]; exact hr)
      repeat first | refine opsStep ?_ | refine codeStep ?_ | refine drawStep ?_
      exact finR (l := [(2, .ref 1 0 0), (3, .int .i64 0)]) (H₁ := [.cells 0 d.cells, .cells 0 [aSs .any d.tracks, aBs .any d.accept, .hs 2 d.next.length 0 (d.next.length + 1) 1, .hs 4 d.next.length 0 (packC d d.next.length).length 3], .cells d.next.length ((packS d d.next.length).map (.int .i64)), .cells 0 [aSs .any d.tracks, aBs .any d.accept, .hs 2 d.next.length 0 (d.next.length + 1) 1, .hs 4 d.next.length 0 (packC d d.next.length).length 3], Blk.cells d.next.length (cc3 (packC d d.next.length))]) (v := .tup [.agg [aSs .any d.tracks, aBs .any d.accept, .hs 2 d.next.length 0 (d.next.length + 1) 1, .hs 4 d.next.length 0 (packC d d.next.length).length 3], .int .i64 0]) ⟨(by kernel_rfl), (by kernel_rfl), trivial⟩ (by kernel_rfl) (Ent.refl _ _ _) (by kernel_rfl) (.inr ⟨hcok, rfl, _, _, _, rfl⟩)

end Tab

/- tabardref12.Copy. -/
namespace Tab
open Go Go.Proofs
set_option maxRecDepth 10000
set_option linter.unusedVariables false
set_option linter.unusedSimpArgs false
set_option linter.unusedSectionVars false

def copyA (a : Aut) : Aut := ⟨.any, a.tracks, .any, a.accept, .any, a.starts, .any, a.arena⟩
theorem copyA_ok {a : Aut} (h : AutOk a) : AutOk (copyA a) := ⟨h.1, h.2, h.3, h.4, h.5, h.6⟩
theorem copyA_check (a : Aut) : checkS (copyA a) = checkS a := rfl
theorem copyA_unp (a : Aut) : unpD (copyA a) = unpD a ∧ unpE (copyA a) = unpE a := by
  constructor
  · rw [unpD, unpD]; rfl
  · rw [unpE, unpE]; rfl
set_option maxHeartbeats 1000000 in
theorem r12_Copy (a : Aut) (ha : AutOk a) : Pure Try.prog 11 [aAut a] (aAut (copyA a)) := by
  have d1 := ha.tracks
  have d2 := ha.accept
  have d3 := ha.starts
  have d4 := ha.arena
  have hcc := cc3_length a.arena
  refine Pure.of_read (by simp [closeds, aAut_closed]) (aAut_closed _) (R := fun o H' => o = .ret (.agg [.hs 2 1 0 a.tracks.length 1, .hs 3 1 0 a.accept.length 1, .hs 4 1 0 a.starts.length 1, .hs 5 1 0 a.arena.length 3]) ∧ ∃ b0 b1, H' = [b0, b1, .cells 1 (a.tracks.map .str), .cells 1 (a.accept.map .bool), .cells 1 (a.starts.map (.int .i64)), .cells 1 (cc3 a.arena)]) ?_ ?_
  rotate_left
  · rintro o H' ⟨rfl, b0, b1, rfl⟩
    exact ⟨_, rfl, .agg (.cons (Rd.whole rfl (by simp [copyA])) (.cons (Rd.whole rfl (by simp [copyA])) (.cons (Rd.whole rfl (by simp [copyA])) (.cons (Rd.whole rfl hcc.symm) .nil))))⟩
  refine ACall.of_sw 20 Try.func11 rfl Try.ntmps11 (by kernel_rfl) (Nat.le_of_ble_eq_true (by kernel_rfl)) ?_; refine SW.of_vc ?_
  repeat first | refine opsStep ?_ | refine codeStep ?_ | refine drawStep ?_
  refine SW.drawn rfl (by kernel_rfl) ?_
  repeat first | refine opsStep ?_ | refine codeStep ?_ | refine drawStep ?_
  refine guardE_of (by simp [Value.cells]) ?_
  refine guardE_of ⟨by omega, by show (0 + a.tracks.length) * 16 ≤ 140737488355328; omega⟩ ?_
  repeat first | refine opsStep ?_ | refine codeStep ?_ | refine drawStep ?_
  refine guardE_of (by simp [Value.cells]) ?_
  refine guardE_of ⟨by omega, by show (0 + a.accept.length) * 1 ≤ 140737488355328; omega⟩ ?_
  repeat first | refine opsStep ?_ | refine codeStep ?_ | refine drawStep ?_
  refine guardE_of (by simp [Value.cells]) ?_
  refine guardE_of ⟨by omega, by show (0 + a.starts.length) * 8 ≤ 140737488355328; omega⟩ ?_
  repeat first | refine opsStep ?_ | refine codeStep ?_ | refine drawStep ?_
  refine guardE_of (by show (cc3 a.arena).length = a.arena.length * 3; exact hcc) ?_
  refine guardE_of ⟨by omega, by show (0 + a.arena.length) * 24 ≤ 140737488355328; omega⟩ ?_
  repeat first | refine opsStep ?_ | refine codeStep ?_ | refine drawStep ?_
  refine ⟨by kernel_rfl, ?_⟩
  repeat first | refine opsStep ?_ | refine codeStep ?_ | refine drawStep ?_
  exact finR (l := [(2, .ref 1 0 0)]) (H₁ := [.cells 0 a.cells, .cells 0 [.hs 2 1 0 a.tracks.length 1, .hs 3 1 0 a.accept.length 1, .hs 4 1 0 a.starts.length 1, .hs 5 1 0 a.arena.length 3], .cells 1 (a.tracks.map .str), .cells 1 (a.accept.map .bool), .cells 1 (a.starts.map (.int .i64)), .cells 1 (cc3 a.arena)]) (v := .agg [.hs 2 1 0 a.tracks.length 1, .hs 3 1 0 a.accept.length 1, .hs 4 1 0 a.starts.length 1, .hs 5 1 0 a.arena.length 3]) ⟨(by kernel_rfl), trivial⟩ (Eq.trans (b := [.cells 0 a.cells, .cells 0 [.hs 2 1 0 (0 + a.tracks.length) 1, .hs 3 1 0 (0 + a.accept.length) 1, .hs 4 1 0 (0 + a.starts.length) 1, .hs 5 1 0 (0 + a.arena.length) 3], .cells 1 (a.tracks.map .str), .cells 1 (a.accept.map .bool), .cells 1 (a.starts.map (.int .i64)), .cells 1 (cc3 a.arena)]) (by kernel_rfl) (by simp only [Nat.zero_add])) (Ent.refl _ _ _) (by kernel_rfl) ⟨rfl, _, _, rfl⟩

end Tab
