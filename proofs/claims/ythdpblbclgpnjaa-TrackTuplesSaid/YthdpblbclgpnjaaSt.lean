/- Lists put in order: the plain law. -/
import Derived.Test.YthdpblbclgpnjaaSo
namespace Tab
open Go Go.Proofs
set_option maxRecDepth 10000
set_option linter.unusedVariables false
set_option linter.unusedSimpArgs false
set_option linter.unusedSectionVars false

def putS (x : List UInt8) : List (List UInt8) → List (List UInt8)
  | [] => [x]
  | y :: l => if (less x y || x == y) = true then (if less x y = true then x :: y :: l else y :: l) else y :: putS x l
def togS (l : List (List UInt8)) : List (List UInt8) := l.foldl (fun acc x => putS x acc) []
def nonN (l : List (List UInt8)) : Bool := l.any fun s => !nameS s

theorem putS_mem {x y : List UInt8} : ∀ {l : List (List UInt8)}, y ∈ putS x l ↔ y = x ∨ y ∈ l
  | [] => by simp [putS]
  | z :: l => by
    rw [putS]
    split
    · rename_i h
      split
      · simp
      · rename_i h2
        have : x = z := by simpa [h2] using h
        subst this
        simp
    · simp only [List.mem_cons, putS_mem (l := l)]
      constructor
      · rintro (h | h | h)
        · exact .inr (.inl h)
        · exact .inl h
        · exact .inr (.inr h)
      · rintro (h | h | h)
        · exact .inr (.inl h)
        · exact .inl h
        · exact .inr (.inr h)
abbrev Strict (l : List (List UInt8)) : Prop := l.Pairwise fun a b => less a b = true
theorem putS_strict {x : List UInt8} : ∀ {l : List (List UInt8)}, Strict l → Strict (putS x l)
  | [], _ => by simp [putS, Strict]
  | z :: l, h => by
    obtain ⟨h1, h2⟩ := List.pairwise_cons.1 h
    rw [putS]
    split
    · split
      · rename_i h3
        refine List.pairwise_cons.2 ⟨fun a ha => ?_, h⟩
        rcases List.mem_cons.1 ha with rfl | ha
        · exact h3
        · exact less_trans h3 (h1 a ha)
      · exact h
    · rename_i h3
      refine List.pairwise_cons.2 ⟨fun a ha => ?_, putS_strict h2⟩
      rcases putS_mem.1 ha with rfl | ha
      · simp only [Bool.or_eq_true, beq_iff_eq, not_or, Bool.not_eq_true] at h3
        cases e : less z a with
        | true => rfl
        | false => exact absurd (less_total h3.1 e) h3.2
      · exact h1 a ha
theorem strict_not_mem {x z : List UInt8} {l : List (List UInt8)} (h : Strict (z :: l)) (hx : less x z = true) : x ∉ z :: l := by
  intro hm
  rcases List.mem_cons.1 hm with rfl | hm
  · rw [less_irrefl] at hx; simp at hx
  · have := (List.pairwise_cons.1 h).1 x hm
    have := less_trans hx this
    rw [less_irrefl] at this; simp at this
theorem putS_len {x : List UInt8} : ∀ {l : List (List UInt8)}, Strict l → (putS x l).length = l.length + if x ∈ l then 0 else 1
  | [], _ => by simp [putS]
  | z :: l, h => by
    obtain ⟨h1, h2⟩ := List.pairwise_cons.1 h
    rw [putS]
    split
    · rename_i h3
      split
      · rename_i h4
        rw [if_neg (strict_not_mem h h4)]; simp
      · rename_i h4
        have : x = z := by simpa [h4] using h3
        subst this
        simp
    · rename_i h3
      simp only [Bool.or_eq_true, beq_iff_eq, not_or, Bool.not_eq_true] at h3
      rw [List.length_cons, putS_len h2]
      have : (x ∈ z :: l) ↔ x ∈ l := by simp [h3.2]
      simp only [this, List.length_cons]
      omega

theorem fold_put : ∀ (l acc : List (List UInt8)), Strict acc → Strict (l.foldl (fun acc x => putS x acc) acc) ∧ (∀ y, y ∈ l.foldl (fun acc x => putS x acc) acc ↔ y ∈ l ∨ y ∈ acc) ∧
    (l.foldl (fun acc x => putS x acc) acc).length ≤ acc.length + l.length ∧ ((l.foldl (fun acc x => putS x acc) acc).length = acc.length + l.length ↔ l.Nodup ∧ ∀ x ∈ l, x ∉ acc)
  | [], acc, h => by simp [h]
  | x :: l, acc, h => by
    obtain ⟨h1, h2, h3, h4⟩ := fold_put l (putS x acc) (putS_strict h)
    have hl := putS_len (x := x) h
    refine ⟨h1, fun y => ?_, ?_, ?_⟩
    · simp only [List.foldl_cons, h2, putS_mem, List.mem_cons]
      constructor
      · rintro (h | h | h)
        · exact .inl (.inr h)
        · exact .inl (.inl h)
        · exact .inr h
      · rintro ((h | h) | h)
        · exact .inr (.inl h)
        · exact .inl h
        · exact .inr (.inr h)
    · simp only [List.foldl_cons, List.length_cons]
      split at hl <;> omega
    · simp only [List.foldl_cons, List.length_cons, List.nodup_cons, List.mem_cons, forall_eq_or_imp]
      by_cases hx : x ∈ acc
      · rw [if_pos hx] at hl
        refine ⟨fun h => by omega, fun h => absurd hx h.2.1⟩
      · rw [if_neg hx] at hl
        rw [show acc.length + (l.length + 1) = (putS x acc).length + l.length by omega, h4]
        constructor
        · rintro ⟨k1, k2⟩
          exact ⟨⟨fun hm => k2 x hm (putS_mem.2 (.inl rfl)), k1⟩, hx, fun y hy hya => k2 y hy (putS_mem.2 (.inr hya))⟩
        · rintro ⟨⟨k1, k2⟩, _, k3⟩
          refine ⟨k2, fun y hy hyp => ?_⟩
          rcases putS_mem.1 hyp with rfl | hyp
          · exact k1 hy
          · exact k3 y hy hyp
theorem tog_strict (l) : Strict (togS l) := (fold_put l [] List.Pairwise.nil).1
theorem tog_mem (l y) : y ∈ togS l ↔ y ∈ l := by have := (fold_put l [] List.Pairwise.nil).2.1 y; simpa [togS] using this
theorem tog_len (l) : (togS l).length ≤ l.length := by have := (fold_put l [] List.Pairwise.nil).2.2.1; simpa [togS] using this
theorem tog_len_iff (l) : (togS l).length = l.length ↔ l.Nodup := by have := (fold_put l [] List.Pairwise.nil).2.2.2; simpa [togS] using this

theorem strict_eq : ∀ {a b : List (List UInt8)}, Strict a → Strict b → (∀ x, x ∈ a ↔ x ∈ b) → a = b
  | [], [], _, _, _ => rfl
  | [], b :: _, _, _, h => by have := (h b).2 (by simp); simp at this
  | a :: _, [], _, _, h => by have := (h a).1 (by simp); simp at this
  | a :: l, b :: l', h1, h2, h => by
    obtain ⟨p1, q1⟩ := List.pairwise_cons.1 h1
    obtain ⟨p2, q2⟩ := List.pairwise_cons.1 h2
    have e : a = b := by
      rcases List.mem_cons.1 ((h a).1 (by simp)) with e | e
      · exact e
      · rcases List.mem_cons.1 ((h b).2 (by simp)) with e' | e'
        · exact e'.symm
        · have := less_trans (p1 b e') (p2 a e)
          rw [less_irrefl] at this; simp at this
    subst e
    have nm : ∀ {l : List (List UInt8)}, (∀ x ∈ l, less a x = true) → a ∉ l := fun hp hm => by have := hp a hm; rw [less_irrefl] at this; simp at this
    rw [strict_eq q1 q2 fun x => ?_]
    constructor
    · intro hx
      rcases List.mem_cons.1 ((h x).1 (List.mem_cons_of_mem _ hx)) with rfl | hx'
      · exact absurd hx (nm p1)
      · exact hx'
    · intro hx
      rcases List.mem_cons.1 ((h x).2 (List.mem_cons_of_mem _ hx)) with rfl | hx'
      · exact absurd hx (nm p2)
      · exact hx'

theorem rises_strict {r : List (List UInt8)} (h : risesS r = true) : Strict r := by
  have h0 := List.all_eq_true.1 h
  have adj : ∀ i, i + 1 < r.length → less (r.getD i []) (r.getD (i + 1) []) = true := fun i hi => by
    have := h0 (i + 1) (List.mem_range.2 hi)
    simp [badAt] at this
    exact this.2
  have key : ∀ d i, i + d + 1 < r.length → less (r.getD i []) (r.getD (i + d + 1) []) = true := by
    intro d
    induction d with
    | zero => intro i hi; exact adj i (by omega)
    | succ d ih => intro i hi; exact less_trans (ih i (by omega)) (adj (i + d + 1) (by omega))
  refine List.pairwise_iff_getElem.2 fun i j hi hj hij => ?_
  have := key (j - i - 1) i (by omega)
  rw [show i + (j - i - 1) + 1 = j by omega] at this
  simpa [List.getD_eq_getElem?_getD, hi, hj] using this
theorem strict_nodup {r : List (List UInt8)} (h : Strict r) : r.Nodup := by
  refine h.imp fun hl e => ?_
  subst e
  rw [less_irrefl] at hl; simp at hl

theorem sort_ok {l r : List (List UInt8)} (hp : r.Perm l) (h : risesS r = true) : l.Nodup ∧ togS l = r := by
  have hs := rises_strict h
  refine ⟨hp.nodup_iff.1 (strict_nodup hs), strict_eq (tog_strict l) hs fun x => ?_⟩
  rw [tog_mem, hp.mem_iff]
theorem sort_bad {l r : List (List UInt8)} (hp : r.Perm l) (hs : SrtTo r l.length) (h : risesS r = false) (hn : nonN l = false) : ¬ l.Nodup := by
  intro hd
  have hd := hp.nodup_iff.2 hd
  have hrl := hp.length_eq
  have : risesS r = true := rises_ok fun j hj => by
    have hnm : nameS (r.getD j []) = true := by
      have hm : r[j] ∈ l := hp.mem_iff.1 (List.getElem_mem hj)
      have := List.any_eq_false.1 hn _ hm
      simpa [List.getD_eq_getElem?_getD, hj] using this
    rw [badAt, hnm]
    simp only [Bool.not_true, Bool.false_or, Bool.and_eq_false_iff, decide_eq_false_iff_not, Bool.not_eq_false']
    by_cases h0 : 0 < j
    · refine .inr ?_
      have h1 := hs (j - 1) (by omega)
      rw [lt2, show j - 1 + 1 = j by omega] at h1
      cases e : Op.bytesLess (r.getD (j - 1) []) (r.getD j []) with
      | true => rfl
      | false =>
        have := less_total e h1
        simp only [List.getD_eq_getElem?_getD, List.getElem?_eq_getElem hj, List.getElem?_eq_getElem (show j - 1 < r.length by omega), Option.getD_some] at this
        exact absurd this (List.pairwise_iff_getElem.1 hd (j - 1) j (by omega) hj (by omega))
    · exact .inl h0
  rw [h] at this
  simp at this

@[irreducible] def sortE (l : List (List UInt8)) : Int := if nonN l = true then 6 else if (togS l).length = l.length then 0 else 5
@[irreducible] def sortR (l : List (List UInt8)) : List (List UInt8) := if nonN l = false ∧ (togS l).length = l.length then togS l else []

theorem sort_non {l} (h : nonN l = true) : sortE l = 6 ∧ sortR l = [] := by
  rw [sortE, sortR, if_pos h, if_neg (by simp [h])]; exact ⟨rfl, rfl⟩
theorem sort_dup {l} (h : nonN l = false) (h2 : ¬ (togS l).length = l.length) : sortE l = 5 ∧ sortR l = [] := by
  rw [sortE, sortR, if_neg (by simp [h]), if_neg h2, if_neg (by simp [h2])]; exact ⟨rfl, rfl⟩
theorem sort_fine {l} (h : nonN l = false) (h2 : (togS l).length = l.length) : sortE l = 0 ∧ sortR l = togS l := by
  rw [sortE, sortR, if_neg (by simp [h]), if_pos h2, if_pos ⟨h, h2⟩]; exact ⟨rfl, rfl⟩

theorem sort_zero {l} (h : sortE l = 0) : sortR l = togS l ∧ (togS l).length = l.length ∧ nonN l = false := by
  cases hn : nonN l with
  | true => rw [(sort_non hn).1] at h; omega
  | false =>
    by_cases h2 : (togS l).length = l.length
    · exact ⟨(sort_fine hn h2).2, h2, rfl⟩
    · rw [(sort_dup hn h2).1] at h; omega

end Tab
