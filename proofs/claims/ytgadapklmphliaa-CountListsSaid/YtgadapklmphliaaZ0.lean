/- Lemmas for this claim: part 0. No condition. -/
set_option linter.unusedVariables false
set_option linter.unusedSimpArgs false
set_option linter.unusedSectionVars false
/- Places that are met from a first one on, each once, in their order. -/
namespace Tab

/-- The keys that are met, each once, in their order. -/
def metL {α : Type} [DecidableEq α] : List α → List α → List α
  | acc, [] => acc
  | acc, x :: l => metL (if x ∈ acc then acc else acc ++ [x]) l
theorem metL_snoc {α : Type} [DecidableEq α] (x : α) : ∀ (l acc : List α), metL acc (l ++ [x]) = if x ∈ metL acc l then metL acc l else metL acc l ++ [x]
  | [], acc => rfl
  | y :: l, acc => by simp only [List.cons_append, metL]; exact metL_snoc x l _
theorem metL_nodup {α : Type} [DecidableEq α] : ∀ (l acc : List α), acc.Nodup → (metL acc l).Nodup
  | [], _, h => h
  | x :: l, acc, h => by
    rw [metL]
    refine metL_nodup l _ ?_
    split
    · exact h
    · rename_i hx
      exact List.nodup_append.2 ⟨h, by simp, by intro a ha b hb e; simp only [List.mem_singleton] at hb; subst hb; subst e; exact hx ha⟩
theorem metL_mem {α : Type} [DecidableEq α] (y : α) : ∀ (l acc : List α), y ∈ metL acc l ↔ y ∈ acc ∨ y ∈ l
  | [], acc => by simp [metL]
  | x :: l, acc => by
    rw [metL, metL_mem y l]
    split
    · rename_i hx
      constructor
      · rintro (h | h)
        · exact .inl h
        · exact .inr (by simp [h])
      · rintro (h | h)
        · exact .inl h
        · rcases List.mem_cons.1 h with rfl | h
          · exact .inl hx
          · exact .inr h
    · simp [or_assoc]

theorem metL_append {α : Type} [DecidableEq α] : ∀ (a acc b : List α), metL acc (a ++ b) = metL (metL acc a) b
  | [], _, _ => rfl
  | x :: a, acc, b => by simp only [List.cons_append, metL]; exact metL_append a _ b
theorem metL_prefix {α : Type} [DecidableEq α] : ∀ (l acc : List α), ∃ r, metL acc l = acc ++ r
  | [], acc => ⟨[], by simp [metL]⟩
  | x :: l, acc => by
    rw [metL]
    obtain ⟨r, h⟩ := metL_prefix l (if x ∈ acc then acc else acc ++ [x])
    rw [h]
    split
    · exact ⟨r, rfl⟩
    · exact ⟨[x] ++ r, by simp⟩
theorem metL_hit {α : Type} [DecidableEq α] {l : List α} {i p : Nat} (hi : i < l.length) (h : (metL [] (l.take i))[p]? = some l[i]) : (metL [] l).idxOf l[i] = p ∧ metL [] (l.take (i + 1)) = metL [] (l.take i) := by
  have hm := List.mem_of_getElem? h
  have e1 : metL [] (l.take (i + 1)) = metL [] (l.take i) := by
    rw [List.take_succ_eq_append_getElem hi, metL_snoc, if_pos hm]
  refine ⟨?_, e1⟩
  obtain ⟨r, hr⟩ := metL_prefix (l.drop i) (metL [] (l.take i))
  rw [← metL_append, List.take_append_drop] at hr
  rw [hr, List.idxOf_append, if_pos hm]
  obtain ⟨h1, h2⟩ := List.getElem?_eq_some_iff.1 h
  have hn := metL_nodup (l.take i) [] List.nodup_nil
  have hlt := List.idxOf_lt_length_of_mem hm
  have e2 := List.getElem_idxOf hlt
  rcases Nat.lt_trichotomy ((metL [] (l.take i)).idxOf l[i]) p with k | k | k
  · exact absurd (e2.trans h2.symm) (List.pairwise_iff_getElem.1 hn _ _ hlt h1 k)
  · exact k
  · exact absurd (h2.trans e2.symm) (List.pairwise_iff_getElem.1 hn _ _ h1 hlt k)
theorem metL_miss {α : Type} [DecidableEq α] {l : List α} {i : Nat} (hi : i < l.length) (h : l[i] ∉ metL [] (l.take i)) : (metL [] l).idxOf l[i] = (metL [] (l.take i)).length ∧ metL [] (l.take (i + 1)) = metL [] (l.take i) ++ [l[i]] := by
  have e1 : metL [] (l.take (i + 1)) = metL [] (l.take i) ++ [l[i]] := by
    rw [List.take_succ_eq_append_getElem hi, metL_snoc, if_neg h]
  refine ⟨?_, e1⟩
  obtain ⟨r, hr⟩ := metL_prefix (l.drop (i + 1)) (metL [] (l.take (i + 1)))
  rw [← metL_append, List.take_append_drop, e1] at hr
  rw [hr, List.idxOf_append, if_pos (by simp), List.idxOf_append, if_neg h]
  simp
theorem metL_len {α : Type} [DecidableEq α] : ∀ (l acc : List α), (metL acc l).length ≤ acc.length + l.length
  | [], acc => by simp [metL]
  | x :: l, acc => by
    rw [metL]
    refine Nat.le_trans (metL_len l _) ?_
    split <;> simp <;> omega


theorem metL_map {α β : Type} [DecidableEq α] [DecidableEq β] (g : α → β) : ∀ (l acc : List α), (∀ x ∈ acc ++ l, ∀ y ∈ acc ++ l, g x = g y → x = y) → (metL acc l).map g = metL (acc.map g) (l.map g)
  | [], acc, _ => rfl
  | x :: l, acc, h => by
    rw [metL, List.map_cons, metL]
    have hm : x ∈ acc ↔ g x ∈ acc.map g := by
      constructor
      · exact fun h => List.mem_map.2 ⟨x, h, rfl⟩
      · intro hx
        obtain ⟨y, hy, e⟩ := List.mem_map.1 hx
        exact h y (by simp [hy]) x (by simp) e ▸ hy
    by_cases hx : x ∈ acc
    · rw [if_pos hx, if_pos (hm.1 hx)]
      exact metL_map g l acc fun a ha b hb => h a (by simp at ha ⊢; rcases ha with h | h <;> simp [h]) b (by simp at hb ⊢; rcases hb with h | h <;> simp [h])
    · rw [if_neg hx, if_neg fun k => hx (hm.2 k), metL_map g l (acc ++ [x]) fun a ha b hb => h a (by simpa using ha) b (by simpa using hb)]
      simp
theorem metL_sub {α : Type} [DecidableEq α] {l acc : List α} (h : ∀ x ∈ l, x ∈ acc) : metL acc l = acc := by
  induction l with
  | nil => rfl
  | cons x l ih => rw [metL, if_pos (h x (by simp))]; exact ih fun y hy => h y (by simp [hy])

/-- The place of one in a list; the way of comparing is the type's. -/
def ixOf {α : Type} [DecidableEq α] (l : List α) (x : α) : Nat := l.idxOf x
theorem ixOf_get {α : Type} [DecidableEq α] {l : List α} (hn : l.Nodup) {k : Nat} {x : α} (h : l[k]? = some x) : ixOf l x = k := by
  obtain ⟨k1, e1⟩ := List.getElem?_eq_some_iff.1 h
  have hlt := List.idxOf_lt_length_of_mem (List.mem_of_getElem? h)
  have e2 := List.getElem_idxOf hlt
  rcases Nat.lt_trichotomy (l.idxOf x) k with q | q | q
  · exact absurd (e2.trans e1.symm) (List.pairwise_iff_getElem.1 hn _ _ hlt k1 q)
  · exact q
  · exact absurd (e1.trans e2.symm) (List.pairwise_iff_getElem.1 hn _ _ k1 hlt q)

theorem metL_at_hit {α : Type} [DecidableEq α] {acc l : List α} {a : Nat} (ha : a < l.length) (h : l[a] ∈ metL acc (l.take a)) :
    metL acc (l.take (a + 1)) = metL acc (l.take a) ∧ ixOf (metL acc l) l[a] = ixOf (metL acc (l.take a)) l[a] := by
  refine ⟨by rw [List.take_succ_eq_append_getElem ha, metL_snoc, if_pos h], ?_⟩
  obtain ⟨r, hr⟩ := metL_prefix (l.drop a) (metL acc (l.take a))
  rw [← metL_append, List.take_append_drop] at hr
  rw [ixOf, hr, List.idxOf_append, if_pos h]; rfl
theorem metL_at_miss {α : Type} [DecidableEq α] {acc l : List α} {a : Nat} (ha : a < l.length) (h : l[a] ∉ metL acc (l.take a)) :
    metL acc (l.take (a + 1)) = metL acc (l.take a) ++ [l[a]] ∧ ixOf (metL acc l) l[a] = (metL acc (l.take a)).length := by
  have e : metL acc (l.take (a + 1)) = metL acc (l.take a) ++ [l[a]] := by rw [List.take_succ_eq_append_getElem ha, metL_snoc, if_neg h]
  refine ⟨e, ?_⟩
  obtain ⟨r, hr⟩ := metL_prefix (l.drop (a + 1)) (metL acc (l.take (a + 1)))
  rw [← metL_append, List.take_append_drop, e] at hr
  rw [ixOf, hr, List.idxOf_append, if_pos (by simp), List.idxOf_append, if_neg h]
  simp

section
variable {σ : Type} [DecidableEq σ]

/-- From the place number q on; so many at most. -/
def expl (f : σ → List σ) : Nat → Nat → List σ → List σ
  | 0, _, L => L
  | n + 1, q, L => match L[q]? with
    | none => L
    | some s => expl f n (q + 1) (metL L (f s))

theorem expl_some {f : σ → List σ} {n q : Nat} {L : List σ} {s : σ} (h : L[q]? = some s) : expl f (n + 1) q L = expl f n (q + 1) (metL L (f s)) := by rw [expl, h]
theorem expl_none {f : σ → List σ} : ∀ {n q : Nat} {L : List σ}, L.length ≤ q → expl f n q L = L
  | 0, _, _, _ => rfl
  | n + 1, q, L, h => by rw [expl, List.getElem?_eq_none h]

theorem expl_prefix {f : σ → List σ} : ∀ (n q : Nat) (L : List σ), ∃ r, expl f n q L = L ++ r
  | 0, _, L => ⟨[], by simp [expl]⟩
  | n + 1, q, L => by
    rw [expl]
    split
    · exact ⟨[], by simp⟩
    · rename_i s _
      obtain ⟨r, hr⟩ := metL_prefix (f s) L
      obtain ⟨r', hr'⟩ := expl_prefix n (q + 1) (metL L (f s)) (f := f)
      exact ⟨r ++ r', by rw [hr', hr, List.append_assoc]⟩

theorem expl_nodup {f : σ → List σ} : ∀ (n q : Nat) (L : List σ), L.Nodup → (expl f n q L).Nodup
  | 0, _, L, h => h
  | n + 1, q, L, h => by
    rw [expl]
    split
    · exact h
    · exact expl_nodup n (q + 1) _ (metL_nodup _ _ h)

/-- What holds of the first ones and goes from a place to the next holds of all. -/
theorem expl_all {f : σ → List σ} {Q : σ → Prop} (hf : ∀ s, Q s → ∀ t ∈ f s, Q t) : ∀ (n q : Nat) (L : List σ), (∀ s ∈ L, Q s) → ∀ s ∈ expl f n q L, Q s
  | 0, _, L, h => h
  | n + 1, q, L, h => by
    rw [expl]
    split
    · exact h
    · rename_i s hs
      refine expl_all hf n (q + 1) _ fun t ht => ?_
      rcases (metL_mem t _ _).1 ht with ht | ht
      · exact h t ht
      · exact hf s (h s (List.mem_of_getElem? hs)) t ht

/-- Where it came to its end, all that places lead to are there. -/
theorem expl_closed {f : σ → List σ} : ∀ (n q : Nat) (L : List σ), (∀ i, i < q → ∀ s, L[i]? = some s → ∀ t ∈ f s, t ∈ L) → (expl f n q L).length ≤ q + n → ∀ s ∈ expl f n q L, ∀ t ∈ f s, t ∈ expl f n q L
  | 0, q, L, h, hl => by
    intro s hs
    obtain ⟨i, hi, rfl⟩ := List.getElem_of_mem hs
    simp only [expl] at hi hl ⊢
    exact h i (by omega) _ (List.getElem?_eq_getElem hi)
  | n + 1, q, L, h, hl => by
    rw [expl] at hl ⊢
    split at hl
    · rename_i hq
      have hq := List.getElem?_eq_none_iff.1 hq
      intro s hs
      obtain ⟨i, hi, rfl⟩ := List.getElem_of_mem hs
      exact h i (by omega) _ (List.getElem?_eq_getElem hi)
    · rename_i x hx
      refine expl_closed n (q + 1) _ (fun i hi s hs t ht => ?_) (by omega)
      obtain ⟨r, hr⟩ := metL_prefix (f x) L
      have hqL := (List.getElem?_eq_some_iff.1 hx).1
      have hs' : L[i]? = some s := by
        rw [hr, List.getElem?_append_left (by omega)] at hs
        exact hs
      refine (metL_mem t _ _).2 ?_
      by_cases e : i = q
      · subst e
        rw [hx] at hs'
        cases hs'
        exact .inr ht
      · exact .inl (h i (by omega) s hs' t ht)

/-- Places called otherwise. -/
theorem expl_map {τ : Type} [DecidableEq τ] {f : σ → List σ} {f' : τ → List τ} (g : σ → τ) {Q : σ → Prop} (hQ : ∀ s, Q s → ∀ t ∈ f s, Q t) (hg : ∀ x y, Q x → Q y → g x = g y → x = y)
    (hf : ∀ s, Q s → (f s).map g = f' (g s)) : ∀ (n q : Nat) (L : List σ), (∀ s ∈ L, Q s) → (expl f n q L).map g = expl f' n q (L.map g)
  | 0, _, L, _ => rfl
  | n + 1, q, L, h => by
    rw [expl, expl, List.getElem?_map]
    cases hq : L[q]? with
    | none => rfl
    | some s =>
      have hs := h s (List.mem_of_getElem? hq)
      simp only [Option.map_some]
      have hQ' : ∀ t ∈ metL L (f s), Q t := fun t ht => by
        rcases (metL_mem t _ _).1 ht with ht | ht
        · exact h t ht
        · exact hQ s hs t ht
      rw [expl_map g hQ hg hf n (q + 1) _ hQ', metL_map g, hf s hs]
      intro x hx y hy
      have hh : ∀ z ∈ L ++ f s, Q z := fun z hz => by
        rcases List.mem_append.1 hz with hz | hz
        · exact h z hz
        · exact hQ s hs z hz
      exact hg x y (hh x hx) (hh y hy)

theorem nodup_le {l : List Nat} {n : Nat} (h : l.Nodup) (hl : ∀ x ∈ l, x < n) : l.length ≤ n := by
  induction n generalizing l with
  | zero =>
    cases l with
    | nil => simp
    | cons x l => exact absurd (hl x (by simp)) (by omega)
  | succ n ih =>
    by_cases hm : n ∈ l
    · have h1 := List.Nodup.erase n h
      have h2 := List.length_erase_of_mem hm
      have := ih h1 fun x hx => by
        have := (List.Nodup.mem_erase_iff h).1 hx
        have := hl x this.2
        omega
      have : 0 < l.length := List.length_pos_of_mem hm
      omega
    · have := ih h fun x hx => by
        have := hl x hx
        have : x ≠ n := fun e => hm (e ▸ hx)
        omega
      omega

/-- The row of a place: which numbers the places have to which it leads. -/
def rowX (f : σ → List σ) (L : List σ) (s : σ) : List Int := (f s).map fun t => (L.idxOf t : Int)
theorem rowX_grow {f : σ → List σ} {L r : List σ} {s : σ} (h : ∀ t ∈ f s, t ∈ L) : rowX f (L ++ r) s = rowX f L s := by
  rw [rowX, rowX]
  exact List.map_congr_left fun t ht => by rw [List.idxOf_append, if_pos (h t ht)]
theorem idxOf_map {τ : Type} [DecidableEq τ] (g : σ → τ) {x : σ} : ∀ {L : List σ}, (∀ y ∈ L, g y = g x → y = x) → (L.map g).idxOf (g x) = L.idxOf x
  | [], _ => rfl
  | y :: L, h => by
    rw [List.map_cons, List.idxOf_cons, List.idxOf_cons]
    by_cases e : y = x
    · subst e; simp
    · have e' : ¬ g y = g x := fun k => e (h y (by simp) k)
      have e1 : (y == x) = false := by simp [e]
      have e2 : (g y == g x) = false := by simp [e']
      rw [e1, e2]
      simp only [cond_false]
      rw [idxOf_map g fun z hz => h z (by simp [hz])]
theorem rowX_map {τ : Type} [DecidableEq τ] {f : σ → List σ} {f' : τ → List τ} (g : σ → τ) {L : List σ} {s : σ} (hf : (f s).map g = f' (g s)) (hg : ∀ x ∈ f s, ∀ y ∈ L, g y = g x → y = x) :
    rowX f' (L.map g) (g s) = rowX f L s := by
  rw [rowX, rowX, ← hf, List.map_map]
  exact List.map_congr_left fun t ht => by rw [Function.comp_apply, idxOf_map g fun y hy => hg t ht y hy]

/-- The same, with a greatest number of places. -/
def explO (f : σ → List σ) (cap : Nat) : Nat → Nat → List σ → Option (List σ)
  | 0, _, L => some L
  | n + 1, q, L => match L[q]? with
    | none => some L
    | some s => if cap < (metL L (f s)).length then none else explO f cap n (q + 1) (metL L (f s))
theorem explO_some {f : σ → List σ} {cap : Nat} : ∀ {n q : Nat} {L R : List σ}, explO f cap n q L = some R → expl f n q L = R ∧ (L.length ≤ cap → R.length ≤ cap)
  | 0, _, L, R, h => by simp only [explO, Option.some.injEq] at h; subst h; exact ⟨rfl, fun h => h⟩
  | n + 1, q, L, R, h => by
    rw [explO] at h
    rw [expl]
    split at h
    · simp only [Option.some.injEq] at h; subst h; exact ⟨rfl, fun h => h⟩
    · rename_i s hs
      split at h
      · simp at h
      · rename_i hc
        obtain ⟨h1, h2⟩ := explO_some h
        exact ⟨h1, fun _ => h2 (by omega)⟩
theorem explO_map {τ : Type} [DecidableEq τ] {f : σ → List σ} {f' : τ → List τ} (g : σ → τ) {cap : Nat} {Q : σ → Prop} (hQ : ∀ s, Q s → ∀ t ∈ f s, Q t) (hg : ∀ x y, Q x → Q y → g x = g y → x = y)
    (hf : ∀ s, Q s → (f s).map g = f' (g s)) : ∀ (n q : Nat) (L : List σ), (∀ s ∈ L, Q s) → (explO f cap n q L).map (List.map g) = explO f' cap n q (L.map g)
  | 0, _, L, _ => rfl
  | n + 1, q, L, h => by
    rw [explO, explO, List.getElem?_map]
    cases hq : L[q]? with
    | none => rfl
    | some s =>
      have hs := h s (List.mem_of_getElem? hq)
      simp only [Option.map_some]
      have hQ' : ∀ t ∈ metL L (f s), Q t := fun t ht => by
        rcases (metL_mem t _ _).1 ht with ht | ht
        · exact h t ht
        · exact hQ s hs t ht
      have e : (metL L (f s)).map g = metL (L.map g) (f' (g s)) := by
        rw [metL_map g, hf s hs]
        intro x hx y hy
        have hh : ∀ z ∈ L ++ f s, Q z := fun z hz => by
          rcases List.mem_append.1 hz with hz | hz
          · exact h z hz
          · exact hQ s hs z hz
        exact hg x y (hh x hx) (hh y hy)
      rw [← e, List.length_map]
      split
      · rfl
      · exact explO_map g hQ hg hf n (q + 1) _ hQ'
end

end Tab
