/- Lemmas for this claim: part 8. No condition. -/
import Derived.Test.YtaefnklilphdkaaDoorZ6
import Derived.Test.YtaefnklilphdkaaDoorZ7
import Derived.KernelRfl
import Derived.IntWalk
set_option linter.unusedVariables false
set_option linter.unusedSimpArgs false
set_option linter.unusedSectionVars false
/- Lists as slices; small laws for slots. -/
namespace Tab
open Go
variable [Globs]

def aSs (k : SK) (l : List (List UInt8)) : AV := .sl k l.length (l.map .str)
def aIs (k : SK) (l : List Int) : AV := .sl k l.length (l.map (.int .i64))
def aBs (k : SK) (l : List Bool) : AV := .sl k l.length (l.map .bool)
/-- Rows of numbers, each with what is known of it. -/
def aRs (k : SK) (l : List (SK × List Int)) : AV := .sl k l.length (l.map fun r => aIs r.1 r.2)

theorem aSs_closed (k l) : (aSs k l).closed := by simp [aSs, AV.closed, closeds_iff]
theorem aIs_closed (k l) : (aIs k l).closed := by simp [aIs, AV.closed, closeds_iff]
theorem aBs_closed (k l) : (aBs k l).closed := by
  simp only [aBs, AV.closed, closeds_iff, List.mem_map]
  rintro a ⟨r, _, rfl⟩
  simp [AV.closed]
theorem aRs_closed (k l) : (aRs k l).closed := by
  simp only [aRs, AV.closed, closeds_iff, List.mem_map]
  rintro a ⟨r, _, rfl⟩
  exact aIs_closed _ _

/-- A machine: tracks, which states accept, rows. -/
structure Den where
  tk : SK
  tracks : List (List UInt8)
  ak : SK
  accept : List Bool
  nk : SK
  next : List (SK × List Int)

def Den.cells (d : Den) : List AV := [aSs d.tk d.tracks, aBs d.ak d.accept, aRs d.nk d.next]
def aDen (d : Den) : AV := .agg d.cells
theorem aDen_closed (d : Den) : (aDen d).closed := by
  simp [aDen, Den.cells, AV.closed, closeds, aSs_closed, aBs_closed, aRs_closed]

theorem finV {P : Program} {nt : Fr} {rs : List ResultVar} {v v' : AV} {s : Slots} {H : List Blk} (h : resA P rs s H = some v') (e : v' = v) : finE P nt rs v s H := finE_of (h.trans (congrArg some e))
def cFst : Code → Code | .seq x _ => x | c => c
def cSnd : Code → Code | .seq _ y => y | c => c

/-- A pure call, done. -/
theorem callP {P : Program} {f : FuncId} {args : List AV} {v : AV} {H : List Blk} {X : Out → List Blk → Prop} (h : Pure P f args v) (k : X (.ret v) H) :
    ∃ R : Out → List Blk → Prop, ACall P f args H R ∧ ∀ o H', R o H' → X o H' := ⟨_, h.acall H, by rintro _ _ ⟨rfl, rfl⟩; exact k⟩
/-- A call that answers this, and leaves this heap. -/
theorem callH {P : Program} {f : FuncId} {args : List AV} {v : AV} {H H₁ : List Blk} {X : Out → List Blk → Prop} (h : ACall P f args H fun o H' => o = .ret v ∧ H' = H₁) (k : X (.ret v) H₁) :
    ∃ R : Out → List Blk → Prop, ACall P f args H R ∧ ∀ o H', R o H' → X o H' := ⟨_, h, by rintro _ _ ⟨rfl, rfl⟩; exact k⟩
/-- A pure call whose arguments are read out of the heap, and whose answer has no memory. -/
theorem callB {P : Program} {f : FuncId} {args as : List AV} {v : AV} {H : List Blk} {X : Out → List Blk → Prop} (h : Pure P f args v) (hv : scalR v = true) (hr : Rds H as args) (k : X (.ret v) H) :
    ∃ R : Out → List Blk → Prop, ACall P f as H R ∧ ∀ o H', R o H' → X o H' := ⟨_, h.borrow hv hr, by rintro _ _ ⟨rfl, rfl⟩; exact k⟩

theorem RdsN_refl : ∀ (l : List AV), RdsN [] l l
  | [] => .nil
  | a :: l => .same (RdsN_refl l)
theorem none_need {H : List Blk} : ∀ p ∈ ([] : List (Nat × Blk)), H[p.1]? = some p.2 := fun _ h => by simp at h

theorem decB_dec {p : Prop} [Decidable p] {A B : Prop} (h : p → A) (k : ¬ p → B) : decB (decide p) A B := by
  by_cases hp : p
  · rw [decide_eq_true hp]; exact h hp
  · rw [decide_eq_false hp]; exact k hp

/-- A result that is a row of the heap: it is given away. -/
theorem finFrz {P : Program} {nt : Fr} {rs : List ResultVar} {cs : List AV} {n : Nat} {s : Slots} {H : List Blk} (t : Nat) {b g es : Nat} (ht : s t = .hs b g 0 n es) (hb : H[b]? = some (.cells g cs)) (hfit : n * es = cs.length) (hrs : rs = [.tmp t]) : finE P nt rs (.sl .any n cs) s H := by
  subst hrs
  exact ⟨_, _, Ent.freeze t ht hb hfit, by simp [resA, resAll, resOne, upd]⟩

theorem Ent.to {nt : Fr} {s s' : Slots} {H H₁ H' : List Blk} (h : Ent nt s H s' H₁) (e : H₁ = H') : Ent nt s H s' H' := by subst e; exact h

/-- Whatever is known of a slice: it is nil, or it isn't. -/
theorem Pure.anyK {P : Program} {f : FuncId} {k : SK} {n : Nat} {cs rest : List AV} {v : AV} (h0 : n = 0 → cs = [] → Pure P f (.sl .nil 0 [] :: rest) v) (h1 : Pure P f (.sl .nn n cs :: rest) v) : Pure P f (.sl k n cs :: rest) v := by
  refine ⟨by have := h1.cargs; simpa only [closeds, AV.closed] using this, h1.cval, h1.call.1, fun m ro w cargs hi hx => ?_⟩
  simp only [VsRel] at hx
  obtain ⟨u, us, e, hu, hus⟩ := hx
  simp only [VRel] at hu
  rcases hu with ⟨_, hv, rfl, rfl⟩ | ⟨hk, ad, cap, hv, hle, _, hc⟩
  · exact (h0 rfl rfl).call.2 m ro w cargs hi (by simp only [VsRel, VRel]; exact ⟨u, us, e, .inl ⟨.inl trivial, hv, trivial, trivial⟩, hus⟩)
  · exact h1.call.2 m ro w cargs hi (by simp only [VsRel, VRel]; exact ⟨u, us, e, .inr ⟨by simp, ad, cap, hv, hle, by simp, hc⟩, hus⟩)

theorem Ent.slotTo {nt : Fr} {s : Slots} {H : List Blk} {x y : AV} (t : Nat) (ht : s t = x) (hxy : ∀ m ro w v, VRel m ro w x v → VRel m ro w y v) : Ent nt s H (upd s t y) H := by
  rintro c a w ⟨m, ro, hi, hst, hsl, hsz, hd⟩
  refine ⟨m, ro, hi, hst, fun t' => ?_, hsz, hd⟩
  simp only [upd]
  by_cases e : t' = t
  · subst e
    simp only [Nat.beq_refl, cond_true]
    have := hsl t'
    rw [ht] at this
    exact hxy _ _ _ _ this
  · have : Nat.beq t' t = false := by rw [← Bool.not_eq_true]; intro h; exact e (Nat.eq_of_beq_eq_true h)
    rw [this]
    exact hsl t'

theorem sl_any {m : Mp} {ro : Nat → Prop} {w : World} {k : SK} {n : Nat} {cs : List AV} {v : Value} (h : VRel m ro w (.sl k n cs) v) : VRel m ro w (.sl .any n cs) v := by
  simp only [VRel] at h ⊢
  rcases h with ⟨_, h⟩ | ⟨_, ad, cap, h1, h2, _, h4⟩
  · exact .inl ⟨.inr trivial, h⟩
  · exact .inr ⟨by simp, ad, cap, h1, h2, by simp, h4⟩

/-- A result of which less is said. -/
theorem finTo {P : Program} {nt : Fr} {rs : List ResultVar} {x y : AV} {s : Slots} {H : List Blk} (t : Nat) (ht : s t = x) (hxy : ∀ m ro w v, VRel m ro w x v → VRel m ro w y v) (hrs : rs = [.tmp t]) : finE P nt rs y s H := by
  subst hrs
  exact ⟨_, _, Ent.slotTo t ht hxy, by simp [resA, resAll, resOne, upd]⟩

theorem inc_slot {i : Nat} (h : i < 9223372036854775807) : AV.int .i64 (IntKind.wrap .i64 ((i : Int) + 1)) = AV.int .i64 ((i + 1 : Nat) : Int) := by
  rw [IntWalk.i64_in _ (by omega)]; simp
theorem dec_slot {i : Nat} (h : 0 < i) (h2 : i < 9223372036854775807) : AV.int .i64 (IntKind.wrap .i64 ((i : Int) - 1)) = AV.int .i64 ((i - 1 : Nat) : Int) := by
  rw [IntWalk.i64_in _ (by omega)]; congr 1; omega
theorem dec_slot' {i : Nat} (h2 : i < 9223372036854775807) : AV.int .i64 (IntKind.wrap .i64 ((i : Int) - 1)) = AV.int .i64 ((i : Int) - 1) := by
  rw [IntWalk.i64_in _ (by omega)]

theorem set_last {α : Type} (pre : List α) (x y : α) : (pre ++ [x]).set pre.length y = pre ++ [y] := by
  rw [List.set_append_right _ _ (Nat.le_refl _), Nat.sub_self]; rfl

/-- A row that was put at a list's end is given away. -/
theorem Ent.rowEnd {nt : Fr} {s : Slots} {H : List Blk} {gb gr n es : Nat} {pre cs : List AV} (b r : Nat) (hb : H[b]? = some (.cells gb (pre ++ [.hs r gr 0 n es]))) (hr : H[r]? = some (.cells gr cs)) (hne : b ≠ r) (hfit : n * es = cs.length) :
    Ent nt s H s ((H.set r (.fro gr cs)).set b (.cells gb (pre ++ [.sl .any n cs]))) := by
  have := Ent.freezeCell (nt := nt) (s := s) (H := H) b pre.length hb (by simp) hr hne hfit
  rwa [set_last] at this

theorem bels_append {n : Nat} {a b : List AV} : bels n (a ++ b) ↔ bels n a ∧ bels n b := by
  simp only [bels_iff, List.mem_append]
  exact ⟨fun h => ⟨fun x hx => h x (.inl hx), fun x hx => h x (.inr hx)⟩, fun h x hx => hx.elim (h.1 x) (h.2 x)⟩
theorem bels_map {n : Nat} {X : Type} {f : X → AV} {l : List X} : bels n (l.map f) ↔ ∀ x ∈ l, (f x).bel n := by simp [bels_iff]
theorem aSs_bel (n k l) : (aSs k l).bel n := AV.closed_bel _ (aSs_closed k l)
theorem aIs_bel (n k l) : (aIs k l).bel n := AV.closed_bel _ (aIs_closed k l)
theorem aBs_bel (n k l) : (aBs k l).bel n := AV.closed_bel _ (aBs_closed k l)
theorem aRs_bel (n k l) : (aRs k l).bel n := AV.closed_bel _ (aRs_closed k l)
theorem aDen_bel (n d) : (aDen d).bel n := AV.closed_bel _ (aDen_closed d)
theorem cells_bel (n) (d : Den) : bels n d.cells := by have := aDen_bel n d; simpa [aDen, AV.bel] using this

/-- At a function's end: the state is looked at, changed to one that says less, and read. -/
theorem finH {P : Program} {nt : Fr} {rs : List ResultVar} {v : AV} {s s' : Slots} {H H₁ H' : List Blk} {l : List (Nat × AV)} (hf : frOk s l) (hH : H = H₁) (e : Ent nt (Tab.fr l) H₁ s' H') (r : resA P rs s' H' = some v) : finE P nt rs v s H :=
  ⟨s', H', (Ent.fr' hf hH).trans e, r⟩

theorem blksBel_append {n : Nat} : ∀ {a b : List Blk}, blksBel n (a ++ b) ↔ blksBel n a ∧ blksBel n b
  | [], b => by simp [blksBel]
  | x :: a, b => by simp [blksBel, blksBel_append (a := a) (b := b), and_assoc]

theorem split_at2 {α : Type} {H pre : List α} {x y : α} (h0 : H.take pre.length = pre) (h1 : H[pre.length]? = some x) (h2 : H[pre.length + 1]? = some y) : ∃ X, H = pre ++ x :: y :: X := by
  refine ⟨H.drop (pre.length + 2), ?_⟩
  have e : H = H.take pre.length ++ H.drop pre.length := (List.take_append_drop ..).symm
  have l1 := (List.getElem?_eq_some_iff.1 h1)
  have l2 := (List.getElem?_eq_some_iff.1 h2)
  obtain ⟨k1, e1⟩ := l1
  obtain ⟨k2, e2⟩ := l2
  rw [h0, List.drop_eq_getElem_cons k1, List.drop_eq_getElem_cons k2, e1, e2] at e
  exact e

/-- A round's end: a row was put at the end of a list; what is behind is forgotten. -/
theorem Ent.rowNext {nt : Fr} {s : Slots} {H H' : List Blk} {l : List (Nat × AV)} {gb gr n es r : Nat} {L cs : List AV} (pre : List Blk) (hf : frOk s l) (h0 : H.take pre.length = pre) (h1 : H[pre.length]? = some (.cells gb (L ++ [.hs r gr 0 n es])))
    (h2 : H[pre.length + 1]? = some (.cells gr cs)) (hr : r = pre.length + 1) (hfit : n * es = cs.length)
    (hk : nt.k ≤ pre.length + 1) (hl : frBel (pre.length + 1) l) (hp : blksBel (pre.length + 1) pre) (hL : bels (pre.length + 1) L) (hcs : bels (pre.length + 1) cs) (e : pre ++ [.cells gb (L ++ [.sl .any n cs])] = H') : Ent nt s H (Tab.fr l) H' := by
  subst e
  subst hr
  obtain ⟨X, hH⟩ := split_at2 h0 h1 h2
  refine (Ent.fr' hf hH).trans ?_
  have h1 := Ent.rowEnd (nt := nt) (s := Tab.fr l) (H := pre ++ .cells gb (L ++ [.hs (pre.length + 1) gr 0 n es]) :: .cells gr cs :: X) pre.length (pre.length + 1) (gb := gb) (gr := gr) (n := n) (es := es) (pre := L) (cs := cs)
    (by simp) (by rw [List.getElem?_append_right (by omega)]; simp) (by omega) hfit
  refine h1.trans ?_
  rw [List.set_append_right _ _ (by omega), show pre.length + 1 - pre.length = 1 by omega, List.set_append_right _ _ (Nat.le_refl _), Nat.sub_self]
  have h2 := Ent.drop (nt := nt) (l := l) (H := pre ++ [.cells gb (L ++ [.sl .any n cs])]) (X := .fro gr cs :: X) (by simpa using hk) (by simpa using hl)
    (by simp only [List.length_append, List.length_singleton]; rw [blksBel_append]; exact ⟨hp, by simp only [Blk.bel, bels_append]; exact ⟨hL, by simp only [bels, AV.bel]; exact ⟨hcs, trivial⟩⟩, trivial⟩)
  simpa using h2

theorem bels_take {n k : Nat} {l : List AV} (h : bels n l) : bels n (l.take k) := bels_iff.2 fun x hx => bels_iff.1 h x (List.mem_of_mem_take hx)
theorem bels_drop {n k : Nat} {l : List AV} (h : bels n l) : bels n (l.drop k) := bels_iff.2 fun x hx => bels_iff.1 h x (List.mem_of_mem_drop hx)
theorem bels_td {n k j : Nat} {l : List AV} (h : bels n l) : bels n ((l.drop k).take j) := bels_take (bels_drop h)
theorem td_all {α : Type} {l : List α} {n : Nat} (h : l.length ≤ n * 1) : (l.drop 0).take (n * 1) = l := by rw [List.drop_zero, List.take_of_length_le h]

theorem ACall.anyK {P : Program} {f : FuncId} {k : SK} {n : Nat} {cs rest : List AV} {H : List Blk} {R : Out → List Blk → Prop} (h0 : n = 0 → cs = [] → ACall P f (.sl .nil 0 [] :: rest) H R) (h1 : ACall P f (.sl .nn n cs :: rest) H R) : ACall P f (.sl k n cs :: rest) H R := by
  refine ⟨h1.1, fun m ro w cargs hi hx => ?_⟩
  simp only [VsRel] at hx
  obtain ⟨u, us, e, hu, hus⟩ := hx
  simp only [VRel] at hu
  rcases hu with ⟨_, hv, rfl, rfl⟩ | ⟨hk, ad, cap, hv, hle, _, hc⟩
  · exact (h0 rfl rfl).2 m ro w cargs hi (by simp only [VsRel, VRel]; exact ⟨u, us, e, .inl ⟨.inl trivial, hv, trivial, trivial⟩, hus⟩)
  · exact h1.2 m ro w cargs hi (by simp only [VsRel, VRel]; exact ⟨u, us, e, .inr ⟨by simp, ad, cap, hv, hle, by simp, hc⟩, hus⟩)

theorem finR {P : Program} {nt : Fr} {rs : List ResultVar} {v : AV} {s s' : Slots} {H H₁ H' : List Blk} {l : List (Nat × AV)} {R : Out → List Blk → Prop} (hf : frOk s l) (hH : H = H₁) (e : Ent nt (Tab.fr l) H₁ s' H') (r : resA P rs s' H' = some v) (k : R (.ret v) H') :
    RetE P nt rs R s H := ⟨s', H', v, (Ent.fr' hf hH).trans e, r, k⟩

theorem get_last {α : Type} (A : List α) (x : α) : (A ++ [x])[A.length]? = some x := by simp
theorem over_one {cs : List AV} {i : Nat} {x : AV} (h : i < cs.length) : over cs i [x] = cs.set i x := by
  rw [over, List.set_eq_take_append_cons_drop, if_pos h]; simp
theorem reps_one (x : AV) : ∀ n, reps [x] n = List.replicate n x
  | 0 => rfl
  | n + 1 => by rw [reps, reps_one x n]; rfl

/-- A row that is filled from its beginning: the first a are there. -/
def partL (f : Nat → Int) (n a : Nat) : List Int := (List.range n).map fun j => if j < a then f j else 0
theorem partL_length (f n a) : (partL f n a).length = n := by simp [partL]
theorem partL_zero (f n) : partL f n 0 = List.replicate n 0 := by
  rw [partL]; exact List.ext_getElem (by simp) (by simp)
theorem partL_full (f n) : partL f n n = (List.range n).map f := by
  rw [partL]; exact List.map_congr_left fun j hj => if_pos (List.mem_range.1 hj)
theorem partL_step {f n a} : (partL f n a).set a (f a) = partL f n (a + 1) := by
  refine List.ext_getElem (by simp [partL]) fun j h1 h2 => ?_
  simp only [partL, List.getElem_set, List.getElem_map, List.getElem_range]
  by_cases e : a = j
  · subst e; simp
  · rw [if_neg e]
    by_cases h : j < a
    · rw [if_pos h, if_pos (by omega)]
    · rw [if_neg h, if_neg (by omega)]
theorem blksBel_map {n : Nat} {X : Type} {f : X → Blk} {l : List X} : blksBel n (l.map f) ↔ ∀ x ∈ l, (f x).bel n := by
  induction l with
  | nil => simp [blksBel]
  | cons x l ih => simp [blksBel, ih]

/-- The last block that matters is a slot's row: it is given away, and all from there on forgotten. -/
theorem Ent.freezeLast {nt : Fr} {s : Slots} {H : List Blk} {l l' : List (Nat × AV)} {g n es : Nat} {cs : List AV} (pre : List Blk) (t : Nat) (hf : frOk s l) (h0 : H.take pre.length = pre) (h1 : H[pre.length]? = some (.cells g cs))
    (ht : Tab.fr l t = .hs pre.length g 0 n es) (hfit : n * es = cs.length) (hk : nt.k ≤ pre.length) (hl : frOk (upd (Tab.fr l) t (.sl .any n cs)) l') (hb : frBel pre.length l') (hp : blksBel pre.length pre) : Ent nt s H (Tab.fr l') pre := by
  obtain ⟨X, hH⟩ : ∃ X, H = pre ++ .cells g cs :: X := by
    refine ⟨H.drop (pre.length + 1), ?_⟩
    have e : H = H.take pre.length ++ H.drop pre.length := (List.take_append_drop ..).symm
    obtain ⟨k1, e1⟩ := List.getElem?_eq_some_iff.1 h1
    rw [h0, List.drop_eq_getElem_cons k1, e1] at e
    exact e
  refine (Ent.fr' hf hH).trans ?_
  have h := Ent.freeze (nt := nt) (s := Tab.fr l) (H := pre ++ .cells g cs :: X) (b := pre.length) t ht (by simp) hfit
  refine h.trans ?_
  rw [List.set_append_right _ _ (Nat.le_refl _), Nat.sub_self]
  exact Ent.frD (X := .fro g cs :: X) hl rfl hk hb hp

/-- Arguments read out of blocks that nobody writes any more. -/
inductive FzN (H : List Blk) : List AV → List AV → Prop
  | nil : FzN H [] []
  | same {a as as'} (t : FzN H as as') : FzN H (a :: as) (a :: as')
  | hs {b g n es cs as as'} (hb : H[b]? = some (.fro g cs)) (hfit : n * es = cs.length) (t : FzN H as as') : FzN H (.hs b g 0 n es :: as) (.sl .any n cs :: as')

theorem FzN.rel {H : List Blk} {m : Mp} {ro : Nat → Prop} {w : World} (hi : InvL m ro H w) {as as' : List AV} (h : FzN H as as') : ∀ {vs : List Value}, VsRel m ro w as vs → VsRel m ro w as' vs := by
  induction h with
  | nil => intro vs h; exact h
  | same t ih =>
    intro vs hv
    simp only [VsRel] at hv ⊢
    obtain ⟨v, vs', rfl, h1, h2⟩ := hv
    exact ⟨v, vs', rfl, h1, ih h2⟩
  | @hs b g n es cs as as' hb hfit t ih =>
    intro vs hv
    simp only [VsRel] at hv ⊢
    obtain ⟨v, vs', rfl, h1, h2⟩ := hv
    refine ⟨v, vs', rfl, ?_, ih h2⟩
    have := froz_val hi hb (by omega) h1
    rwa [List.drop_zero, hfit, List.take_length] at this

theorem InvL.froz {m ro w} {H : List Blk} {g : Nat} {cs : List AV} (hi : InvL m ro H w) (b : Nat) (hb : H[b]? = some (.cells g cs)) :
    ∃ ro', InvL m ro' (H.set b (.fro g cs)) w ∧ Step m ro (lk H) w m ro' (lk (H.set b (.fro g cs))) w := by
  have hlt := (List.getElem?_eq_some_iff.1 hb).1
  obtain ⟨k1, k2⟩ := hi.inv.change₀ (m' := m) (ro' := fun cb => ro cb ∨ Owns m (lk H) b cb) (H' := lk (H.set b (.fro g cs))) b (.fro g cs) (fun _ _ _ h => h) (fun _ _ => .inl rfl) (lk_set hlt)
    (fun g cb base h => by simp [Blk.own] at h) (fun g h => by simp [Blk.own] at h) (fun _ h => .inl h) (fun _ h => h)
    (fun keep loc hl => by
      have h := hi.inv.blk b _ hb loc hl
      cases loc with
      | void => exact h
      | «at» cb base =>
        obtain ⟨c, t, hc, hlay⟩ := h
        refine CsRel_iff.2 ?_
        intro i x hix
        obtain ⟨v, hv, ho, hr⟩ := hlay i x hix
        exact ⟨.inr ⟨_, g, base, hb, rfl, hl⟩, v, by simp only [World.cell?, hc]; simpa using hv, ho, keep x v hr⟩)
  exact ⟨_, ⟨k1, fun b g loc h => by simpa using hi.bound b g loc h⟩, k2⟩

/-- A block is given away ahead of a call. -/
theorem ACall.froz {P : Program} {f : FuncId} {as : List AV} {H : List Blk} {R : Out → List Blk → Prop} {g : Nat} {cs : List AV} (b : Nat) (hb : H[b]? = some (.cells g cs)) (h : ACall P f as (H.set b (.fro g cs)) R) : ACall P f as H R := by
  refine ⟨h.1, fun m ro w cargs hi hx => ?_⟩
  obtain ⟨ro', hi', hst⟩ := hi.froz b hb
  refine (h.2 m ro' w cargs hi' (hx.step hi.inv hst)).mono ?_
  rintro e w' ⟨m', ro₂, out, H', h1, h2, h3, h4⟩
  exact ⟨m', ro₂, out, H', h1, h2, h3, hst.trans h4⟩

theorem ACall.fz {P : Program} {f : FuncId} {as args : List AV} {H : List Blk} {R : Out → List Blk → Prop} (hz : FzN H as args) (h : ACall P f args H R) : ACall P f as H R :=
  ⟨h.1, fun m ro w cargs hi hx => h.2 m ro w cargs hi (hz.rel hi hx)⟩

/-- A pure call with a slice of a block, that is given away. -/
theorem callZ {P : Program} {f : FuncId} {args as : List AV} {v : AV} {H : List Blk} {X : Out → List Blk → Prop} {g : Nat} {cs : List AV} (b : Nat) (hb : H[b]? = some (.cells g cs)) (h : Pure P f args v) (hz : FzN (H.set b (.fro g cs)) as args) (k : X (.ret v) (H.set b (.fro g cs))) :
    ∃ R : Out → List Blk → Prop, ACall P f as H R ∧ ∀ o H', R o H' → X o H' := ⟨_, (ACall.fz hz (h.acall _)).froz b hb, by rintro _ _ ⟨rfl, rfl⟩; exact k⟩

/-- A state's slots chosen, the heap cut. -/
theorem Ent.frT {nt : Fr} {s : Slots} {H H' : List Blk} {l : List (Nat × AV)} (n : Nat) (h : frOk s l) (e : H.take n = H') (hk : nt.k ≤ H'.length) (hl : frBel H'.length l) (hH : blksBel H'.length H') : Ent nt s H (Tab.fr l) H' :=
  Ent.frD (X := H.drop n) h (by rw [← e, List.take_append_drop]) hk hl hH

/-- A pure call with slices of blocks that nobody writes any more. -/
theorem callY {P : Program} {f : FuncId} {args as : List AV} {v : AV} {H : List Blk} {X : Out → List Blk → Prop} (h : Pure P f args v) (hz : FzN H as args) (k : X (.ret v) H) :
    ∃ R : Out → List Blk → Prop, ACall P f as H R ∧ ∀ o H', R o H' → X o H' := ⟨_, ACall.fz hz (h.acall _), by rintro _ _ ⟨rfl, rfl⟩; exact k⟩

theorem callZ2 {P : Program} {f : FuncId} {args as : List AV} {v : AV} {H : List Blk} {X : Out → List Blk → Prop} {g g' : Nat} {cs cs' : List AV} (b b' : Nat) (hb : H[b]? = some (.cells g cs)) (hb' : (H.set b (.fro g cs))[b']? = some (.cells g' cs')) (h : Pure P f args v)
    (hz : FzN ((H.set b (.fro g cs)).set b' (.fro g' cs')) as args) (k : X (.ret v) ((H.set b (.fro g cs)).set b' (.fro g' cs'))) : ∃ R : Out → List Blk → Prop, ACall P f as H R ∧ ∀ o H', R o H' → X o H' :=
  ⟨_, ((ACall.fz hz (h.acall _)).froz b' hb').froz b hb, by rintro _ _ ⟨rfl, rfl⟩; exact k⟩

/-- The two ways of a condition lead to one state; what is behind is proved once. -/
def joinK (nt : Fr) (s' : Slots) (H' : List Blk) (K : Post) : Post := fun e s H => match e with
  | .normal => Ent nt s H s' H'
  | e => K e s H
theorem VCode.join {P : Program} {nt : Fr} {c : Operand} {x y : Code} {s : Slots} {H : List Blk} {K : Post} {b : Bool} (s' : Slots) (H' : List Blk) (hc : ev s c = .bool b) (hx : b = true → VCode P nt x s H (joinK nt s' H' K)) (hy : b = false → VCode P nt y s H (joinK nt s' H' K))
    (hz : ∀ s₁ H₁, Ent nt s₁ H₁ s' H' → K .normal s₁ H₁) : VCode P nt (.cond c x y) s H K := by
  refine ⟨SW.mono (SW.cond hc (fun h => (hx h).out) (fun h => (hy h).out)) fun e s₁ H₁ h => ?_⟩
  cases e with
  | normal => exact hz s₁ H₁ h
  | _ => exact h

end Tab
