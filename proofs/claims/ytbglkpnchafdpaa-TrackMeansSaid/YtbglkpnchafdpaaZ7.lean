/- Lemmas for this claim: part 7. No condition. -/
import Derived.Test.YtbglkpnchafdpaaZ0
import Derived.Test.YtbglkpnchafdpaaZ5
import Derived.Test.YtbglkpnchafdpaaZ6
import Derived.KernelRfl
import Derived.IntWalk
set_option linter.unusedVariables false
set_option linter.unusedSimpArgs false
set_option linter.unusedSectionVars false
/- Lists as slices; small laws for slots. -/
namespace Tab
open Go
variable [Globs]

def aSs (k : SK) (l : List (List UInt8)) : AV := .sl k l.length (l.map .str)
def aIs (k : SK) (l : List Int) : AV := .sl k l.length (l.map (.int .i64))
def aBs (k : SK) (l : List Bool) : AV := .sl k l.length (l.map .bool)
/-- Rows of numbers, each with what is known of it. -/
def aRs (k : SK) (l : List (SK × List Int)) : AV := .sl k l.length (l.map fun r => aIs r.1 r.2)

theorem aSs_closed (k l) : (aSs k l).closed := by simp [aSs, AV.closed, closeds_iff]
theorem aIs_closed (k l) : (aIs k l).closed := by simp [aIs, AV.closed, closeds_iff]
theorem aBs_closed (k l) : (aBs k l).closed := by
  simp only [aBs, AV.closed, closeds_iff, List.mem_map]
  rintro a ⟨r, _, rfl⟩
  simp [AV.closed]
theorem aRs_closed (k l) : (aRs k l).closed := by
  simp only [aRs, AV.closed, closeds_iff, List.mem_map]
  rintro a ⟨r, _, rfl⟩
  exact aIs_closed _ _

/-- A machine: tracks, which states accept, rows. -/
structure Den where
  tk : SK
  tracks : List (List UInt8)
  ak : SK
  accept : List Bool
  nk : SK
  next : List (SK × List Int)

def Den.cells (d : Den) : List AV := [aSs d.tk d.tracks, aBs d.ak d.accept, aRs d.nk d.next]
def aDen (d : Den) : AV := .agg d.cells
theorem aDen_closed (d : Den) : (aDen d).closed := by
  simp [aDen, Den.cells, AV.closed, closeds, aSs_closed, aBs_closed, aRs_closed]

theorem finV {P : Program} {nt : Fr} {rs : List ResultVar} {v v' : AV} {s : Slots} {H : List Blk} (h : resA P rs s H = some v') (e : v' = v) : finE P nt rs v s H := finE_of (h.trans (congrArg some e))
def cFst : Code → Code | .seq x _ => x | c => c
def cSnd : Code → Code | .seq _ y => y | c => c

/-- A pure call, done. -/
theorem callP {P : Program} {f : FuncId} {args : List AV} {v : AV} {H : List Blk} {X : Out → List Blk → Prop} (h : Pure P f args v) (k : X (.ret v) H) :
    ∃ R : Out → List Blk → Prop, ACall P f args H R ∧ ∀ o H', R o H' → X o H' := ⟨_, h.acall H, by rintro _ _ ⟨rfl, rfl⟩; exact k⟩
/-- A call that answers this, and leaves this heap. -/
theorem callH {P : Program} {f : FuncId} {args : List AV} {v : AV} {H H₁ : List Blk} {X : Out → List Blk → Prop} (h : ACall P f args H fun o H' => o = .ret v ∧ H' = H₁) (k : X (.ret v) H₁) :
    ∃ R : Out → List Blk → Prop, ACall P f args H R ∧ ∀ o H', R o H' → X o H' := ⟨_, h, by rintro _ _ ⟨rfl, rfl⟩; exact k⟩
/-- A pure call whose arguments are read out of the heap, and whose answer has no memory. -/
theorem callB {P : Program} {f : FuncId} {args as : List AV} {v : AV} {H : List Blk} {X : Out → List Blk → Prop} (h : Pure P f args v) (hv : scalR v = true) (hr : Rds H as args) (k : X (.ret v) H) :
    ∃ R : Out → List Blk → Prop, ACall P f as H R ∧ ∀ o H', R o H' → X o H' := ⟨_, h.borrow hv hr, by rintro _ _ ⟨rfl, rfl⟩; exact k⟩

theorem RdsN_refl : ∀ (l : List AV), RdsN [] l l
  | [] => .nil
  | a :: l => .same (RdsN_refl l)
theorem none_need {H : List Blk} : ∀ p ∈ ([] : List (Nat × Blk)), H[p.1]? = some p.2 := fun _ h => by simp at h

theorem decB_dec {p : Prop} [Decidable p] {A B : Prop} (h : p → A) (k : ¬ p → B) : decB (decide p) A B := by
  by_cases hp : p
  · rw [decide_eq_true hp]; exact h hp
  · rw [decide_eq_false hp]; exact k hp

/-- A result that is a row of the heap: it is given away. -/
theorem finFrz {P : Program} {nt : Fr} {rs : List ResultVar} {cs : List AV} {n : Nat} {s : Slots} {H : List Blk} (t : Nat) {b g es : Nat} (ht : s t = .hs b g 0 n es) (hb : H[b]? = some (.cells g cs)) (hfit : n * es = cs.length) (hrs : rs = [.tmp t]) : finE P nt rs (.sl .any n cs) s H := by
  subst hrs
  exact ⟨_, _, Ent.freeze t ht hb hfit, by simp [resA, resAll, resOne, upd]⟩

theorem Ent.to {nt : Fr} {s s' : Slots} {H H₁ H' : List Blk} (h : Ent nt s H s' H₁) (e : H₁ = H') : Ent nt s H s' H' := by subst e; exact h

/-- Whatever is known of a slice: it is nil, or it isn't. -/
theorem Pure.anyK {P : Program} {f : FuncId} {k : SK} {n : Nat} {cs rest : List AV} {v : AV} (h0 : n = 0 → cs = [] → Pure P f (.sl .nil 0 [] :: rest) v) (h1 : Pure P f (.sl .nn n cs :: rest) v) : Pure P f (.sl k n cs :: rest) v := by
  refine ⟨by have := h1.cargs; simpa only [closeds, AV.closed] using this, h1.cval, h1.call.1, fun m ro w cargs hi hx => ?_⟩
  simp only [VsRel] at hx
  obtain ⟨u, us, e, hu, hus⟩ := hx
  simp only [VRel] at hu
  rcases hu with ⟨_, hv, rfl, rfl⟩ | ⟨hk, ad, cap, hv, hle, _, hc⟩
  · exact (h0 rfl rfl).call.2 m ro w cargs hi (by simp only [VsRel, VRel]; exact ⟨u, us, e, .inl ⟨.inl trivial, hv, trivial, trivial⟩, hus⟩)
  · exact h1.call.2 m ro w cargs hi (by simp only [VsRel, VRel]; exact ⟨u, us, e, .inr ⟨by simp, ad, cap, hv, hle, by simp, hc⟩, hus⟩)

theorem Ent.slotTo {nt : Fr} {s : Slots} {H : List Blk} {x y : AV} (t : Nat) (ht : s t = x) (hxy : ∀ m ro w v, VRel m ro w x v → VRel m ro w y v) : Ent nt s H (upd s t y) H := by
  rintro c a w ⟨m, ro, hi, hst, hsl, hsz, hd⟩
  refine ⟨m, ro, hi, hst, fun t' => ?_, hsz, hd⟩
  simp only [upd]
  by_cases e : t' = t
  · subst e
    simp only [Nat.beq_refl, cond_true]
    have := hsl t'
    rw [ht] at this
    exact hxy _ _ _ _ this
  · have : Nat.beq t' t = false := by rw [← Bool.not_eq_true]; intro h; exact e (Nat.eq_of_beq_eq_true h)
    rw [this]
    exact hsl t'

theorem sl_any {m : Mp} {ro : Nat → Prop} {w : World} {k : SK} {n : Nat} {cs : List AV} {v : Value} (h : VRel m ro w (.sl k n cs) v) : VRel m ro w (.sl .any n cs) v := by
  simp only [VRel] at h ⊢
  rcases h with ⟨_, h⟩ | ⟨_, ad, cap, h1, h2, _, h4⟩
  · exact .inl ⟨.inr trivial, h⟩
  · exact .inr ⟨by simp, ad, cap, h1, h2, by simp, h4⟩

/-- A result of which less is said. -/
theorem finTo {P : Program} {nt : Fr} {rs : List ResultVar} {x y : AV} {s : Slots} {H : List Blk} (t : Nat) (ht : s t = x) (hxy : ∀ m ro w v, VRel m ro w x v → VRel m ro w y v) (hrs : rs = [.tmp t]) : finE P nt rs y s H := by
  subst hrs
  exact ⟨_, _, Ent.slotTo t ht hxy, by simp [resA, resAll, resOne, upd]⟩

theorem inc_slot {i : Nat} (h : i < 9223372036854775807) : AV.int .i64 (IntKind.wrap .i64 ((i : Int) + 1)) = AV.int .i64 ((i + 1 : Nat) : Int) := by
  rw [IntWalk.i64_in _ (by omega)]; simp
theorem dec_slot {i : Nat} (h : 0 < i) (h2 : i < 9223372036854775807) : AV.int .i64 (IntKind.wrap .i64 ((i : Int) - 1)) = AV.int .i64 ((i - 1 : Nat) : Int) := by
  rw [IntWalk.i64_in _ (by omega)]; congr 1; omega
theorem dec_slot' {i : Nat} (h2 : i < 9223372036854775807) : AV.int .i64 (IntKind.wrap .i64 ((i : Int) - 1)) = AV.int .i64 ((i : Int) - 1) := by
  rw [IntWalk.i64_in _ (by omega)]

theorem set_last {α : Type} (pre : List α) (x y : α) : (pre ++ [x]).set pre.length y = pre ++ [y] := by
  rw [List.set_append_right _ _ (Nat.le_refl _), Nat.sub_self]; rfl

/-- A row that was put at a list's end is given away. -/
theorem Ent.rowEnd {nt : Fr} {s : Slots} {H : List Blk} {gb gr n es : Nat} {pre cs : List AV} (b r : Nat) (hb : H[b]? = some (.cells gb (pre ++ [.hs r gr 0 n es]))) (hr : H[r]? = some (.cells gr cs)) (hne : b ≠ r) (hfit : n * es = cs.length) :
    Ent nt s H s ((H.set r (.fro gr cs)).set b (.cells gb (pre ++ [.sl .any n cs]))) := by
  have := Ent.freezeCell (nt := nt) (s := s) (H := H) b pre.length hb (by simp) hr hne hfit
  rwa [set_last] at this

theorem bels_append {n : Nat} {a b : List AV} : bels n (a ++ b) ↔ bels n a ∧ bels n b := by
  simp only [bels_iff, List.mem_append]
  exact ⟨fun h => ⟨fun x hx => h x (.inl hx), fun x hx => h x (.inr hx)⟩, fun h x hx => hx.elim (h.1 x) (h.2 x)⟩
theorem bels_map {n : Nat} {X : Type} {f : X → AV} {l : List X} : bels n (l.map f) ↔ ∀ x ∈ l, (f x).bel n := by simp [bels_iff]
theorem aSs_bel (n k l) : (aSs k l).bel n := AV.closed_bel _ (aSs_closed k l)
theorem aIs_bel (n k l) : (aIs k l).bel n := AV.closed_bel _ (aIs_closed k l)
theorem aBs_bel (n k l) : (aBs k l).bel n := AV.closed_bel _ (aBs_closed k l)
theorem aRs_bel (n k l) : (aRs k l).bel n := AV.closed_bel _ (aRs_closed k l)
theorem aDen_bel (n d) : (aDen d).bel n := AV.closed_bel _ (aDen_closed d)
theorem cells_bel (n) (d : Den) : bels n d.cells := by have := aDen_bel n d; simpa [aDen, AV.bel] using this

/-- At a function's end: the state is looked at, changed to one that says less, and read. -/
theorem finH {P : Program} {nt : Fr} {rs : List ResultVar} {v : AV} {s s' : Slots} {H H₁ H' : List Blk} {l : List (Nat × AV)} (hf : frOk s l) (hH : H = H₁) (e : Ent nt (Tab.fr l) H₁ s' H') (r : resA P rs s' H' = some v) : finE P nt rs v s H :=
  ⟨s', H', (Ent.fr' hf hH).trans e, r⟩

theorem blksBel_append {n : Nat} : ∀ {a b : List Blk}, blksBel n (a ++ b) ↔ blksBel n a ∧ blksBel n b
  | [], b => by simp [blksBel]
  | x :: a, b => by simp [blksBel, blksBel_append (a := a) (b := b), and_assoc]

theorem split_at2 {α : Type} {H pre : List α} {x y : α} (h0 : H.take pre.length = pre) (h1 : H[pre.length]? = some x) (h2 : H[pre.length + 1]? = some y) : ∃ X, H = pre ++ x :: y :: X := by
  refine ⟨H.drop (pre.length + 2), ?_⟩
  have e : H = H.take pre.length ++ H.drop pre.length := (List.take_append_drop ..).symm
  have l1 := (List.getElem?_eq_some_iff.1 h1)
  have l2 := (List.getElem?_eq_some_iff.1 h2)
  obtain ⟨k1, e1⟩ := l1
  obtain ⟨k2, e2⟩ := l2
  rw [h0, List.drop_eq_getElem_cons k1, List.drop_eq_getElem_cons k2, e1, e2] at e
  exact e

/-- A round's end: a row was put at the end of a list; what is behind is forgotten. -/
theorem Ent.rowNext {nt : Fr} {s : Slots} {H H' : List Blk} {l : List (Nat × AV)} {gb gr n es r : Nat} {L cs : List AV} (pre : List Blk) (hf : frOk s l) (h0 : H.take pre.length = pre) (h1 : H[pre.length]? = some (.cells gb (L ++ [.hs r gr 0 n es])))
    (h2 : H[pre.length + 1]? = some (.cells gr cs)) (hr : r = pre.length + 1) (hfit : n * es = cs.length)
    (hk : nt.k ≤ pre.length + 1) (hl : frBel (pre.length + 1) l) (hp : blksBel (pre.length + 1) pre) (hL : bels (pre.length + 1) L) (hcs : bels (pre.length + 1) cs) (e : pre ++ [.cells gb (L ++ [.sl .any n cs])] = H') : Ent nt s H (Tab.fr l) H' := by
  subst e
  subst hr
  obtain ⟨X, hH⟩ := split_at2 h0 h1 h2
  refine (Ent.fr' hf hH).trans ?_
  have h1 := Ent.rowEnd (nt := nt) (s := Tab.fr l) (H := pre ++ .cells gb (L ++ [.hs (pre.length + 1) gr 0 n es]) :: .cells gr cs :: X) pre.length (pre.length + 1) (gb := gb) (gr := gr) (n := n) (es := es) (pre := L) (cs := cs)
    (by simp) (by rw [List.getElem?_append_right (by omega)]; simp) (by omega) hfit
  refine h1.trans ?_
  rw [List.set_append_right _ _ (by omega), show pre.length + 1 - pre.length = 1 by omega, List.set_append_right _ _ (Nat.le_refl _), Nat.sub_self]
  have h2 := Ent.drop (nt := nt) (l := l) (H := pre ++ [.cells gb (L ++ [.sl .any n cs])]) (X := .fro gr cs :: X) (by simpa using hk) (by simpa using hl)
    (by simp only [List.length_append, List.length_singleton]; rw [blksBel_append]; exact ⟨hp, by simp only [Blk.bel, bels_append]; exact ⟨hL, by simp only [bels, AV.bel]; exact ⟨hcs, trivial⟩⟩, trivial⟩)
  simpa using h2

theorem bels_take {n k : Nat} {l : List AV} (h : bels n l) : bels n (l.take k) := bels_iff.2 fun x hx => bels_iff.1 h x (List.mem_of_mem_take hx)
theorem bels_drop {n k : Nat} {l : List AV} (h : bels n l) : bels n (l.drop k) := bels_iff.2 fun x hx => bels_iff.1 h x (List.mem_of_mem_drop hx)
theorem bels_td {n k j : Nat} {l : List AV} (h : bels n l) : bels n ((l.drop k).take j) := bels_take (bels_drop h)
theorem td_all {α : Type} {l : List α} {n : Nat} (h : l.length ≤ n * 1) : (l.drop 0).take (n * 1) = l := by rw [List.drop_zero, List.take_of_length_le h]

theorem ACall.anyK {P : Program} {f : FuncId} {k : SK} {n : Nat} {cs rest : List AV} {H : List Blk} {R : Out → List Blk → Prop} (h0 : n = 0 → cs = [] → ACall P f (.sl .nil 0 [] :: rest) H R) (h1 : ACall P f (.sl .nn n cs :: rest) H R) : ACall P f (.sl k n cs :: rest) H R := by
  refine ⟨h1.1, fun m ro w cargs hi hx => ?_⟩
  simp only [VsRel] at hx
  obtain ⟨u, us, e, hu, hus⟩ := hx
  simp only [VRel] at hu
  rcases hu with ⟨_, hv, rfl, rfl⟩ | ⟨hk, ad, cap, hv, hle, _, hc⟩
  · exact (h0 rfl rfl).2 m ro w cargs hi (by simp only [VsRel, VRel]; exact ⟨u, us, e, .inl ⟨.inl trivial, hv, trivial, trivial⟩, hus⟩)
  · exact h1.2 m ro w cargs hi (by simp only [VsRel, VRel]; exact ⟨u, us, e, .inr ⟨by simp, ad, cap, hv, hle, by simp, hc⟩, hus⟩)

theorem finR {P : Program} {nt : Fr} {rs : List ResultVar} {v : AV} {s s' : Slots} {H H₁ H' : List Blk} {l : List (Nat × AV)} {R : Out → List Blk → Prop} (hf : frOk s l) (hH : H = H₁) (e : Ent nt (Tab.fr l) H₁ s' H') (r : resA P rs s' H' = some v) (k : R (.ret v) H') :
    RetE P nt rs R s H := ⟨s', H', v, (Ent.fr' hf hH).trans e, r, k⟩

theorem get_last {α : Type} (A : List α) (x : α) : (A ++ [x])[A.length]? = some x := by simp
theorem over_one {cs : List AV} {i : Nat} {x : AV} (h : i < cs.length) : over cs i [x] = cs.set i x := by
  rw [over, List.set_eq_take_append_cons_drop, if_pos h]; simp
theorem reps_one (x : AV) : ∀ n, reps [x] n = List.replicate n x
  | 0 => rfl
  | n + 1 => by rw [reps, reps_one x n]; rfl

/-- A row that is filled from its beginning: the first a are there. -/
def partL (f : Nat → Int) (n a : Nat) : List Int := (List.range n).map fun j => if j < a then f j else 0
theorem partL_length (f n a) : (partL f n a).length = n := by simp [partL]
theorem partL_zero (f n) : partL f n 0 = List.replicate n 0 := by
  rw [partL]; exact List.ext_getElem (by simp) (by simp)
theorem partL_full (f n) : partL f n n = (List.range n).map f := by
  rw [partL]; exact List.map_congr_left fun j hj => if_pos (List.mem_range.1 hj)
theorem partL_step {f n a} : (partL f n a).set a (f a) = partL f n (a + 1) := by
  refine List.ext_getElem (by simp [partL]) fun j h1 h2 => ?_
  simp only [partL, List.getElem_set, List.getElem_map, List.getElem_range]
  by_cases e : a = j
  · subst e; simp
  · rw [if_neg e]
    by_cases h : j < a
    · rw [if_pos h, if_pos (by omega)]
    · rw [if_neg h, if_neg (by omega)]
theorem blksBel_map {n : Nat} {X : Type} {f : X → Blk} {l : List X} : blksBel n (l.map f) ↔ ∀ x ∈ l, (f x).bel n := by
  induction l with
  | nil => simp [blksBel]
  | cons x l ih => simp [blksBel, ih]

/-- The last block that matters is a slot's row: it is given away, and all from there on forgotten. -/
theorem Ent.freezeLast {nt : Fr} {s : Slots} {H : List Blk} {l l' : List (Nat × AV)} {g n es : Nat} {cs : List AV} (pre : List Blk) (t : Nat) (hf : frOk s l) (h0 : H.take pre.length = pre) (h1 : H[pre.length]? = some (.cells g cs))
    (ht : Tab.fr l t = .hs pre.length g 0 n es) (hfit : n * es = cs.length) (hk : nt.k ≤ pre.length) (hl : frOk (upd (Tab.fr l) t (.sl .any n cs)) l') (hb : frBel pre.length l') (hp : blksBel pre.length pre) : Ent nt s H (Tab.fr l') pre := by
  obtain ⟨X, hH⟩ : ∃ X, H = pre ++ .cells g cs :: X := by
    refine ⟨H.drop (pre.length + 1), ?_⟩
    have e : H = H.take pre.length ++ H.drop pre.length := (List.take_append_drop ..).symm
    obtain ⟨k1, e1⟩ := List.getElem?_eq_some_iff.1 h1
    rw [h0, List.drop_eq_getElem_cons k1, e1] at e
    exact e
  refine (Ent.fr' hf hH).trans ?_
  have h := Ent.freeze (nt := nt) (s := Tab.fr l) (H := pre ++ .cells g cs :: X) (b := pre.length) t ht (by simp) hfit
  refine h.trans ?_
  rw [List.set_append_right _ _ (Nat.le_refl _), Nat.sub_self]
  exact Ent.frD (X := .fro g cs :: X) hl rfl hk hb hp

/-- Arguments read out of blocks that nobody writes any more. -/
inductive FzN (H : List Blk) : List AV → List AV → Prop
  | nil : FzN H [] []
  | same {a as as'} (t : FzN H as as') : FzN H (a :: as) (a :: as')
  | hs {b g n es cs as as'} (hb : H[b]? = some (.fro g cs)) (hfit : n * es = cs.length) (t : FzN H as as') : FzN H (.hs b g 0 n es :: as) (.sl .any n cs :: as')

theorem FzN.rel {H : List Blk} {m : Mp} {ro : Nat → Prop} {w : World} (hi : InvL m ro H w) {as as' : List AV} (h : FzN H as as') : ∀ {vs : List Value}, VsRel m ro w as vs → VsRel m ro w as' vs := by
  induction h with
  | nil => intro vs h; exact h
  | same t ih =>
    intro vs hv
    simp only [VsRel] at hv ⊢
    obtain ⟨v, vs', rfl, h1, h2⟩ := hv
    exact ⟨v, vs', rfl, h1, ih h2⟩
  | @hs b g n es cs as as' hb hfit t ih =>
    intro vs hv
    simp only [VsRel] at hv ⊢
    obtain ⟨v, vs', rfl, h1, h2⟩ := hv
    refine ⟨v, vs', rfl, ?_, ih h2⟩
    have := froz_val hi hb (by omega) h1
    rwa [List.drop_zero, hfit, List.take_length] at this

theorem InvL.froz {m ro w} {H : List Blk} {g : Nat} {cs : List AV} (hi : InvL m ro H w) (b : Nat) (hb : H[b]? = some (.cells g cs)) :
    ∃ ro', InvL m ro' (H.set b (.fro g cs)) w ∧ Step m ro (lk H) w m ro' (lk (H.set b (.fro g cs))) w := by
  have hlt := (List.getElem?_eq_some_iff.1 hb).1
  obtain ⟨k1, k2⟩ := hi.inv.change₀ (m' := m) (ro' := fun cb => ro cb ∨ Owns m (lk H) b cb) (H' := lk (H.set b (.fro g cs))) b (.fro g cs) (fun _ _ _ h => h) (fun _ _ => .inl rfl) (lk_set hlt)
    (fun g cb base h => by simp [Blk.own] at h) (fun g h => by simp [Blk.own] at h) (fun _ h => .inl h) (fun _ h => h)
    (fun keep loc hl => by
      have h := hi.inv.blk b _ hb loc hl
      cases loc with
      | void => exact h
      | «at» cb base =>
        obtain ⟨c, t, hc, hlay⟩ := h
        refine CsRel_iff.2 ?_
        intro i x hix
        obtain ⟨v, hv, ho, hr⟩ := hlay i x hix
        exact ⟨.inr ⟨_, g, base, hb, rfl, hl⟩, v, by simp only [World.cell?, hc]; simpa using hv, ho, keep x v hr⟩)
  exact ⟨_, ⟨k1, fun b g loc h => by simpa using hi.bound b g loc h⟩, k2⟩

/-- A block is given away ahead of a call. -/
theorem ACall.froz {P : Program} {f : FuncId} {as : List AV} {H : List Blk} {R : Out → List Blk → Prop} {g : Nat} {cs : List AV} (b : Nat) (hb : H[b]? = some (.cells g cs)) (h : ACall P f as (H.set b (.fro g cs)) R) : ACall P f as H R := by
  refine ⟨h.1, fun m ro w cargs hi hx => ?_⟩
  obtain ⟨ro', hi', hst⟩ := hi.froz b hb
  refine (h.2 m ro' w cargs hi' (hx.step hi.inv hst)).mono ?_
  rintro e w' ⟨m', ro₂, out, H', h1, h2, h3, h4⟩
  exact ⟨m', ro₂, out, H', h1, h2, h3, hst.trans h4⟩

theorem ACall.fz {P : Program} {f : FuncId} {as args : List AV} {H : List Blk} {R : Out → List Blk → Prop} (hz : FzN H as args) (h : ACall P f args H R) : ACall P f as H R :=
  ⟨h.1, fun m ro w cargs hi hx => h.2 m ro w cargs hi (hz.rel hi hx)⟩

/-- A pure call with a slice of a block, that is given away. -/
theorem callZ {P : Program} {f : FuncId} {args as : List AV} {v : AV} {H : List Blk} {X : Out → List Blk → Prop} {g : Nat} {cs : List AV} (b : Nat) (hb : H[b]? = some (.cells g cs)) (h : Pure P f args v) (hz : FzN (H.set b (.fro g cs)) as args) (k : X (.ret v) (H.set b (.fro g cs))) :
    ∃ R : Out → List Blk → Prop, ACall P f as H R ∧ ∀ o H', R o H' → X o H' := ⟨_, (ACall.fz hz (h.acall _)).froz b hb, by rintro _ _ ⟨rfl, rfl⟩; exact k⟩

/-- A state's slots chosen, the heap cut. -/
theorem Ent.frT {nt : Fr} {s : Slots} {H H' : List Blk} {l : List (Nat × AV)} (n : Nat) (h : frOk s l) (e : H.take n = H') (hk : nt.k ≤ H'.length) (hl : frBel H'.length l) (hH : blksBel H'.length H') : Ent nt s H (Tab.fr l) H' :=
  Ent.frD (X := H.drop n) h (by rw [← e, List.take_append_drop]) hk hl hH

/-- A pure call with slices of blocks that nobody writes any more. -/
theorem callY {P : Program} {f : FuncId} {args as : List AV} {v : AV} {H : List Blk} {X : Out → List Blk → Prop} (h : Pure P f args v) (hz : FzN H as args) (k : X (.ret v) H) :
    ∃ R : Out → List Blk → Prop, ACall P f as H R ∧ ∀ o H', R o H' → X o H' := ⟨_, ACall.fz hz (h.acall _), by rintro _ _ ⟨rfl, rfl⟩; exact k⟩

theorem callZ2 {P : Program} {f : FuncId} {args as : List AV} {v : AV} {H : List Blk} {X : Out → List Blk → Prop} {g g' : Nat} {cs cs' : List AV} (b b' : Nat) (hb : H[b]? = some (.cells g cs)) (hb' : (H.set b (.fro g cs))[b']? = some (.cells g' cs')) (h : Pure P f args v)
    (hz : FzN ((H.set b (.fro g cs)).set b' (.fro g' cs')) as args) (k : X (.ret v) ((H.set b (.fro g cs)).set b' (.fro g' cs'))) : ∃ R : Out → List Blk → Prop, ACall P f as H R ∧ ∀ o H', R o H' → X o H' :=
  ⟨_, ((ACall.fz hz (h.acall _)).froz b' hb').froz b hb, by rintro _ _ ⟨rfl, rfl⟩; exact k⟩

/-- The two ways of a condition lead to one state; what is behind is proved once. -/
def joinK (nt : Fr) (s' : Slots) (H' : List Blk) (K : Post) : Post := fun e s H => match e with
  | .normal => Ent nt s H s' H'
  | e => K e s H
theorem VCode.join {P : Program} {nt : Fr} {c : Operand} {x y : Code} {s : Slots} {H : List Blk} {K : Post} {b : Bool} (s' : Slots) (H' : List Blk) (hc : ev s c = .bool b) (hx : b = true → VCode P nt x s H (joinK nt s' H' K)) (hy : b = false → VCode P nt y s H (joinK nt s' H' K))
    (hz : ∀ s₁ H₁, Ent nt s₁ H₁ s' H' → K .normal s₁ H₁) : VCode P nt (.cond c x y) s H K := by
  refine ⟨SW.mono (SW.cond hc (fun h => (hx h).out) (fun h => (hy h).out)) fun e s₁ H₁ h => ?_⟩
  cases e with
  | normal => exact hz s₁ H₁ h
  | _ => exact h

end Tab

/- Maps that number things: the k-th entry bears the number k. -/
namespace Tab
open Go
variable [Globs]

/-- A map that numbers these keys, in their order. -/
def dI (L : List Value) : List (Value × Value) := L.zipIdx.map fun p => (p.1, .int .i64 (p.2 : Nat))
theorem dI_length (L) : (dI L).length = L.length := by simp [dI]
theorem dI_nil : dI [] = [] := rfl
theorem dI_snoc (L : List Value) (x : Value) : dI (L ++ [x]) = dI L ++ [(x, .int .i64 (L.length : Nat))] := by
  simp [dI, List.zipIdx_append]
theorem dI_mem {L : List Value} {p : Value × Value} : p ∈ dI L ↔ ∃ i, L[i]? = some p.1 ∧ p.2 = .int .i64 (i : Nat) := by
  simp only [dI, List.mem_map]
  constructor
  · rintro ⟨⟨x, i⟩, h, rfl⟩
    exact ⟨i, by simpa using List.mem_zipIdx_iff_getElem?.1 h, rfl⟩
  · rintro ⟨i, h1, h2⟩
    refine ⟨(p.1, i), List.mem_zipIdx_iff_getElem?.2 h1, ?_⟩
    simp only [← h2]
theorem dI_hit {L : List Value} (hn : L.Nodup) {i : Nat} {x : Value} (h : L[i]? = some x) : DFind (dI L) x (some (.int .i64 (i : Nat))) := by
  refine ⟨⟨(x, .int .i64 (i : Nat)), dI_mem.2 ⟨i, h, rfl⟩, rfl⟩, fun p hp e => ?_⟩
  obtain ⟨j, h1, h2⟩ := dI_mem.1 hp
  obtain ⟨k1, e1⟩ := List.getElem?_eq_some_iff.1 h
  obtain ⟨k2, e2⟩ := List.getElem?_eq_some_iff.1 h1
  have : i = j := by
    rcases Nat.lt_trichotomy i j with k | k | k
    · exact absurd (e1.trans (e.symm.trans e2.symm)) (List.pairwise_iff_getElem.1 hn i j k1 k2 k)
    · exact k
    · exact absurd (e2.trans (e.trans e1.symm)) (List.pairwise_iff_getElem.1 hn j i k2 k1 k)
  rw [h2, this]
theorem dI_miss {L : List Value} {x : Value} (h : x ∉ L) : DFind (dI L) x none := by
  intro p hp e
  obtain ⟨i, h1, _⟩ := dI_mem.1 hp
  exact h (e ▸ List.mem_of_getElem? h1)
theorem dI_keys {P : Program} {kt : TypeId} {L : List Value} (h : ∀ x ∈ L, ∃ l, keyOf P kt x = some l) : DKeys P kt (dI L) := by
  intro p hp
  obtain ⟨i, h1, _⟩ := dI_mem.1 hp
  exact h _ (List.mem_of_getElem? h1)

/-- What a map of numbers is asked: its type, its key's law. -/
structure NumMap (P : Program) (t kt et : TypeId) : Prop where
  map : P.underlying t = some (.map kt et)
  law : Maps.Keyed P kt
  zero : ∀ w, (zeroValue et).run P w = .ok (.int .i64 0) w

theorem look_num {P : Program} {t kt et : TypeId} (T : NumMap P t kt et) {b : Nat} {ka : AV} {kv : Value} {lx : Lit} {L : List Value} {k : Eff → Prop} (hk : ka.pk = some kv) (hlx : keyOf P kt kv = some lx) (hn : L.Nodup) (hL : ∀ x ∈ L, ∃ l, keyOf P kt x = some l)
    (h1 : ∀ i, L[i]? = some kv → k { v := .tup [.int .i64 (i : Nat), .bool true], need := [(b, .dict (dI L))] })
    (h2 : kv ∉ L → k { v := .tup [.int .i64 0, .bool false], need := [(b, .dict (dI L))] }) : ∃ e, LookE P t true ka b (dI L) e ∧ k e := by
  by_cases h : kv ∈ L
  · obtain ⟨i, hi⟩ := List.getElem?_of_mem h
    exact ⟨_, .hit (va := .int .i64 (i : Nat)) T.map T.law hk rfl hlx (dI_keys hL) (dI_hit hn hi), h1 i hi⟩
  · exact ⟨_, .miss (va := .int .i64 0) T.map T.law hk T.zero rfl hlx (dI_keys hL) (dI_miss h), h2 h⟩
theorem put_num {P : Program} {t kt et : TypeId} (T : NumMap P t kt et) {b : Nat} {ka : AV} {kv : Value} {lx : Lit} {L : List Value} {n : Nat} {k : Eff → Prop} (hk : ka.pk = some kv) (hlx : keyOf P kt kv = some lx) (hL : ∀ x ∈ L, ∃ l, keyOf P kt x = some l) (hm : kv ∉ L) (hl : n = L.length)
    (h : k { v := .junk, need := [(b, .dict (dI L))], upd := some (b, .dict (dI (L ++ [kv]))) }) : ∃ e, PutE P t ka (.int .i64 (n : Nat)) b (dI L) e ∧ k e := by
  subst hl
  refine ⟨_, .new T.map T.law hk rfl hlx (dI_keys hL) (dI_miss hm), ?_⟩
  rw [← dI_snoc]
  exact h

end Tab

/- Blocks numbered otherwise. -/
namespace Tab
open Go
variable [Globs]
set_option linter.unusedSectionVars false

mutual
def AV.rn (f : Nat → Nat) : AV → AV
  | .ref b g o => .ref (f b) g o
  | .hs b g o n es => .hs (f b) g o n es
  | .mp b => .mp (f b)
  | .tref cs => .tref (rns f cs)
  | .sl s n cs => .sl s n (rns f cs)
  | .fn g a b => .fn g (rns f a) (rns f b)
  | .ifc t v => .ifc t (v.rn f)
  | .agg cs => .agg (rns f cs)
  | .tup cs => .tup (rns f cs)
  | .bool b => .bool b
  | .int i n => .int i n
  | .str s => .str s
  | .nilp => .nilp
  | .nilm => .nilm
  | .nilf => .nilf
  | .nili => .nili
  | .junk => .junk
def rns (f : Nat → Nat) : List AV → List AV
  | [] => []
  | a :: as => a.rn f :: rns f as
end

theorem rns_get {f : Nat → Nat} : ∀ {as : List AV} {i : Nat} {a : AV}, (rns f as)[i]? = some a → ∃ x, as[i]? = some x ∧ a = x.rn f
  | [], i, a, h => by simp [rns] at h
  | x :: as, 0, a, h => by simp [rns] at h; exact ⟨x, rfl, h.symm⟩
  | x :: as, i + 1, a, h => by simp only [rns, List.getElem?_cons_succ] at h; exact rns_get (as := as) h
theorem rns_map {f : Nat → Nat} : ∀ (as : List AV), rns f as = as.map (AV.rn f)
  | [] => rfl
  | a :: as => by simp [rns, rns_map as]

mutual
theorem AV.closed_rn {f : Nat → Nat} : ∀ (a : AV), a.closed → a.rn f = a
  | .ref _ _ _, h | .hs _ _ _ _ _, h | .mp _, h => by simp only [AV.closed] at h
  | .tref cs, h | .sl _ _ cs, h | .agg cs, h | .tup cs, h => by simp only [AV.closed, AV.rn] at h ⊢; rw [closeds_rn cs h]
  | .fn _ a b, h => by simp only [AV.closed, AV.rn] at h ⊢; rw [closeds_rn a h.1, closeds_rn b h.2]
  | .ifc _ v, h => by simp only [AV.closed, AV.rn] at h ⊢; rw [AV.closed_rn v h]
  | .bool _, _ | .int _ _, _ | .str _, _ | .nilp, _ | .nilm, _ | .nilf, _ | .nili, _ | .junk, _ => by simp only [AV.rn]
theorem closeds_rn {f : Nat → Nat} : ∀ (as : List AV), closeds as → rns f as = as
  | [], _ => rfl
  | a :: as, h => by simp only [closeds, rns] at h ⊢; rw [AV.closed_rn a h.1, closeds_rn as h.2]
end

section
variable {m M : Mp} {ro : Nat → Prop} {w : World} {f : Nat → Nat} (hM : ∀ b g loc, m b g = some loc → M (f b) g = some loc)
include hM
mutual
theorem AV.rn_rel : ∀ (a : AV) (v : Value), VRel m ro w a v → VRel M ro w (a.rn f) v
  | .bool _, _, h | .int _ _, _, h | .str _, _, h | .nilp, _, h | .nilm, _, h | .nilf, _, h | .nili, _, h => by simpa only [VRel, AV.rn] using h
  | .junk, _, _ => by simp only [VRel, AV.rn]
  | .ref b g o, v, h => by
    simp only [VRel, AV.rn] at h ⊢
    obtain ⟨cb, base, h, e⟩ := h
    exact ⟨cb, base, hM _ _ _ h, e⟩
  | .hs b g o n es, v, h => by
    simp only [VRel, AV.rn] at h ⊢
    obtain ⟨loc, h, e⟩ := h
    exact ⟨loc, hM _ _ _ h, e⟩
  | .mp b, v, h => by
    simp only [VRel, AV.rn] at h ⊢
    obtain ⟨cb, h, e⟩ := h
    exact ⟨cb, hM _ _ _ h, e⟩
  | .tref cs, v, h => by
    simp only [VRel, AV.rn] at h ⊢
    obtain ⟨cb, off, e, h⟩ := h
    exact ⟨cb, off, e, rns_cells cs cb off h⟩
  | .sl s n cs, v, h => by
    simp only [VRel, AV.rn] at h ⊢
    rcases h with ⟨h1, h2, h3, h4⟩ | ⟨hk', ad, cap, e, hle, hf, h⟩
    · exact .inl ⟨h1, h2, h3, by rw [h4]; rfl⟩
    · exact .inr ⟨hk', ad, cap, e, hle, hf, h.imp (fun h => ⟨h.1, by rw [h.2]; rfl⟩) fun h => ⟨h.1, rns_cells cs _ _ h.2⟩⟩
  | .fn g first cap, v, h => by
    simp only [VRel, AV.rn] at h ⊢
    obtain ⟨a, b, e, h1, h2⟩ := h
    exact ⟨a, b, e, rns_rel first _ h1, rns_rel cap _ h2⟩
  | .ifc t x, v, h => by
    simp only [VRel, AV.rn] at h ⊢
    obtain ⟨y, e, h⟩ := h
    exact ⟨y, e, AV.rn_rel x y h⟩
  | .agg cs, v, h => by
    simp only [VRel, AV.rn] at h ⊢
    obtain ⟨a, e, ho, h⟩ := h
    exact ⟨a, e, ho, rns_rel cs _ h⟩
  | .tup cs, v, h => by
    simp only [VRel, AV.rn] at h ⊢
    obtain ⟨a, e, h⟩ := h
    exact ⟨a, e, rns_rel cs _ h⟩
theorem rns_rel : ∀ (as : List AV) (vs : List Value), VsRel m ro w as vs → VsRel M ro w (rns f as) vs
  | [], vs, h => by simpa only [VsRel, rns] using h
  | a :: as, vs, h => by
    simp only [VsRel, rns] at h ⊢
    obtain ⟨v, vs', e, h1, h2⟩ := h
    exact ⟨v, vs', e, AV.rn_rel a v h1, rns_rel as vs' h2⟩
theorem rns_cells : ∀ (cs : List AV) (cb off : Nat), CsRel m ro w cs cb off → CsRel M ro w (rns f cs) cb off
  | [], _, _, _ => by simp only [CsRel, rns]
  | a :: as, cb, off, h => by
    simp only [CsRel, rns] at h ⊢
    obtain ⟨h1, ⟨v, hv, ho, h2⟩, h3⟩ := h
    exact ⟨h1, ⟨v, hv, ho, AV.rn_rel a v h2⟩, rns_cells as cb (off + 1) h3⟩
end
end


def Blk.rn (f : Nat → Nat) : Blk → Blk
  | .cells g cs => .cells g (rns f cs)
  | .fro g cs => .fro g (rns f cs)
  | .siter s p => .siter s p
  | .dict es => .dict es
  | .dead => .dead

theorem Blk.rn_own (f : Nat → Nat) (x : Blk) : (x.rn f).own = x.own := by cases x <;> rfl

theorem BlkRel.rn {m M : Mp} {ro : Nat → Prop} {w : World} {f : Nat → Nat} {b : Nat} (hM : ∀ b g loc, m b g = some loc → M (f b) g = some loc) (he : ∀ g, M (f b) g = m b g) {x : Blk} (h : BlkRel m ro w b x) : BlkRel M ro w (f b) (x.rn f) := by
  cases x with
  | cells g cs =>
    intro loc hl
    rw [he] at hl
    have h := h loc hl
    cases loc with
    | void => simp only at h ⊢; rw [h]; rfl
    | «at» cb base =>
      obtain ⟨c, t, hc, hlay⟩ := h
      refine ⟨c, t, hc, fun i a hia => ?_⟩
      obtain ⟨x, hx, rfl⟩ := rns_get hia
      obtain ⟨v, hv, ho, hr⟩ := hlay i x hx
      exact ⟨v, hv, ho, AV.rn_rel hM x v hr⟩
  | fro g cs =>
    intro loc hl
    rw [he] at hl
    have h := h loc hl
    cases loc with
    | void => simp only at h ⊢; rw [h]; rfl
    | «at» cb base => exact rns_cells hM cs cb base h
  | siter s p =>
    intro loc hl
    rw [he] at hl
    exact h loc hl
  | dict es =>
    intro loc hl
    rw [he] at hl
    exact h loc hl
  | dead => trivial

/-- Blocks that are numbered otherwise. -/
theorem Ent.rename {nt : Fr} {s : Slots} {H H' : List Blk} (hk : nt.k = 0) (f : Nat → Nat) (fi : Nat → Option Nat) (h1 : ∀ b, b < H.length → fi (f b) = some b) (h2 : ∀ b' b, fi b' = some b → b' = f b ∧ b < H.length ∧ b' < H'.length)
    (h3 : ∀ b' x', H'[b']? = some x' → ∃ b x, fi b' = some b ∧ H[b]? = some x ∧ x' = x.rn f) : Ent nt s H (fun t => (s t).rn f) H' := by
  rintro c a w ⟨m, ro, hi, hst, hsl, hsz, hd⟩
  let M : Mp := fun b' g => match fi b' with | some b => m b g | none => none
  have hMe : ∀ b, b < H.length → ∀ g, M (f b) g = m b g := fun b hb g => by
    show (match fi (f b) with | some b => m b g | none => none) = _
    rw [h1 b hb]
  have hM : ∀ b g loc, m b g = some loc → M (f b) g = some loc := fun b g loc h => by rw [hMe b (hi.bound b g loc h)]; exact h
  have hMs : ∀ b' g loc, M b' g = some loc → ∃ b, fi b' = some b ∧ m b g = some loc := fun b' g loc h => by
    have h : (match fi b' with | some b => m b g | none => none) = some loc := h
    split at h
    · rename_i b hb; exact ⟨b, hb, h⟩
    · simp at h
  have hmw : ∀ cb, MW M (lk H') cb → MW m (lk H) cb := by
    rintro cb ⟨b', x', g, base, k1, k2, k3⟩
    obtain ⟨b, x, e1, e2, rfl⟩ := h3 b' x' k1
    obtain ⟨b₂, e3, e4⟩ := hMs _ _ _ k3
    rw [e1] at e3
    cases e3
    rw [Blk.rn_own] at k2
    exact ⟨b, x, g, base, e2, k2, e4⟩
  refine ⟨M, ro, ⟨⟨hi.inv.ro_lt, ?_, ?_, fun cb h => hi.inv.excl cb (hmw cb h), ?_, hi.inv.glob.any⟩, ?_⟩, ⟨fun b g loc h => ?_, hst.size, hst.os, hst.out, hst.tape, hst.kept, hst.shape, fun cb h => hst.mw cb (hmw cb h), hst.ro_le, hst.ro_new⟩, fun t => AV.rn_rel hM _ _ (hsl t), hsz, hd⟩
  · intro b' x' k
    obtain ⟨b, x, e1, e2, rfl⟩ := h3 b' x' k
    obtain ⟨rfl, hb, _⟩ := h2 _ _ e1
    exact BlkRel.rn hM (hMe b hb) (hi.inv.blk b x e2)
  · intro b b' x x' g g' cb base base' k1 k2 o1 o2 l1 l2
    obtain ⟨c1, y1, e1, e2, rfl⟩ := h3 _ _ k1
    obtain ⟨c2, y2, e3, e4, rfl⟩ := h3 _ _ k2
    obtain ⟨d1, e5, e6⟩ := hMs _ _ _ l1
    obtain ⟨d2, e7, e8⟩ := hMs _ _ _ l2
    rw [e1] at e5; cases e5
    rw [e3] at e7; cases e7
    rw [Blk.rn_own] at o1 o2
    have := hi.inv.inj c1 c2 y1 y2 g g' cb base base' e2 e4 o1 o2 e6 e8
    subst this
    rw [(h2 _ _ e1).1, (h2 _ _ e3).1]
  · intro b x g k1 k2 g' loc k3
    obtain ⟨c1, y1, e1, e2, rfl⟩ := h3 _ _ k1
    obtain ⟨d1, e5, e6⟩ := hMs _ _ _ k3
    rw [e1] at e5; cases e5
    rw [Blk.rn_own] at k2
    exact hi.inv.gen c1 y1 g e2 k2 g' loc e6
  · intro b g loc h
    obtain ⟨d1, e5, _⟩ := hMs _ _ _ h
    exact (h2 _ _ e5).2.2
  · have := c.kb b g loc h
    omega

/-- What a call from an empty heap answers, of which less is said. -/
theorem ACall.weak {P : Program} {f : FuncId} {args : List AV} {R R' : Out → List Blk → Prop} (h : ACall P f args [] R) (hp : ∀ H', ¬ R .pan H')
    (hw : ∀ v H', R (.ret v) H' → ∃ v' H'', Ent ⟨1, 0⟩ (fr [(0, v)]) H' (fr [(0, v')]) H'' ∧ R' (.ret v') H'') : ACall P f args [] R' := by
  refine ⟨h.1, fun m ro w cargs hi hx => ?_⟩
  refine (h.2 m ro w cargs hi hx).mono ?_
  rintro e w' ⟨m', ro', out, H', hRo, hout, hi', hst⟩
  cases out with
  | pan => exact (hp _ hRo).elim
  | ret u =>
    obtain ⟨v', H'', hent, hR'⟩ := hw u H' hRo
    cases e with
    | returned x =>
      obtain ⟨m₂, ro₂, hi₂, hst₂, hsl, _, _⟩ := hent ⟨⟨m, ro, [], w⟩, fun b g loc hm => by have := hi.bound b g loc hm; simp at this⟩ { tmps := #[x], defers := [] } w'
        ⟨m', ro', hi', hst, fun t => by
          cases t with
          | zero => exact hout
          | succ t => simp only [fr, upd, Nat.beq, cond_false, VRel], rfl, rfl⟩
      exact ⟨m₂, ro₂, .ret v', H'', hR', hsl 0, hi₂, hst₂⟩
    | panicked _ => exact hout.elim
    | outgrown => exact hout.elim

theorem callSZ {P : Program} {f : FuncId} {args as : List AV} {H : List Blk} {R Y : Out → List Blk → Prop} {g : Nat} {cs : List AV} (b : Nat) (hb : H[b]? = some (.cells g cs)) (hc : closeds args) (h : ACall P f args [] R) (hz : FzN (H.set b (.fro g cs)) as args) (hp : ∀ X, ¬ R .pan X)
    (k : ∀ v X, R (.ret v) X → Y (.ret (v.sh (H.set b (.fro g cs)).length)) (H.set b (.fro g cs) ++ X.map (Blk.sh (H.set b (.fro g cs)).length))) : ∃ R : Out → List Blk → Prop, ACall P f as H R ∧ ∀ o H', R o H' → Y o H' := by
  obtain ⟨R₁, h1, h2⟩ := callS (H := H.set b (.fro g cs)) hc h hp k
  exact ⟨R₁, (ACall.fz hz h1).froz b hb, h2⟩

/-! ### The last block moved -/

def mvF (p q b : Nat) : Nat := if b < p then b else if b < p + q then b + 1 else p
def mvI (p q b : Nat) : Option Nat := if b < p then some b else if b = p then some (p + q) else if b ≤ p + q then some (b - 1) else none
theorem mvF_lo {p q b : Nat} (h : b < p) : mvF p q b = b := if_pos h
theorem mvF_mid {p q b : Nat} (h : p ≤ b) (h2 : b < p + q) : mvF p q b = b + 1 := by rw [mvF, if_neg (by omega), if_pos h2]
theorem mvF_last {p q : Nat} : mvF p q (p + q) = p := by rw [mvF, if_neg (by omega), if_neg (by omega)]

theorem Ent.lastTo {nt : Fr} {s : Slots} (hk : nt.k = 0) (pre post : List Blk) (x : Blk) :
    Ent nt s (pre ++ post ++ [x]) (fun t => (s t).rn (mvF pre.length post.length)) ((pre ++ x :: post).map (Blk.rn (mvF pre.length post.length))) := by
  refine Ent.rename hk (mvF pre.length post.length) (mvI pre.length post.length) ?_ ?_ ?_
  · intro b hb
    simp only [List.length_append, List.length_singleton] at hb
    unfold mvF
    split
    · rename_i h; rw [mvI, if_pos h]
    · rename_i h
      split
      · rename_i h2; rw [mvI, if_neg (by omega), if_neg (by omega), if_pos (by omega)]; simp
      · rename_i h2; rw [mvI, if_neg (by omega), if_pos rfl]; congr 1; omega
  · intro b' b h
    simp only [List.length_append, List.length_singleton, List.length_map, List.length_cons]
    unfold mvI at h
    split at h
    · rename_i hb; cases h; exact ⟨(mvF_lo hb).symm, by omega, by omega⟩
    · split at h
      · rename_i hb; cases h; exact ⟨by rw [mvF_last]; exact hb, by omega, by omega⟩
      · split at h
        · cases h; exact ⟨by rw [mvF_mid (by omega) (by omega)]; omega, by omega, by omega⟩
        · simp at h
  · intro b' x' h
    rw [List.getElem?_map, Option.map_eq_some_iff] at h
    obtain ⟨y, hy, rfl⟩ := h
    by_cases h1 : b' < pre.length
    · rw [List.getElem?_append_left h1] at hy
      exact ⟨b', y, by rw [mvI, if_pos h1], by rw [List.append_assoc, List.getElem?_append_left h1]; exact hy, rfl⟩
    · rw [List.getElem?_append_right (by omega)] at hy
      by_cases h2 : b' = pre.length
      · subst h2
        rw [Nat.sub_self, List.getElem?_cons_zero] at hy
        cases hy
        exact ⟨pre.length + post.length, x, by rw [mvI, if_neg (by omega), if_pos rfl], by rw [List.getElem?_append_right (by simp)]; simp, rfl⟩
      · obtain ⟨c, hc⟩ : ∃ c, b' - pre.length = c + 1 := ⟨b' - pre.length - 1, by omega⟩
        rw [hc, List.getElem?_cons_succ] at hy
        have hlt := (List.getElem?_eq_some_iff.1 hy).1
        exact ⟨b' - 1, y, by rw [mvI, if_neg h1, if_neg h2, if_pos (by omega)], by
          rw [List.getElem?_append_left (by simp; omega), List.getElem?_append_right (by omega), show b' - 1 - pre.length = c by omega]; exact hy, rfl⟩

theorem strs_rn (f : Nat → Nat) (l : List (List UInt8)) : rns f (l.map .str) = l.map .str := closeds_rn _ (closeds_iff.2 fun a ha => by obtain ⟨x, _, rfl⟩ := List.mem_map.1 ha; simp only [AV.closed])
theorem bools_rn (f : Nat → Nat) (l : List Bool) : rns f (l.map .bool) = l.map .bool := closeds_rn _ (closeds_iff.2 fun a ha => by obtain ⟨x, _, rfl⟩ := List.mem_map.1 ha; simp only [AV.closed])
theorem ints_rn (f : Nat → Nat) (k : IntKind) (l : List Int) : rns f (l.map (.int k)) = l.map (.int k) := closeds_rn _ (closeds_iff.2 fun a ha => by obtain ⟨x, _, rfl⟩ := List.mem_map.1 ha; simp only [AV.closed])
theorem den_rn (f : Nat → Nat) (d : Den) : rns f d.cells = d.cells := closeds_rn _ (by have := aDen_closed d; simpa [aDen, AV.closed] using this)

end Tab
