/- Lemmas for this claim: part 8. No condition. -/
import Derived.Test.YtiflemdfnjgobaaDoorZ6
import Derived.Test.YtiflemdfnjgobaaDoorZ7
import Derived.KernelRfl
import Derived.IntWalk
set_option linter.unusedVariables false
set_option linter.unusedSimpArgs false
set_option linter.unusedSectionVars false
/- Lists as slices; small laws for slots. -/
namespace Tab
open Go
variable [Globs]

def aSs (k : SK) (l : List (List UInt8)) : AV := .sl k l.length (l.map .str)
def aIs (k : SK) (l : List Int) : AV := .sl k l.length (l.map (.int .i64))
def aBs (k : SK) (l : List Bool) : AV := .sl k l.length (l.map .bool)
/-- Rows of numbers, each with what is known of it. -/
def aRs (k : SK) (l : List (SK × List Int)) : AV := .sl k l.length (l.map fun r => aIs r.1 r.2)

theorem aSs_closed (k l) : (aSs k l).closed := by simp [aSs, AV.closed, closeds_iff]
theorem aIs_closed (k l) : (aIs k l).closed := by simp [aIs, AV.closed, closeds_iff]
theorem aBs_closed (k l) : (aBs k l).closed := by
  simp only [aBs, AV.closed, closeds_iff, List.mem_map]
  rintro a ⟨r, _, rfl⟩
  simp [AV.closed]
theorem aRs_closed (k l) : (aRs k l).closed := by
  simp only [aRs, AV.closed, closeds_iff, List.mem_map]
  rintro a ⟨r, _, rfl⟩
  exact aIs_closed _ _

/-- A machine: tracks, which states accept, rows. -/
structure Den where
  tk : SK
  tracks : List (List UInt8)
  ak : SK
  accept : List Bool
  nk : SK
  next : List (SK × List Int)

def Den.cells (d : Den) : List AV := [aSs d.tk d.tracks, aBs d.ak d.accept, aRs d.nk d.next]
def aDen (d : Den) : AV := .agg d.cells
theorem aDen_closed (d : Den) : (aDen d).closed := by
  simp [aDen, Den.cells, AV.closed, closeds, aSs_closed, aBs_closed, aRs_closed]

theorem finV {P : Program} {nt : Fr} {rs : List ResultVar} {v v' : AV} {s : Slots} {H : List Blk} (h : resA P rs s H = some v') (e : v' = v) : finE P nt rs v s H := finE_of (h.trans (congrArg some e))
def cFst : Code → Code | .seq x _ => x | c => c
def cSnd : Code → Code | .seq _ y => y | c => c

/-- A pure call, done. -/
theorem callP {P : Program} {f : FuncId} {args : List AV} {v : AV} {H : List Blk} {X : Out → List Blk → Prop} (h : Pure P f args v) (k : X (.ret v) H) :
    ∃ R : Out → List Blk → Prop, ACall P f args H R ∧ ∀ o H', R o H' → X o H' := ⟨_, h.acall H, by rintro _ _ ⟨rfl, rfl⟩; exact k⟩
/-- A call that answers this, and leaves this heap. -/
theorem callH {P : Program} {f : FuncId} {args : List AV} {v : AV} {H H₁ : List Blk} {X : Out → List Blk → Prop} (h : ACall P f args H fun o H' => o = .ret v ∧ H' = H₁) (k : X (.ret v) H₁) :
    ∃ R : Out → List Blk → Prop, ACall P f args H R ∧ ∀ o H', R o H' → X o H' := ⟨_, h, by rintro _ _ ⟨rfl, rfl⟩; exact k⟩
/-- A pure call whose arguments are read out of the heap, and whose answer has no memory. -/
theorem callB {P : Program} {f : FuncId} {args as : List AV} {v : AV} {H : List Blk} {X : Out → List Blk → Prop} (h : Pure P f args v) (hv : scalR v = true) (hr : Rds H as args) (k : X (.ret v) H) :
    ∃ R : Out → List Blk → Prop, ACall P f as H R ∧ ∀ o H', R o H' → X o H' := ⟨_, h.borrow hv hr, by rintro _ _ ⟨rfl, rfl⟩; exact k⟩

theorem RdsN_refl : ∀ (l : List AV), RdsN [] l l
  | [] => .nil
  | a :: l => .same (RdsN_refl l)
theorem none_need {H : List Blk} : ∀ p ∈ ([] : List (Nat × Blk)), H[p.1]? = some p.2 := fun _ h => by simp at h

theorem decB_dec {p : Prop} [Decidable p] {A B : Prop} (h : p → A) (k : ¬ p → B) : decB (decide p) A B := by
  by_cases hp : p
  · rw [decide_eq_true hp]; exact h hp
  · rw [decide_eq_false hp]; exact k hp

/-- A result that is a row of the heap: it is given away. -/
theorem finFrz {P : Program} {nt : Fr} {rs : List ResultVar} {cs : List AV} {n : Nat} {s : Slots} {H : List Blk} (t : Nat) {b g es : Nat} (ht : s t = .hs b g 0 n es) (hb : H[b]? = some (.cells g cs)) (hfit : n * es = cs.length) (hrs : rs = [.tmp t]) : finE P nt rs (.sl .any n cs) s H := by
  subst hrs
  exact ⟨_, _, Ent.freeze t ht hb hfit, by simp [resA, resAll, resOne, upd]⟩

theorem Ent.to {nt : Fr} {s s' : Slots} {H H₁ H' : List Blk} (h : Ent nt s H s' H₁) (e : H₁ = H') : Ent nt s H s' H' := by subst e; exact h

/-- Whatever is known of a slice: it is nil, or it isn't. -/
theorem Pure.anyK {P : Program} {f : FuncId} {k : SK} {n : Nat} {cs rest : List AV} {v : AV} (h0 : n = 0 → cs = [] → Pure P f (.sl .nil 0 [] :: rest) v) (h1 : Pure P f (.sl .nn n cs :: rest) v) : Pure P f (.sl k n cs :: rest) v := by
  refine ⟨by have := h1.cargs; simpa only [closeds, AV.closed] using this, h1.cval, h1.call.1, fun m ro w cargs hi hx => ?_⟩
  simp only [VsRel] at hx
  obtain ⟨u, us, e, hu, hus⟩ := hx
  simp only [VRel] at hu
  rcases hu with ⟨_, hv, rfl, rfl⟩ | ⟨hk, ad, cap, hv, hle, _, hc⟩
  · exact (h0 rfl rfl).call.2 m ro w cargs hi (by simp only [VsRel, VRel]; exact ⟨u, us, e, .inl ⟨.inl trivial, hv, trivial, trivial⟩, hus⟩)
  · exact h1.call.2 m ro w cargs hi (by simp only [VsRel, VRel]; exact ⟨u, us, e, .inr ⟨by simp, ad, cap, hv, hle, by simp, hc⟩, hus⟩)

theorem Ent.slotTo {nt : Fr} {s : Slots} {H : List Blk} {x y : AV} (t : Nat) (ht : s t = x) (hxy : ∀ m ro w v, VRel m ro w x v → VRel m ro w y v) : Ent nt s H (upd s t y) H := by
  rintro c a w ⟨m, ro, hi, hst, hsl, hsz, hd⟩
  refine ⟨m, ro, hi, hst, fun t' => ?_, hsz, hd⟩
  simp only [upd]
  by_cases e : t' = t
  · subst e
    simp only [Nat.beq_refl, cond_true]
    have := hsl t'
    rw [ht] at this
    exact hxy _ _ _ _ this
  · have : Nat.beq t' t = false := by rw [← Bool.not_eq_true]; intro h; exact e (Nat.eq_of_beq_eq_true h)
    rw [this]
    exact hsl t'

theorem sl_any {m : Mp} {ro : Nat → Prop} {w : World} {k : SK} {n : Nat} {cs : List AV} {v : Value} (h : VRel m ro w (.sl k n cs) v) : VRel m ro w (.sl .any n cs) v := by
  simp only [VRel] at h ⊢
  rcases h with ⟨_, h⟩ | ⟨_, ad, cap, h1, h2, _, h4⟩
  · exact .inl ⟨.inr trivial, h⟩
  · exact .inr ⟨by simp, ad, cap, h1, h2, by simp, h4⟩

/-- A result of which less is said. -/
theorem finTo {P : Program} {nt : Fr} {rs : List ResultVar} {x y : AV} {s : Slots} {H : List Blk} (t : Nat) (ht : s t = x) (hxy : ∀ m ro w v, VRel m ro w x v → VRel m ro w y v) (hrs : rs = [.tmp t]) : finE P nt rs y s H := by
  subst hrs
  exact ⟨_, _, Ent.slotTo t ht hxy, by simp [resA, resAll, resOne, upd]⟩

theorem inc_slot {i : Nat} (h : i < 9223372036854775807) : AV.int .i64 (IntKind.wrap .i64 ((i : Int) + 1)) = AV.int .i64 ((i + 1 : Nat) : Int) := by
  rw [IntWalk.i64_in _ (by omega)]; simp
theorem dec_slot {i : Nat} (h : 0 < i) (h2 : i < 9223372036854775807) : AV.int .i64 (IntKind.wrap .i64 ((i : Int) - 1)) = AV.int .i64 ((i - 1 : Nat) : Int) := by
  rw [IntWalk.i64_in _ (by omega)]; congr 1; omega
theorem dec_slot' {i : Nat} (h2 : i < 9223372036854775807) : AV.int .i64 (IntKind.wrap .i64 ((i : Int) - 1)) = AV.int .i64 ((i : Int) - 1) := by
  rw [IntWalk.i64_in _ (by omega)]

theorem set_last {α : Type} (pre : List α) (x y : α) : (pre ++ [x]).set pre.length y = pre ++ [y] := by
  rw [List.set_append_right _ _ (Nat.le_refl _), Nat.sub_self]; rfl

/-- A row that was put at a list's end is given away. -/
theorem Ent.rowEnd {nt : Fr} {s : Slots} {H : List Blk} {gb gr n es : Nat} {pre cs : List AV} (b r : Nat) (hb : H[b]? = some (.cells gb (pre ++ [.hs r gr 0 n es]))) (hr : H[r]? = some (.cells gr cs)) (hne : b ≠ r) (hfit : n * es = cs.length) :
    Ent nt s H s ((H.set r (.fro gr cs)).set b (.cells gb (pre ++ [.sl .any n cs]))) := by
  have := Ent.freezeCell (nt := nt) (s := s) (H := H) b pre.length hb (by simp) hr hne hfit
  rwa [set_last] at this

theorem bels_append {n : Nat} {a b : List AV} : bels n (a ++ b) ↔ bels n a ∧ bels n b := by
  simp only [bels_iff, List.mem_append]
  exact ⟨fun h => ⟨fun x hx => h x (.inl hx), fun x hx => h x (.inr hx)⟩, fun h x hx => hx.elim (h.1 x) (h.2 x)⟩
theorem bels_map {n : Nat} {X : Type} {f : X → AV} {l : List X} : bels n (l.map f) ↔ ∀ x ∈ l, (f x).bel n := by simp [bels_iff]
theorem aSs_bel (n k l) : (aSs k l).bel n := AV.closed_bel _ (aSs_closed k l)
theorem aIs_bel (n k l) : (aIs k l).bel n := AV.closed_bel _ (aIs_closed k l)
theorem aBs_bel (n k l) : (aBs k l).bel n := AV.closed_bel _ (aBs_closed k l)
theorem aRs_bel (n k l) : (aRs k l).bel n := AV.closed_bel _ (aRs_closed k l)
theorem aDen_bel (n d) : (aDen d).bel n := AV.closed_bel _ (aDen_closed d)
theorem cells_bel (n) (d : Den) : bels n d.cells := by have := aDen_bel n d; simpa [aDen, AV.bel] using this

/-- At a function's end: the state is looked at, changed to one that says less, and read. -/
theorem finH {P : Program} {nt : Fr} {rs : List ResultVar} {v : AV} {s s' : Slots} {H H₁ H' : List Blk} {l : List (Nat × AV)} (hf : frOk s l) (hH : H = H₁) (e : Ent nt (Tab.fr l) H₁ s' H') (r : resA P rs s' H' = some v) : finE P nt rs v s H :=
  ⟨s', H', (Ent.fr' hf hH).trans e, r⟩

theorem blksBel_append {n : Nat} : ∀ {a b : List Blk}, blksBel n (a ++ b) ↔ blksBel n a ∧ blksBel n b
  | [], b => by simp [blksBel]
  | x :: a, b => by simp [blksBel, blksBel_append (a := a) (b := b), and_assoc]

theorem split_at2 {α : Type} {H pre : List α} {x y : α} (h0 : H.take pre.length = pre) (h1 : H[pre.length]? = some x) (h2 : H[pre.length + 1]? = some y) : ∃ X, H = pre ++ x :: y :: X := by
  refine ⟨H.drop (pre.length + 2), ?_⟩
  have e : H = H.take pre.length ++ H.drop pre.length := (List.take_append_drop ..).symm
  have l1 := (List.getElem?_eq_some_iff.1 h1)
  have l2 := (List.getElem?_eq_some_iff.1 h2)
  obtain ⟨k1, e1⟩ := l1
  obtain ⟨k2, e2⟩ := l2
  rw [h0, List.drop_eq_getElem_cons k1, List.drop_eq_getElem_cons k2, e1, e2] at e
  exact e

/-- A round's end: a row was put at the end of a list; what is behind is forgotten. -/
theorem Ent.rowNext {nt : Fr} {s : Slots} {H H' : List Blk} {l : List (Nat × AV)} {gb gr n es r : Nat} {L cs : List AV} (pre : List Blk) (hf : frOk s l) (h0 : H.take pre.length = pre) (h1 : H[pre.length]? = some (.cells gb (L ++ [.hs r gr 0 n es])))
    (h2 : H[pre.length + 1]? = some (.cells gr cs)) (hr : r = pre.length + 1) (hfit : n * es = cs.length)
    (hk : nt.k ≤ pre.length + 1) (hl : frBel (pre.length + 1) l) (hp : blksBel (pre.length + 1) pre) (hL : bels (pre.length + 1) L) (hcs : bels (pre.length + 1) cs) (e : pre ++ [.cells gb (L ++ [.sl .any n cs])] = H') : Ent nt s H (Tab.fr l) H' := by
  subst e
  subst hr
  obtain ⟨X, hH⟩ := split_at2 h0 h1 h2
  refine (Ent.fr' hf hH).trans ?_
  have h1 := Ent.rowEnd (nt := nt) (s := Tab.fr l) (H := pre ++ .cells gb (L ++ [.hs (pre.length + 1) gr 0 n es]) :: .cells gr cs :: X) pre.length (pre.length + 1) (gb := gb) (gr := gr) (n := n) (es := es) (pre := L) (cs := cs)
    (by simp) (by rw [List.getElem?_append_right (by omega)]; simp) (by omega) hfit
  refine h1.trans ?_
  rw [List.set_append_right _ _ (by omega), show pre.length + 1 - pre.length = 1 by omega, List.set_append_right _ _ (Nat.le_refl _), Nat.sub_self]
  have h2 := Ent.drop (nt := nt) (l := l) (H := pre ++ [.cells gb (L ++ [.sl .any n cs])]) (X := .fro gr cs :: X) (by simpa using hk) (by simpa using hl)
    (by simp only [List.length_append, List.length_singleton]; rw [blksBel_append]; exact ⟨hp, by simp only [Blk.bel, bels_append]; exact ⟨hL, by simp only [bels, AV.bel]; exact ⟨hcs, trivial⟩⟩, trivial⟩)
  simpa using h2

theorem bels_take {n k : Nat} {l : List AV} (h : bels n l) : bels n (l.take k) := bels_iff.2 fun x hx => bels_iff.1 h x (List.mem_of_mem_take hx)
theorem bels_drop {n k : Nat} {l : List AV} (h : bels n l) : bels n (l.drop k) := bels_iff.2 fun x hx => bels_iff.1 h x (List.mem_of_mem_drop hx)
theorem bels_td {n k j : Nat} {l : List AV} (h : bels n l) : bels n ((l.drop k).take j) := bels_take (bels_drop h)
theorem td_all {α : Type} {l : List α} {n : Nat} (h : l.length ≤ n * 1) : (l.drop 0).take (n * 1) = l := by rw [List.drop_zero, List.take_of_length_le h]

theorem ACall.anyK {P : Program} {f : FuncId} {k : SK} {n : Nat} {cs rest : List AV} {H : List Blk} {R : Out → List Blk → Prop} (h0 : n = 0 → cs = [] → ACall P f (.sl .nil 0 [] :: rest) H R) (h1 : ACall P f (.sl .nn n cs :: rest) H R) : ACall P f (.sl k n cs :: rest) H R := by
  refine ⟨h1.1, fun m ro w cargs hi hx => ?_⟩
  simp only [VsRel] at hx
  obtain ⟨u, us, e, hu, hus⟩ := hx
  simp only [VRel] at hu
  rcases hu with ⟨_, hv, rfl, rfl⟩ | ⟨hk, ad, cap, hv, hle, _, hc⟩
  · exact (h0 rfl rfl).2 m ro w cargs hi (by simp only [VsRel, VRel]; exact ⟨u, us, e, .inl ⟨.inl trivial, hv, trivial, trivial⟩, hus⟩)
  · exact h1.2 m ro w cargs hi (by simp only [VsRel, VRel]; exact ⟨u, us, e, .inr ⟨by simp, ad, cap, hv, hle, by simp, hc⟩, hus⟩)

theorem finR {P : Program} {nt : Fr} {rs : List ResultVar} {v : AV} {s s' : Slots} {H H₁ H' : List Blk} {l : List (Nat × AV)} {R : Out → List Blk → Prop} (hf : frOk s l) (hH : H = H₁) (e : Ent nt (Tab.fr l) H₁ s' H') (r : resA P rs s' H' = some v) (k : R (.ret v) H') :
    RetE P nt rs R s H := ⟨s', H', v, (Ent.fr' hf hH).trans e, r, k⟩

theorem get_last {α : Type} (A : List α) (x : α) : (A ++ [x])[A.length]? = some x := by simp
theorem over_one {cs : List AV} {i : Nat} {x : AV} (h : i < cs.length) : over cs i [x] = cs.set i x := by
  rw [over, List.set_eq_take_append_cons_drop, if_pos h]; simp
theorem reps_one (x : AV) : ∀ n, reps [x] n = List.replicate n x
  | 0 => rfl
  | n + 1 => by rw [reps, reps_one x n]; rfl

/-- A row that is filled from its beginning: the first a are there. -/
def partL (f : Nat → Int) (n a : Nat) : List Int := (List.range n).map fun j => if j < a then f j else 0
theorem partL_length (f n a) : (partL f n a).length = n := by simp [partL]
theorem partL_zero (f n) : partL f n 0 = List.replicate n 0 := by
  rw [partL]; exact List.ext_getElem (by simp) (by simp)
theorem partL_full (f n) : partL f n n = (List.range n).map f := by
  rw [partL]; exact List.map_congr_left fun j hj => if_pos (List.mem_range.1 hj)
theorem partL_step {f n a} : (partL f n a).set a (f a) = partL f n (a + 1) := by
  refine List.ext_getElem (by simp [partL]) fun j h1 h2 => ?_
  simp only [partL, List.getElem_set, List.getElem_map, List.getElem_range]
  by_cases e : a = j
  · subst e; simp
  · rw [if_neg e]
    by_cases h : j < a
    · rw [if_pos h, if_pos (by omega)]
    · rw [if_neg h, if_neg (by omega)]
theorem blksBel_map {n : Nat} {X : Type} {f : X → Blk} {l : List X} : blksBel n (l.map f) ↔ ∀ x ∈ l, (f x).bel n := by
  induction l with
  | nil => simp [blksBel]
  | cons x l ih => simp [blksBel, ih]

/-- The last block that matters is a slot's row: it is given away, and all from there on forgotten. -/
theorem Ent.freezeLast {nt : Fr} {s : Slots} {H : List Blk} {l l' : List (Nat × AV)} {g n es : Nat} {cs : List AV} (pre : List Blk) (t : Nat) (hf : frOk s l) (h0 : H.take pre.length = pre) (h1 : H[pre.length]? = some (.cells g cs))
    (ht : Tab.fr l t = .hs pre.length g 0 n es) (hfit : n * es = cs.length) (hk : nt.k ≤ pre.length) (hl : frOk (upd (Tab.fr l) t (.sl .any n cs)) l') (hb : frBel pre.length l') (hp : blksBel pre.length pre) : Ent nt s H (Tab.fr l') pre := by
  obtain ⟨X, hH⟩ : ∃ X, H = pre ++ .cells g cs :: X := by
    refine ⟨H.drop (pre.length + 1), ?_⟩
    have e : H = H.take pre.length ++ H.drop pre.length := (List.take_append_drop ..).symm
    obtain ⟨k1, e1⟩ := List.getElem?_eq_some_iff.1 h1
    rw [h0, List.drop_eq_getElem_cons k1, e1] at e
    exact e
  refine (Ent.fr' hf hH).trans ?_
  have h := Ent.freeze (nt := nt) (s := Tab.fr l) (H := pre ++ .cells g cs :: X) (b := pre.length) t ht (by simp) hfit
  refine h.trans ?_
  rw [List.set_append_right _ _ (Nat.le_refl _), Nat.sub_self]
  exact Ent.frD (X := .fro g cs :: X) hl rfl hk hb hp

/-- Arguments read out of blocks that nobody writes any more. -/
inductive FzN (H : List Blk) : List AV → List AV → Prop
  | nil : FzN H [] []
  | same {a as as'} (t : FzN H as as') : FzN H (a :: as) (a :: as')
  | hs {b g n es cs as as'} (hb : H[b]? = some (.fro g cs)) (hfit : n * es = cs.length) (t : FzN H as as') : FzN H (.hs b g 0 n es :: as) (.sl .any n cs :: as')

theorem FzN.rel {H : List Blk} {m : Mp} {ro : Nat → Prop} {w : World} (hi : InvL m ro H w) {as as' : List AV} (h : FzN H as as') : ∀ {vs : List Value}, VsRel m ro w as vs → VsRel m ro w as' vs := by
  induction h with
  | nil => intro vs h; exact h
  | same t ih =>
    intro vs hv
    simp only [VsRel] at hv ⊢
    obtain ⟨v, vs', rfl, h1, h2⟩ := hv
    exact ⟨v, vs', rfl, h1, ih h2⟩
  | @hs b g n es cs as as' hb hfit t ih =>
    intro vs hv
    simp only [VsRel] at hv ⊢
    obtain ⟨v, vs', rfl, h1, h2⟩ := hv
    refine ⟨v, vs', rfl, ?_, ih h2⟩
    have := froz_val hi hb (by omega) h1
    rwa [List.drop_zero, hfit, List.take_length] at this

theorem InvL.froz {m ro w} {H : List Blk} {g : Nat} {cs : List AV} (hi : InvL m ro H w) (b : Nat) (hb : H[b]? = some (.cells g cs)) :
    ∃ ro', InvL m ro' (H.set b (.fro g cs)) w ∧ Step m ro (lk H) w m ro' (lk (H.set b (.fro g cs))) w := by
  have hlt := (List.getElem?_eq_some_iff.1 hb).1
  obtain ⟨k1, k2⟩ := hi.inv.change₀ (m' := m) (ro' := fun cb => ro cb ∨ Owns m (lk H) b cb) (H' := lk (H.set b (.fro g cs))) b (.fro g cs) (fun _ _ _ h => h) (fun _ _ => .inl rfl) (lk_set hlt)
    (fun g cb base h => by simp [Blk.own] at h) (fun g h => by simp [Blk.own] at h) (fun _ h => .inl h) (fun _ h => h)
    (fun keep loc hl => by
      have h := hi.inv.blk b _ hb loc hl
      cases loc with
      | void => exact h
      | «at» cb base =>
        obtain ⟨c, t, hc, hlay⟩ := h
        refine CsRel_iff.2 ?_
        intro i x hix
        obtain ⟨v, hv, ho, hr⟩ := hlay i x hix
        exact ⟨.inr ⟨_, g, base, hb, rfl, hl⟩, v, by simp only [World.cell?, hc]; simpa using hv, ho, keep x v hr⟩)
  exact ⟨_, ⟨k1, fun b g loc h => by simpa using hi.bound b g loc h⟩, k2⟩

/-- A block is given away ahead of a call. -/
theorem ACall.froz {P : Program} {f : FuncId} {as : List AV} {H : List Blk} {R : Out → List Blk → Prop} {g : Nat} {cs : List AV} (b : Nat) (hb : H[b]? = some (.cells g cs)) (h : ACall P f as (H.set b (.fro g cs)) R) : ACall P f as H R := by
  refine ⟨h.1, fun m ro w cargs hi hx => ?_⟩
  obtain ⟨ro', hi', hst⟩ := hi.froz b hb
  refine (h.2 m ro' w cargs hi' (hx.step hi.inv hst)).mono ?_
  rintro e w' ⟨m', ro₂, out, H', h1, h2, h3, h4⟩
  exact ⟨m', ro₂, out, H', h1, h2, h3, hst.trans h4⟩

theorem ACall.fz {P : Program} {f : FuncId} {as args : List AV} {H : List Blk} {R : Out → List Blk → Prop} (hz : FzN H as args) (h : ACall P f args H R) : ACall P f as H R :=
  ⟨h.1, fun m ro w cargs hi hx => h.2 m ro w cargs hi (hz.rel hi hx)⟩

/-- A pure call with a slice of a block, that is given away. -/
theorem callZ {P : Program} {f : FuncId} {args as : List AV} {v : AV} {H : List Blk} {X : Out → List Blk → Prop} {g : Nat} {cs : List AV} (b : Nat) (hb : H[b]? = some (.cells g cs)) (h : Pure P f args v) (hz : FzN (H.set b (.fro g cs)) as args) (k : X (.ret v) (H.set b (.fro g cs))) :
    ∃ R : Out → List Blk → Prop, ACall P f as H R ∧ ∀ o H', R o H' → X o H' := ⟨_, (ACall.fz hz (h.acall _)).froz b hb, by rintro _ _ ⟨rfl, rfl⟩; exact k⟩

/-- A state's slots chosen, the heap cut. -/
theorem Ent.frT {nt : Fr} {s : Slots} {H H' : List Blk} {l : List (Nat × AV)} (n : Nat) (h : frOk s l) (e : H.take n = H') (hk : nt.k ≤ H'.length) (hl : frBel H'.length l) (hH : blksBel H'.length H') : Ent nt s H (Tab.fr l) H' :=
  Ent.frD (X := H.drop n) h (by rw [← e, List.take_append_drop]) hk hl hH

/-- A pure call with slices of blocks that nobody writes any more. -/
theorem callY {P : Program} {f : FuncId} {args as : List AV} {v : AV} {H : List Blk} {X : Out → List Blk → Prop} (h : Pure P f args v) (hz : FzN H as args) (k : X (.ret v) H) :
    ∃ R : Out → List Blk → Prop, ACall P f as H R ∧ ∀ o H', R o H' → X o H' := ⟨_, ACall.fz hz (h.acall _), by rintro _ _ ⟨rfl, rfl⟩; exact k⟩

theorem callZ2 {P : Program} {f : FuncId} {args as : List AV} {v : AV} {H : List Blk} {X : Out → List Blk → Prop} {g g' : Nat} {cs cs' : List AV} (b b' : Nat) (hb : H[b]? = some (.cells g cs)) (hb' : (H.set b (.fro g cs))[b']? = some (.cells g' cs')) (h : Pure P f args v)
    (hz : FzN ((H.set b (.fro g cs)).set b' (.fro g' cs')) as args) (k : X (.ret v) ((H.set b (.fro g cs)).set b' (.fro g' cs'))) : ∃ R : Out → List Blk → Prop, ACall P f as H R ∧ ∀ o H', R o H' → X o H' :=
  ⟨_, ((ACall.fz hz (h.acall _)).froz b' hb').froz b hb, by rintro _ _ ⟨rfl, rfl⟩; exact k⟩

/-- The two ways of a condition lead to one state; what is behind is proved once. -/
def joinK (nt : Fr) (s' : Slots) (H' : List Blk) (K : Post) : Post := fun e s H => match e with
  | .normal => Ent nt s H s' H'
  | e => K e s H
theorem VCode.join {P : Program} {nt : Fr} {c : Operand} {x y : Code} {s : Slots} {H : List Blk} {K : Post} {b : Bool} (s' : Slots) (H' : List Blk) (hc : ev s c = .bool b) (hx : b = true → VCode P nt x s H (joinK nt s' H' K)) (hy : b = false → VCode P nt y s H (joinK nt s' H' K))
    (hz : ∀ s₁ H₁, Ent nt s₁ H₁ s' H' → K .normal s₁ H₁) : VCode P nt (.cond c x y) s H K := by
  refine ⟨SW.mono (SW.cond hc (fun h => (hx h).out) (fun h => (hy h).out)) fun e s₁ H₁ h => ?_⟩
  cases e with
  | normal => exact hz s₁ H₁ h
  | _ => exact h

end Tab

/- Blocks numbered otherwise. -/
namespace Tab
open Go
variable [Globs]
set_option linter.unusedSectionVars false

mutual
def AV.rn (f : Nat → Nat) : AV → AV
  | .ref b g o => .ref (f b) g o
  | .hs b g o n es => .hs (f b) g o n es
  | .mp b => .mp (f b)
  | .tref cs => .tref (rns f cs)
  | .sl s n cs => .sl s n (rns f cs)
  | .fn g a b => .fn g (rns f a) (rns f b)
  | .ifc t v => .ifc t (v.rn f)
  | .agg cs => .agg (rns f cs)
  | .tup cs => .tup (rns f cs)
  | .bool b => .bool b
  | .int i n => .int i n
  | .str s => .str s
  | .nilp => .nilp
  | .nilm => .nilm
  | .nilf => .nilf
  | .nili => .nili
  | .junk => .junk
def rns (f : Nat → Nat) : List AV → List AV
  | [] => []
  | a :: as => a.rn f :: rns f as
end

theorem rns_get {f : Nat → Nat} : ∀ {as : List AV} {i : Nat} {a : AV}, (rns f as)[i]? = some a → ∃ x, as[i]? = some x ∧ a = x.rn f
  | [], i, a, h => by simp [rns] at h
  | x :: as, 0, a, h => by simp [rns] at h; exact ⟨x, rfl, h.symm⟩
  | x :: as, i + 1, a, h => by simp only [rns, List.getElem?_cons_succ] at h; exact rns_get (as := as) h
theorem rns_map {f : Nat → Nat} : ∀ (as : List AV), rns f as = as.map (AV.rn f)
  | [] => rfl
  | a :: as => by simp [rns, rns_map as]

mutual
theorem AV.closed_rn {f : Nat → Nat} : ∀ (a : AV), a.closed → a.rn f = a
  | .ref _ _ _, h | .hs _ _ _ _ _, h | .mp _, h => by simp only [AV.closed] at h
  | .tref cs, h | .sl _ _ cs, h | .agg cs, h | .tup cs, h => by simp only [AV.closed, AV.rn] at h ⊢; rw [closeds_rn cs h]
  | .fn _ a b, h => by simp only [AV.closed, AV.rn] at h ⊢; rw [closeds_rn a h.1, closeds_rn b h.2]
  | .ifc _ v, h => by simp only [AV.closed, AV.rn] at h ⊢; rw [AV.closed_rn v h]
  | .bool _, _ | .int _ _, _ | .str _, _ | .nilp, _ | .nilm, _ | .nilf, _ | .nili, _ | .junk, _ => by simp only [AV.rn]
theorem closeds_rn {f : Nat → Nat} : ∀ (as : List AV), closeds as → rns f as = as
  | [], _ => rfl
  | a :: as, h => by simp only [closeds, rns] at h ⊢; rw [AV.closed_rn a h.1, closeds_rn as h.2]
end

section
variable {m M : Mp} {ro : Nat → Prop} {w : World} {f : Nat → Nat} (hM : ∀ b g loc, m b g = some loc → M (f b) g = some loc)
include hM
mutual
theorem AV.rn_rel : ∀ (a : AV) (v : Value), VRel m ro w a v → VRel M ro w (a.rn f) v
  | .bool _, _, h | .int _ _, _, h | .str _, _, h | .nilp, _, h | .nilm, _, h | .nilf, _, h | .nili, _, h => by simpa only [VRel, AV.rn] using h
  | .junk, _, _ => by simp only [VRel, AV.rn]
  | .ref b g o, v, h => by
    simp only [VRel, AV.rn] at h ⊢
    obtain ⟨cb, base, h, e⟩ := h
    exact ⟨cb, base, hM _ _ _ h, e⟩
  | .hs b g o n es, v, h => by
    simp only [VRel, AV.rn] at h ⊢
    obtain ⟨loc, h, e⟩ := h
    exact ⟨loc, hM _ _ _ h, e⟩
  | .mp b, v, h => by
    simp only [VRel, AV.rn] at h ⊢
    obtain ⟨cb, h, e⟩ := h
    exact ⟨cb, hM _ _ _ h, e⟩
  | .tref cs, v, h => by
    simp only [VRel, AV.rn] at h ⊢
    obtain ⟨cb, off, e, h⟩ := h
    exact ⟨cb, off, e, rns_cells cs cb off h⟩
  | .sl s n cs, v, h => by
    simp only [VRel, AV.rn] at h ⊢
    rcases h with ⟨h1, h2, h3, h4⟩ | ⟨hk', ad, cap, e, hle, hf, h⟩
    · exact .inl ⟨h1, h2, h3, by rw [h4]; rfl⟩
    · exact .inr ⟨hk', ad, cap, e, hle, hf, h.imp (fun h => ⟨h.1, by rw [h.2]; rfl⟩) fun h => ⟨h.1, rns_cells cs _ _ h.2⟩⟩
  | .fn g first cap, v, h => by
    simp only [VRel, AV.rn] at h ⊢
    obtain ⟨a, b, e, h1, h2⟩ := h
    exact ⟨a, b, e, rns_rel first _ h1, rns_rel cap _ h2⟩
  | .ifc t x, v, h => by
    simp only [VRel, AV.rn] at h ⊢
    obtain ⟨y, e, h⟩ := h
    exact ⟨y, e, AV.rn_rel x y h⟩
  | .agg cs, v, h => by
    simp only [VRel, AV.rn] at h ⊢
    obtain ⟨a, e, ho, h⟩ := h
    exact ⟨a, e, ho, rns_rel cs _ h⟩
  | .tup cs, v, h => by
    simp only [VRel, AV.rn] at h ⊢
    obtain ⟨a, e, h⟩ := h
    exact ⟨a, e, rns_rel cs _ h⟩
theorem rns_rel : ∀ (as : List AV) (vs : List Value), VsRel m ro w as vs → VsRel M ro w (rns f as) vs
  | [], vs, h => by simpa only [VsRel, rns] using h
  | a :: as, vs, h => by
    simp only [VsRel, rns] at h ⊢
    obtain ⟨v, vs', e, h1, h2⟩ := h
    exact ⟨v, vs', e, AV.rn_rel a v h1, rns_rel as vs' h2⟩
theorem rns_cells : ∀ (cs : List AV) (cb off : Nat), CsRel m ro w cs cb off → CsRel M ro w (rns f cs) cb off
  | [], _, _, _ => by simp only [CsRel, rns]
  | a :: as, cb, off, h => by
    simp only [CsRel, rns] at h ⊢
    obtain ⟨h1, ⟨v, hv, ho, h2⟩, h3⟩ := h
    exact ⟨h1, ⟨v, hv, ho, AV.rn_rel a v h2⟩, rns_cells as cb (off + 1) h3⟩
end
end


def Blk.rn (f : Nat → Nat) : Blk → Blk
  | .cells g cs => .cells g (rns f cs)
  | .fro g cs => .fro g (rns f cs)
  | .siter s p => .siter s p
  | .dict es => .dict es
  | .dead => .dead

theorem Blk.rn_own (f : Nat → Nat) (x : Blk) : (x.rn f).own = x.own := by cases x <;> rfl

theorem BlkRel.rn {m M : Mp} {ro : Nat → Prop} {w : World} {f : Nat → Nat} {b : Nat} (hM : ∀ b g loc, m b g = some loc → M (f b) g = some loc) (he : ∀ g, M (f b) g = m b g) {x : Blk} (h : BlkRel m ro w b x) : BlkRel M ro w (f b) (x.rn f) := by
  cases x with
  | cells g cs =>
    intro loc hl
    rw [he] at hl
    have h := h loc hl
    cases loc with
    | void => simp only at h ⊢; rw [h]; rfl
    | «at» cb base =>
      obtain ⟨c, t, hc, hlay⟩ := h
      refine ⟨c, t, hc, fun i a hia => ?_⟩
      obtain ⟨x, hx, rfl⟩ := rns_get hia
      obtain ⟨v, hv, ho, hr⟩ := hlay i x hx
      exact ⟨v, hv, ho, AV.rn_rel hM x v hr⟩
  | fro g cs =>
    intro loc hl
    rw [he] at hl
    have h := h loc hl
    cases loc with
    | void => simp only at h ⊢; rw [h]; rfl
    | «at» cb base => exact rns_cells hM cs cb base h
  | siter s p =>
    intro loc hl
    rw [he] at hl
    exact h loc hl
  | dict es =>
    intro loc hl
    rw [he] at hl
    exact h loc hl
  | dead => trivial

/-- Blocks that are numbered otherwise. -/
theorem Ent.rename {nt : Fr} {s : Slots} {H H' : List Blk} (hk : nt.k = 0) (f : Nat → Nat) (fi : Nat → Option Nat) (h1 : ∀ b, b < H.length → fi (f b) = some b) (h2 : ∀ b' b, fi b' = some b → b' = f b ∧ b < H.length ∧ b' < H'.length)
    (h3 : ∀ b' x', H'[b']? = some x' → ∃ b x, fi b' = some b ∧ H[b]? = some x ∧ x' = x.rn f) : Ent nt s H (fun t => (s t).rn f) H' := by
  rintro c a w ⟨m, ro, hi, hst, hsl, hsz, hd⟩
  let M : Mp := fun b' g => match fi b' with | some b => m b g | none => none
  have hMe : ∀ b, b < H.length → ∀ g, M (f b) g = m b g := fun b hb g => by
    show (match fi (f b) with | some b => m b g | none => none) = _
    rw [h1 b hb]
  have hM : ∀ b g loc, m b g = some loc → M (f b) g = some loc := fun b g loc h => by rw [hMe b (hi.bound b g loc h)]; exact h
  have hMs : ∀ b' g loc, M b' g = some loc → ∃ b, fi b' = some b ∧ m b g = some loc := fun b' g loc h => by
    have h : (match fi b' with | some b => m b g | none => none) = some loc := h
    split at h
    · rename_i b hb; exact ⟨b, hb, h⟩
    · simp at h
  have hmw : ∀ cb, MW M (lk H') cb → MW m (lk H) cb := by
    rintro cb ⟨b', x', g, base, k1, k2, k3⟩
    obtain ⟨b, x, e1, e2, rfl⟩ := h3 b' x' k1
    obtain ⟨b₂, e3, e4⟩ := hMs _ _ _ k3
    rw [e1] at e3
    cases e3
    rw [Blk.rn_own] at k2
    exact ⟨b, x, g, base, e2, k2, e4⟩
  refine ⟨M, ro, ⟨⟨hi.inv.ro_lt, ?_, ?_, fun cb h => hi.inv.excl cb (hmw cb h), ?_, hi.inv.glob.any⟩, ?_⟩, ⟨fun b g loc h => ?_, hst.size, hst.os, hst.out, hst.tape, hst.kept, hst.shape, fun cb h => hst.mw cb (hmw cb h), hst.ro_le, hst.ro_new⟩, fun t => AV.rn_rel hM _ _ (hsl t), hsz, hd⟩
  · intro b' x' k
    obtain ⟨b, x, e1, e2, rfl⟩ := h3 b' x' k
    obtain ⟨rfl, hb, _⟩ := h2 _ _ e1
    exact BlkRel.rn hM (hMe b hb) (hi.inv.blk b x e2)
  · intro b b' x x' g g' cb base base' k1 k2 o1 o2 l1 l2
    obtain ⟨c1, y1, e1, e2, rfl⟩ := h3 _ _ k1
    obtain ⟨c2, y2, e3, e4, rfl⟩ := h3 _ _ k2
    obtain ⟨d1, e5, e6⟩ := hMs _ _ _ l1
    obtain ⟨d2, e7, e8⟩ := hMs _ _ _ l2
    rw [e1] at e5; cases e5
    rw [e3] at e7; cases e7
    rw [Blk.rn_own] at o1 o2
    have := hi.inv.inj c1 c2 y1 y2 g g' cb base base' e2 e4 o1 o2 e6 e8
    subst this
    rw [(h2 _ _ e1).1, (h2 _ _ e3).1]
  · intro b x g k1 k2 g' loc k3
    obtain ⟨c1, y1, e1, e2, rfl⟩ := h3 _ _ k1
    obtain ⟨d1, e5, e6⟩ := hMs _ _ _ k3
    rw [e1] at e5; cases e5
    rw [Blk.rn_own] at k2
    exact hi.inv.gen c1 y1 g e2 k2 g' loc e6
  · intro b g loc h
    obtain ⟨d1, e5, _⟩ := hMs _ _ _ h
    exact (h2 _ _ e5).2.2
  · have := c.kb b g loc h
    omega

/-- What a call from an empty heap answers, of which less is said. -/
theorem ACall.weak {P : Program} {f : FuncId} {args : List AV} {R R' : Out → List Blk → Prop} (h : ACall P f args [] R) (hp : ∀ H', ¬ R .pan H')
    (hw : ∀ v H', R (.ret v) H' → ∃ v' H'', Ent ⟨1, 0⟩ (fr [(0, v)]) H' (fr [(0, v')]) H'' ∧ R' (.ret v') H'') : ACall P f args [] R' := by
  refine ⟨h.1, fun m ro w cargs hi hx => ?_⟩
  refine (h.2 m ro w cargs hi hx).mono ?_
  rintro e w' ⟨m', ro', out, H', hRo, hout, hi', hst⟩
  cases out with
  | pan => exact (hp _ hRo).elim
  | ret u =>
    obtain ⟨v', H'', hent, hR'⟩ := hw u H' hRo
    cases e with
    | returned x =>
      obtain ⟨m₂, ro₂, hi₂, hst₂, hsl, _, _⟩ := hent ⟨⟨m, ro, [], w, []⟩, fun b g loc hm => by have := hi.bound b g loc hm; simp at this⟩ { tmps := #[x], defers := [] } w'
        ⟨m', ro', hi', hst, fun t => by
          cases t with
          | zero => exact hout
          | succ t => simp only [fr, upd, Nat.beq, cond_false, VRel], rfl, rfl⟩
      exact ⟨m₂, ro₂, .ret v', H'', hR', hsl 0, hi₂, hst₂⟩
    | panicked _ => exact hout.elim
    | outgrown => exact hout.elim

theorem callSZ {P : Program} {f : FuncId} {args as : List AV} {H : List Blk} {R Y : Out → List Blk → Prop} {g : Nat} {cs : List AV} (b : Nat) (hb : H[b]? = some (.cells g cs)) (hc : closeds args) (h : ACall P f args [] R) (hz : FzN (H.set b (.fro g cs)) as args) (hp : ∀ X, ¬ R .pan X)
    (k : ∀ v X, R (.ret v) X → Y (.ret (v.sh (H.set b (.fro g cs)).length)) (H.set b (.fro g cs) ++ X.map (Blk.sh (H.set b (.fro g cs)).length))) : ∃ R : Out → List Blk → Prop, ACall P f as H R ∧ ∀ o H', R o H' → Y o H' := by
  obtain ⟨R₁, h1, h2⟩ := callS (H := H.set b (.fro g cs)) hc h hp k
  exact ⟨R₁, (ACall.fz hz h1).froz b hb, h2⟩

/-! ### The last block moved -/

def mvF (p q b : Nat) : Nat := if b < p then b else if b < p + q then b + 1 else p
def mvI (p q b : Nat) : Option Nat := if b < p then some b else if b = p then some (p + q) else if b ≤ p + q then some (b - 1) else none
theorem mvF_lo {p q b : Nat} (h : b < p) : mvF p q b = b := if_pos h
theorem mvF_mid {p q b : Nat} (h : p ≤ b) (h2 : b < p + q) : mvF p q b = b + 1 := by rw [mvF, if_neg (by omega), if_pos h2]
theorem mvF_last {p q : Nat} : mvF p q (p + q) = p := by rw [mvF, if_neg (by omega), if_neg (by omega)]

theorem Ent.lastTo {nt : Fr} {s : Slots} (hk : nt.k = 0) (pre post : List Blk) (x : Blk) :
    Ent nt s (pre ++ post ++ [x]) (fun t => (s t).rn (mvF pre.length post.length)) ((pre ++ x :: post).map (Blk.rn (mvF pre.length post.length))) := by
  refine Ent.rename hk (mvF pre.length post.length) (mvI pre.length post.length) ?_ ?_ ?_
  · intro b hb
    simp only [List.length_append, List.length_singleton] at hb
    unfold mvF
    split
    · rename_i h; rw [mvI, if_pos h]
    · rename_i h
      split
      · rename_i h2; rw [mvI, if_neg (by omega), if_neg (by omega), if_pos (by omega)]; simp
      · rename_i h2; rw [mvI, if_neg (by omega), if_pos rfl]; congr 1; omega
  · intro b' b h
    simp only [List.length_append, List.length_singleton, List.length_map, List.length_cons]
    unfold mvI at h
    split at h
    · rename_i hb; cases h; exact ⟨(mvF_lo hb).symm, by omega, by omega⟩
    · split at h
      · rename_i hb; cases h; exact ⟨by rw [mvF_last]; exact hb, by omega, by omega⟩
      · split at h
        · cases h; exact ⟨by rw [mvF_mid (by omega) (by omega)]; omega, by omega, by omega⟩
        · simp at h
  · intro b' x' h
    rw [List.getElem?_map, Option.map_eq_some_iff] at h
    obtain ⟨y, hy, rfl⟩ := h
    by_cases h1 : b' < pre.length
    · rw [List.getElem?_append_left h1] at hy
      exact ⟨b', y, by rw [mvI, if_pos h1], by rw [List.append_assoc, List.getElem?_append_left h1]; exact hy, rfl⟩
    · rw [List.getElem?_append_right (by omega)] at hy
      by_cases h2 : b' = pre.length
      · subst h2
        rw [Nat.sub_self, List.getElem?_cons_zero] at hy
        cases hy
        exact ⟨pre.length + post.length, x, by rw [mvI, if_neg (by omega), if_pos rfl], by rw [List.getElem?_append_right (by simp)]; simp, rfl⟩
      · obtain ⟨c, hc⟩ : ∃ c, b' - pre.length = c + 1 := ⟨b' - pre.length - 1, by omega⟩
        rw [hc, List.getElem?_cons_succ] at hy
        have hlt := (List.getElem?_eq_some_iff.1 hy).1
        exact ⟨b' - 1, y, by rw [mvI, if_neg h1, if_neg h2, if_pos (by omega)], by
          rw [List.getElem?_append_left (by simp; omega), List.getElem?_append_right (by omega), show b' - 1 - pre.length = c by omega]; exact hy, rfl⟩

theorem strs_rn (f : Nat → Nat) (l : List (List UInt8)) : rns f (l.map .str) = l.map .str := closeds_rn _ (closeds_iff.2 fun a ha => by obtain ⟨x, _, rfl⟩ := List.mem_map.1 ha; simp only [AV.closed])
theorem bools_rn (f : Nat → Nat) (l : List Bool) : rns f (l.map .bool) = l.map .bool := closeds_rn _ (closeds_iff.2 fun a ha => by obtain ⟨x, _, rfl⟩ := List.mem_map.1 ha; simp only [AV.closed])
theorem ints_rn (f : Nat → Nat) (k : IntKind) (l : List Int) : rns f (l.map (.int k)) = l.map (.int k) := closeds_rn _ (closeds_iff.2 fun a ha => by obtain ⟨x, _, rfl⟩ := List.mem_map.1 ha; simp only [AV.closed])
theorem den_rn (f : Nat → Nat) (d : Den) : rns f d.cells = d.cells := closeds_rn _ (by have := aDen_closed d; simpa [aDen, AV.closed] using this)

end Tab

/- A contract over some blocks, used among others: the blocks are named, the rest stays. -/
namespace Tab
open Go
variable [Globs]
set_option linter.unusedSectionVars false

/-- How the callee's blocks are called at the caller's: the first ones are named, new ones come behind. -/
def rnB (φ : List Nat) (n i : Nat) : Nat := match φ[i]? with | some b => b | none => n + (i - φ.length)
theorem rnB_lt {φ n i b} (h : φ[i]? = some b) : rnB φ n i = b := by rw [rnB, h]
theorem rnB_ge {φ : List Nat} {n i} (h : φ.length ≤ i) : rnB φ n i = n + (i - φ.length) := by rw [rnB, List.getElem?_eq_none h]
theorem rnB_inj {φ : List Nat} {n : Nat} (hφ : φ.Nodup) (hlt : ∀ b ∈ φ, b < n) {i j : Nat} (h : rnB φ n i = rnB φ n j) : i = j := by
  by_cases hi : i < φ.length
  · have ei := rnB_lt (n := n) (List.getElem?_eq_getElem hi)
    have li := hlt _ (List.getElem_mem hi)
    by_cases hj : j < φ.length
    · have ej := rnB_lt (n := n) (List.getElem?_eq_getElem hj)
      rw [ei, ej] at h
      rcases Nat.lt_trichotomy i j with k | k | k
      · exact absurd h (List.pairwise_iff_getElem.1 hφ i j hi hj k)
      · exact k
      · exact absurd h.symm (List.pairwise_iff_getElem.1 hφ j i hj hi k)
    · rw [ei, rnB_ge (by omega)] at h; omega
  · by_cases hj : j < φ.length
    · have ej := rnB_lt (n := n) (List.getElem?_eq_getElem hj)
      have lj := hlt _ (List.getElem_mem hj)
      rw [ej, rnB_ge (by omega)] at h; omega
    · rw [rnB_ge (by omega), rnB_ge (by omega)] at h; omega

/-- The caller's heap behind the call. -/
def place (f : Nat → Nat) : List Nat → List Blk → List Blk → List Blk
  | [], H, H₁ => H ++ H₁.map (Blk.rn f)
  | b :: φ, H, x :: H₁ => place f φ (H.set b (x.rn f)) H₁
  | b :: φ, H, [] => place f φ (H.set b .dead) []

theorem place_length (f) : ∀ (φ : List Nat) (H H₁ : List Blk), (place f φ H H₁).length = H.length + (H₁.length - φ.length)
  | [], H, H₁ => by simp [place]
  | b :: φ, H, x :: H₁ => by rw [place, place_length f φ]; simp
  | b :: φ, H, [] => by rw [place, place_length f φ]; simp
theorem place_out {f} {b : Nat} : ∀ {φ : List Nat} {H H₁ : List Blk}, b < H.length → b ∉ φ → (place f φ H H₁)[b]? = H[b]?
  | [], H, H₁, h, _ => by rw [place, List.getElem?_append_left h]
  | c :: φ, H, x :: H₁, h, hb => by
    rw [place, place_out (by simpa using h) (fun k => hb (by simp [k])), List.getElem?_set_ne (fun e => hb (by simp [e]))]
  | c :: φ, H, [], h, hb => by
    rw [place, place_out (by simpa using h) (fun k => hb (by simp [k])), List.getElem?_set_ne (fun e => hb (by simp [e]))]
theorem place_in {f} : ∀ {φ : List Nat} {H H₁ : List Blk} {i b : Nat}, φ.Nodup → (∀ b ∈ φ, b < H.length) → φ[i]? = some b →
    (place f φ H H₁)[b]? = some (match H₁[i]? with | some x => x.rn f | none => .dead)
  | c :: φ, H, x :: H₁, 0, b, hn, hl, h => by
    simp at h; subst h
    obtain ⟨h1, h2⟩ := List.nodup_cons.1 hn
    have := hl c (by simp)
    rw [place, place_out (by simpa using this) h1]
    simp [this]
  | c :: φ, H, [], 0, b, hn, hl, h => by
    simp at h; subst h
    obtain ⟨h1, h2⟩ := List.nodup_cons.1 hn
    have := hl c (by simp)
    rw [place, place_out (by simpa using this) h1]
    simp [this]
  | c :: φ, H, x :: H₁, i + 1, b, hn, hl, h => by
    rw [place]
    have := place_in (f := f) (φ := φ) (H := H.set c (x.rn f)) (H₁ := H₁) (i := i) (b := b) (List.nodup_cons.1 hn).2 (fun y hy => by simpa using hl y (by simp [hy])) (by simpa using h)
    rw [this]; simp
  | c :: φ, H, [], i + 1, b, hn, hl, h => by
    rw [place]
    have := place_in (f := f) (φ := φ) (H := H.set c .dead) (H₁ := []) (i := i) (b := b) (List.nodup_cons.1 hn).2 (fun y hy => by simpa using hl y (by simp [hy])) (by simpa using h)
    rw [this]; simp
theorem place_new {f} : ∀ {φ : List Nat} {H H₁ : List Blk} {j : Nat}, (place f φ H H₁)[H.length + j]? = (H₁[φ.length + j]?).map (Blk.rn f)
  | [], H, H₁, j => by rw [place, List.getElem?_append_right (by omega)]; simp
  | c :: φ, H, x :: H₁, j => by
    rw [place]
    have := place_new (f := f) (φ := φ) (H := H.set c (x.rn f)) (H₁ := H₁) (j := j)
    rw [List.length_set] at this
    rw [this, show (c :: φ).length + j = (φ.length + j) + 1 by simp; omega]
    rfl
  | c :: φ, H, [], j => by
    rw [place]
    have := place_new (f := f) (φ := φ) (H := H.set c .dead) (H₁ := []) (j := j)
    rw [List.length_set] at this
    rw [this]; simp

section
variable {m mc : Mp} {ro : Nat → Prop} {w : World} {f : Nat → Nat} {p : Nat} (hM : ∀ b g, b < p → mc b g = m (f b) g)
include hM
mutual
theorem AV.rn_back : ∀ (a : AV) (v : Value), a.bel p → VRel m ro w (a.rn f) v → VRel mc ro w a v
  | .bool _, _, _, h | .int _ _, _, _, h | .str _, _, _, h | .nilp, _, _, h | .nilm, _, _, h | .nilf, _, _, h | .nili, _, _, h => by simpa only [VRel, AV.rn] using h
  | .junk, _, _, _ => by simp only [VRel]
  | .ref b g o, v, c, h => by simp only [VRel, AV.rn, AV.bel] at h c ⊢; rw [hM b g c]; exact h
  | .hs b g o n es, v, c, h => by simp only [VRel, AV.rn, AV.bel] at h c ⊢; rw [hM b g c]; exact h
  | .mp b, v, c, h => by simp only [VRel, AV.rn, AV.bel] at h c ⊢; rw [hM b 0 c]; exact h
  | .tref cs, v, c, h => by
    simp only [VRel, AV.rn, AV.bel] at h c ⊢
    obtain ⟨cb, off, e, h⟩ := h
    exact ⟨cb, off, e, rns_backc cs cb off c h⟩
  | .sl s n cs, v, c, h => by
    simp only [VRel, AV.rn, AV.bel] at h c ⊢
    rcases h with ⟨h1, h2, h3, h4⟩ | ⟨hk', ad, cap, e, hle, hf, h⟩
    · exact .inl ⟨h1, h2, h3, by cases cs with | nil => rfl | cons a l => simp [rns] at h4⟩
    · exact .inr ⟨hk', ad, cap, e, hle, hf, h.imp (fun h => ⟨h.1, by cases cs with | nil => rfl | cons a l => have := h.2; simp [rns] at this⟩) fun h => ⟨h.1, rns_backc cs _ _ c h.2⟩⟩
  | .fn g first cap, v, c, h => by
    simp only [VRel, AV.rn, AV.bel] at h c ⊢
    obtain ⟨a, b, e, h1, h2⟩ := h
    exact ⟨a, b, e, rns_back first _ c.1 h1, rns_back cap _ c.2 h2⟩
  | .ifc t x, v, c, h => by
    simp only [VRel, AV.rn, AV.bel] at h c ⊢
    obtain ⟨y, e, h⟩ := h
    exact ⟨y, e, AV.rn_back x y c h⟩
  | .agg cs, v, c, h => by
    simp only [VRel, AV.rn, AV.bel] at h c ⊢
    obtain ⟨a, e, ho, h⟩ := h
    exact ⟨a, e, ho, rns_back cs _ c h⟩
  | .tup cs, v, c, h => by
    simp only [VRel, AV.rn, AV.bel] at h c ⊢
    obtain ⟨a, e, h⟩ := h
    exact ⟨a, e, rns_back cs _ c h⟩
theorem rns_back : ∀ (as : List AV) (vs : List Value), bels p as → VsRel m ro w (rns f as) vs → VsRel mc ro w as vs
  | [], vs, _, h => by simpa only [VsRel, rns] using h
  | a :: as, vs, c, h => by
    simp only [VsRel, rns, bels] at h c ⊢
    obtain ⟨v, vs', e, h1, h2⟩ := h
    exact ⟨v, vs', e, AV.rn_back a v c.1 h1, rns_back as vs' c.2 h2⟩
theorem rns_backc : ∀ (cs : List AV) (cb off : Nat), bels p cs → CsRel m ro w (rns f cs) cb off → CsRel mc ro w cs cb off
  | [], _, _, _, _ => by simp only [CsRel]
  | a :: as, cb, off, c, h => by
    simp only [CsRel, rns, bels] at h c ⊢
    obtain ⟨h1, ⟨v, hv, ho, h2⟩, h3⟩ := h
    exact ⟨h1, ⟨v, hv, ho, AV.rn_back a v c.1 h2⟩, rns_backc as cb (off + 1) c.2 h3⟩
end

theorem BlkRel.back {i : Nat} (hi : i < p) {x : Blk} (hx : x.bel p) (h : BlkRel m ro w (f i) (x.rn f)) : BlkRel mc ro w i x := by
  cases x with
  | cells g cs =>
    intro loc hl
    rw [hM i g hi] at hl
    have h := h loc hl
    cases loc with
    | void => cases cs with | nil => rfl | cons a l => simp [rns] at h
    | «at» cb base =>
      obtain ⟨c, t, hc, hlay⟩ := h
      refine ⟨c, t, hc, fun j a hja => ?_⟩
      obtain ⟨v, hv, ho, hr⟩ := hlay j (a.rn f) (by rw [rns_map, List.getElem?_map, hja]; rfl)
      exact ⟨v, hv, ho, AV.rn_back hM a v (bels_iff.1 hx a (List.mem_of_getElem? hja)) hr⟩
  | fro g cs =>
    intro loc hl
    rw [hM i g hi] at hl
    have h := h loc hl
    cases loc with
    | void => cases cs with | nil => rfl | cons a l => simp [rns] at h
    | «at» cb base => exact rns_backc hM cs cb base hx h
  | siter s q =>
    intro loc hl
    rw [hM i 0 hi] at hl
    exact h loc hl
  | dict es =>
    intro loc hl
    rw [hM i 0 hi] at hl
    exact h loc hl
  | dead => trivial
end

def Out.rn (f : Nat → Nat) : Out → Out
  | .ret v => .ret (v.rn f)
  | .pan => .pan

/-- The contract, used among more blocks. -/
theorem ACall.frame {P : Program} {f : FuncId} {args : List AV} {H₀ : List Blk} {R : Out → List Blk → Prop} (h : ACall P f args H₀ R) {H : List Blk} (φ : List Nat) (hφ : φ.Nodup) (hlt : ∀ b ∈ φ, b < H.length) (hlen : H₀.length = φ.length)
    (hH : ∀ (i : Nat) (x : Blk) (b : Nat), H₀[i]? = some x → φ[i]? = some b → H[b]? = some (x.rn (rnB φ H.length))) (ba : bels φ.length args) (bh : blksBel φ.length H₀) :
    ACall P f (rns (rnB φ H.length) args) H fun o H' => ∃ (o₀ : Out) (H₁ : List Blk), R o₀ H₁ ∧ o = o₀.rn (rnB φ H.length) ∧ H' = place (rnB φ H.length) φ H H₁ := by
  refine ⟨h.1, fun m ro w cargs hi hx => ?_⟩
  generalize hfe : rnB φ H.length = F at *
  have hFlt : ∀ i b, φ[i]? = some b → F i = b := fun i b hb => by rw [← hfe]; exact rnB_lt hb
  have hFge : ∀ i, φ.length ≤ i → F i = H.length + (i - φ.length) := fun i hb => by rw [← hfe]; exact rnB_ge hb
  have hFinj : ∀ i j, F i = F j → i = j := fun i j e => by rw [← hfe] at e; exact rnB_inj hφ hlt e
  let mc : Mp := fun i g => if i < φ.length then m (F i) g else none
  have hmc : ∀ i g, i < φ.length → mc i g = m (F i) g := fun i g hb => if_pos hb
  have hmcs : ∀ i g loc, mc i g = some loc → i < φ.length ∧ m (F i) g = some loc := fun i g loc hb => by
    have hb : (if i < φ.length then m (F i) g else none) = some loc := hb
    split at hb
    · exact ⟨by assumption, hb⟩
    · simp at hb
  have hget : ∀ i x, H₀[i]? = some x → i < φ.length ∧ H[F i]? = some (x.rn F) := fun i x hb => by
    have hl := (List.getElem?_eq_some_iff.1 hb).1
    have hl : i < φ.length := by omega
    have e := List.getElem?_eq_getElem hl
    refine ⟨hl, ?_⟩
    rw [hFlt _ _ e]
    exact hH i x _ hb e
  have hmw : ∀ cb, MW mc (lk H₀) cb → ∃ i, i < φ.length ∧ Owns m (lk H) (F i) cb := by
    rintro cb ⟨i, x, g, base, k1, k2, k3⟩
    obtain ⟨hl, e⟩ := hget i x k1
    exact ⟨i, hl, _, g, base, e, by rw [Blk.rn_own]; exact k2, (hmcs _ _ _ k3).2⟩
  have hmw' : ∀ cb, MW mc (lk H₀) cb → MW m (lk H) cb := fun cb hb => by
    obtain ⟨i, _, x, g, base, k1, k2, k3⟩ := hmw cb hb
    exact ⟨F i, x, g, base, k1, k2, k3⟩
  have hi₀ : InvL mc ro H₀ w := by
    refine ⟨⟨hi.inv.ro_lt, ?_, ?_, fun cb hb => hi.inv.excl cb (hmw' cb hb), ?_, hi.inv.glob.any⟩, fun b g loc hb => by have := (hmcs _ _ _ hb).1; omega⟩
    · intro i x hb
      obtain ⟨hl, e⟩ := hget i x hb
      exact BlkRel.back hmc hl (blksBel_get bh hb) (hi.inv.blk _ _ e)
    · intro i j x y g g' cb base base' h1 h2 k1 k2 l1 l2
      obtain ⟨_, e1⟩ := hget i x h1
      obtain ⟨_, e2⟩ := hget j y h2
      exact hFinj _ _ (hi.inv.inj _ _ _ _ g g' cb base base' e1 e2 (by rw [Blk.rn_own]; exact k1) (by rw [Blk.rn_own]; exact k2) (hmcs _ _ _ l1).2 (hmcs _ _ _ l2).2)
    · intro i x g h1 h2 g' loc h3
      obtain ⟨_, e1⟩ := hget i x h1
      exact hi.inv.gen _ _ g e1 (by rw [Blk.rn_own]; exact h2) g' loc (hmcs _ _ _ h3).2
  refine (h.2 mc ro w cargs hi₀ (rns_back hmc args _ ba hx)).mono ?_
  rintro e w' ⟨m', ro', out, H₁, hR, hout, hi', hst⟩
  -- the callee's number of a block
  let fi : Nat → Option Nat := fun b => if b < H.length then (if b ∈ φ then some (φ.idxOf b) else none) else some (φ.length + (b - H.length))
  have hidx : ∀ b, b ∈ φ → φ[φ.idxOf b]? = some b := fun b hb => by
    rw [List.getElem?_eq_getElem (List.idxOf_lt_length_of_mem hb), List.getElem_idxOf]
  have hfi : ∀ b i, fi b = some i → F i = b := by
    intro b i hb
    have hb : (if b < H.length then (if b ∈ φ then some (φ.idxOf b) else none) else some (φ.length + (b - H.length))) = some i := hb
    split at hb
    · split at hb
      · rename_i hm
        cases hb
        exact hFlt _ _ (hidx b hm)
      · simp at hb
    · cases hb
      rw [hFge _ (by omega)]; omega
  have hFi : ∀ i, fi (F i) = some i := by
    intro i
    show (if F i < H.length then (if F i ∈ φ then some (φ.idxOf (F i)) else none) else some (φ.length + (F i - H.length))) = some i
    by_cases hl : i < φ.length
    · have e := hFlt i _ (List.getElem?_eq_getElem hl)
      have hm := List.getElem_mem hl
      rw [e, if_pos (hlt _ hm), if_pos hm]
      congr 1
      refine hFinj _ _ ?_
      rw [hFlt _ _ (hidx _ hm), e]
    · rw [hFge i (by omega), if_neg (by omega)]
      congr 1; omega
  have hfn : ∀ b, fi b = none → b < H.length ∧ b ∉ φ := by
    intro b hb
    have hb : (if b < H.length then (if b ∈ φ then some (φ.idxOf b) else none) else some (φ.length + (b - H.length))) = none := hb
    split at hb
    · split at hb
      · simp at hb
      · exact ⟨by assumption, by assumption⟩
    · simp at hb
  let M : Mp := fun b g => match fi b with | some i => m' i g | none => m b g
  have hMF : ∀ i g, M (F i) g = m' i g := fun i g => by
    show (match fi (F i) with | some i => m' i g | none => m (F i) g) = _
    rw [hFi]
  have hMn : ∀ b g, fi b = none → M b g = m b g := fun b g hb => by
    show (match fi b with | some i => m' i g | none => m b g) = _
    rw [hb]
  have hMs : ∀ b i g, fi b = some i → M b g = m' i g := fun b i g hb => by
    show (match fi b with | some i => m' i g | none => m b g) = _
    rw [hb]
  have mle : ∀ b g loc, m b g = some loc → M b g = some loc := fun b g loc hb => by
    cases hf : fi b with
    | none => rw [hMn b g hf]; exact hb
    | some i =>
      have hl := hi.bound b g loc hb
      rw [hMs b i g hf]
      have e := hfi b i hf
      refine hst.mle i g loc ?_
      rw [hmc i g ?_, e]
      · exact hb
      · refine Classical.byContradiction fun hge => ?_
        rw [hFge i (by omega)] at e
        omega
  have hM : ∀ i g loc, m' i g = some loc → M (F i) g = some loc := fun i g loc hb => by rw [hMF]; exact hb
  have hH'n : ∀ b, fi b = none → (place F φ H H₁)[b]? = H[b]? := fun b hb => by
    obtain ⟨h1, h2⟩ := hfn b hb
    exact place_out h1 h2
  have hH's : ∀ b i y, fi b = some i → (place F φ H H₁)[b]? = some y → y = .dead ∨ ∃ x, H₁[i]? = some x ∧ y = x.rn F := fun b i y hb hy => by
    have e := hfi b i hb
    by_cases hl : i < φ.length
    · have e1 := hFlt i _ (List.getElem?_eq_getElem hl)
      rw [← e, e1, place_in hφ hlt (List.getElem?_eq_getElem hl)] at hy
      cases hy
      cases hc : H₁[i]? with
      | none => exact .inl rfl
      | some x => exact .inr ⟨x, rfl, rfl⟩
    · rw [← e, hFge i (by omega), place_new, Option.map_eq_some_iff] at hy
      obtain ⟨x, hx, rfl⟩ := hy
      rw [show φ.length + (i - φ.length) = i by omega] at hx
      exact .inr ⟨x, hx, rfl⟩
  -- what a block outside owns, the callee doesn't
  have hother : ∀ b x g cb base, fi b = none → H[b]? = some x → x.own = some g → m b g = some (.at cb base) → ¬ MW mc (lk H₀) cb := fun b x g cb base hf h1 h2 h3 hm => by
    obtain ⟨i, hl, y, g', base', k1, k2, k3⟩ := hmw cb hm
    have := hi.inv.inj b (F i) x y g g' cb base base' h1 k1 h2 k2 h3 k3
    rw [this, hFi] at hf
    simp at hf
  have hcal : ∀ cb, MW M (lk (place F φ H H₁)) cb → (∃ b x g base, fi b = none ∧ H[b]? = some x ∧ x.own = some g ∧ m b g = some (.at cb base)) ∨ MW m' (lk H₁) cb := by
    rintro cb ⟨b, y, g, base, k1, k2, k3⟩
    cases hf : fi b with
    | none =>
      rw [hMn b g hf] at k3
      have k1 : (place F φ H H₁)[b]? = some y := k1
      rw [hH'n b hf] at k1
      exact .inl ⟨b, y, g, base, hf, k1, k2, k3⟩
    | some i =>
      rw [hMs b i g hf] at k3
      rcases hH's b i y hf k1 with rfl | ⟨x, hx, rfl⟩
      · simp [Blk.own] at k2
      · rw [Blk.rn_own] at k2
        exact .inr ⟨i, x, g, base, hx, k2, k3⟩
  have hmwM : ∀ cb, MW M (lk (place F φ H H₁)) cb → MW m (lk H) cb ∨ w.heap.size ≤ cb := fun cb hb => by
    rcases hcal cb hb with ⟨b, x, g, base, _, k1, k2, k3⟩ | hb
    · exact .inl ⟨b, x, g, base, k1, k2, k3⟩
    · rcases hst.mw cb hb with hb | hb
      · exact .inl (hmw' cb hb)
      · exact .inr hb
  refine ⟨M, ro', out.rn F, place F φ H H₁, ⟨out, H₁, hR, rfl, rfl⟩, ?_, ⟨⟨hi'.inv.ro_lt, ?_, ?_, ?_, ?_, hi'.inv.glob.any⟩, ?_⟩,
    ⟨mle, hst.size, hst.os, hst.out, hst.tape, fun cb hlt hn => hst.kept cb hlt fun k => hn (hmw' cb k), hst.shape, hmwM, hst.ro_le, fun cb hb => by
      rcases hst.ro_new cb hb with k | k | k
      · exact .inl k
      · exact .inr (.inl (hmw' cb k))
      · exact .inr (.inr k)⟩⟩
  · cases out with
    | ret a =>
      cases e with
      | returned v => exact AV.rn_rel hM a v hout
      | panicked _ => exact hout.elim
      | outgrown => exact hout.elim
    | pan =>
      cases e with
      | returned v => exact hout.elim
      | panicked _ => exact hout
      | outgrown => exact hout.elim
  · intro b y hb
    cases hf : fi b with
    | none =>
      have hb : (place F φ H H₁)[b]? = some y := hb
      rw [hH'n b hf] at hb
      exact BlkRel.keep mle hst.shape hst.ro_le (fun cb hc => hst.kept cb (hi.inv.ro_lt cb hc) fun k => hi.inv.excl cb (hmw' cb k) hc) (hMn b · hf)
        (fun g cb base k1 k2 => hst.kept cb (hi.inv.own_lt hb k1 k2) (hother b y g cb base hf hb k1 k2)) (hi.inv.blk b y hb)
    | some i =>
      rcases hH's b i y hf hb with rfl | ⟨x, hx, rfl⟩
      · trivial
      · have := BlkRel.rn hM (hMF i) (hi'.inv.blk i x hx)
        rw [hfi b i hf] at this
        exact this
  · intro b b' y y' g g' cb base base' h1 h2 k1 k2 l1 l2
    have lt1 : ∀ b x g cb base, fi b = none → H[b]? = some x → x.own = some g → m b g = some (.at cb base) → ∀ j y' g' base', H₁[j]? = some y' → y'.own = some g' → m' j g' = some (.at cb base') → False := by
      intro b x g cb base hf q1 q2 q3 j y' g' base' q4 q5 q6
      rcases hst.mw cb ⟨j, y', g', base', q4, q5, q6⟩ with q | q
      · exact hother b x g cb base hf q1 q2 q3 q
      · have := hi.inv.own_lt q1 q2 q3; omega
    cases hf : fi b with
    | none =>
      have h1 : (place F φ H H₁)[b]? = some y := h1
      rw [hH'n b hf] at h1
      rw [hMn b g hf] at l1
      cases hf' : fi b' with
      | none =>
        have h2 : (place F φ H H₁)[b']? = some y' := h2
        rw [hH'n b' hf'] at h2
        rw [hMn b' g' hf'] at l2
        exact hi.inv.inj b b' y y' g g' cb base base' h1 h2 k1 k2 l1 l2
      | some j =>
        rw [hMs b' j g' hf'] at l2
        rcases hH's b' j y' hf' h2 with rfl | ⟨x, hx, rfl⟩
        · simp [Blk.own] at k2
        · rw [Blk.rn_own] at k2
          exact (lt1 b y g cb base hf h1 k1 l1 j x g' base' hx k2 l2).elim
    | some i =>
      rw [hMs b i g hf] at l1
      rcases hH's b i y hf h1 with rfl | ⟨x, hx, rfl⟩
      · simp [Blk.own] at k1
      · rw [Blk.rn_own] at k1
        cases hf' : fi b' with
        | none =>
          have h2 : (place F φ H H₁)[b']? = some y' := h2
          rw [hH'n b' hf'] at h2
          rw [hMn b' g' hf'] at l2
          exact (lt1 b' y' g' cb base' hf' h2 k2 l2 i x g base hx k1 l1).elim
        | some j =>
          rw [hMs b' j g' hf'] at l2
          rcases hH's b' j y' hf' h2 with rfl | ⟨x', hx', rfl⟩
          · simp [Blk.own] at k2
          · rw [Blk.rn_own] at k2
            have := hi'.inv.inj i j x x' g g' cb base base' hx hx' k1 k2 l1 l2
            rw [← hfi b i hf, ← hfi b' j hf', this]
  · intro cb hm hr
    rcases hcal cb hm with ⟨b, x, g, base, hf, k1, k2, k3⟩ | hm
    · rcases hst.ro_new cb hr with k | k | k
      · exact hi.inv.excl cb ⟨b, x, g, base, k1, k2, k3⟩ k
      · exact hother b x g cb base hf k1 k2 k3 k
      · have := hi.inv.own_lt k1 k2 k3; omega
    · exact hi'.inv.excl cb hm hr
  · intro b y g h1 h2 g' loc h3
    cases hf : fi b with
    | none =>
      have h1 : (place F φ H H₁)[b]? = some y := h1
      rw [hH'n b hf] at h1
      rw [hMn b g' hf] at h3
      exact hi.inv.gen b y g h1 h2 g' loc h3
    | some i =>
      rw [hMs b i g' hf] at h3
      rcases hH's b i y hf h1 with rfl | ⟨x, hx, rfl⟩
      · simp [Blk.own] at h2
      · rw [Blk.rn_own] at h2
        exact hi'.inv.gen i x g hx h2 g' loc h3
  · intro b g loc hb
    rw [place_length]
    cases hf : fi b with
    | none => have := (hfn b hf).1; omega
    | some i =>
      rw [hMs b i g hf] at hb
      have hl := hi'.bound i g loc hb
      have e := hfi b i hf
      by_cases hip : i < φ.length
      · have e1 := hFlt i _ (List.getElem?_eq_getElem hip)
        have := hlt _ (List.getElem_mem hip)
        omega
      · rw [hFge i (by omega)] at e; omega

/-- A call whose contract speaks of the blocks φ. -/
theorem callF {P : Program} {f : FuncId} {args as : List AV} {H H₀ : List Blk} {R X : Out → List Blk → Prop} (φ : List Nat) (h : ACall P f args H₀ R) (hφ : φ.Nodup) (hlt : ∀ b ∈ φ, b < H.length) (hlen : H₀.length = φ.length)
    (hH : φ.map (H[·]?) = H₀.map fun x => some (x.rn (rnB φ H.length))) (ba : bels φ.length args) (bh : blksBel φ.length H₀) (has : as = rns (rnB φ H.length) args)
    (k : ∀ (o₀ : Out) (H₁ : List Blk), R o₀ H₁ → X (o₀.rn (rnB φ H.length)) (place (rnB φ H.length) φ H H₁)) : ∃ R : Out → List Blk → Prop, ACall P f as H R ∧ ∀ o H', R o H' → X o H' := by
  subst has
  refine ⟨_, ACall.frame h φ hφ hlt hlen (fun i x b hx hb => ?_) ba bh, ?_⟩
  · have e : (φ.map (H[·]?))[i]? = (H₀.map fun x => some (x.rn (rnB φ H.length)))[i]? := by rw [hH]
    rw [List.getElem?_map, List.getElem?_map, hx, hb] at e
    simpa using e
  · rintro o H' ⟨o₀, H₁, hR, rfl, rfl⟩
    exact k o₀ H₁ hR

/-- The last block's generation, called otherwise. -/
theorem Ent.regen {nt : Fr} {l : List (Nat × AV)} {pre : List Blk} {g n es o : Nat} {cs : List AV} (t g' : Nat) (hk : nt.k ≤ pre.length) (hl : frBel pre.length l) (hp : blksBel pre.length pre) (hc : bels pre.length cs) :
    Ent nt (Tab.fr ((t, .hs pre.length g o n es) :: l)) (pre ++ [.cells g cs]) (Tab.fr ((t, .hs pre.length g' o n es) :: l)) (pre ++ [.cells g' cs]) := by
  rintro c a w ⟨m, ro, hi, hst, hsl, hsz, hd⟩
  let M : Mp := fun b g₁ => if b = pre.length then (if g₁ = g' then m b g else none) else m b g₁
  have hMo : ∀ b, b ≠ pre.length → ∀ g₁, M b g₁ = m b g₁ := fun b hb g₁ => if_neg hb
  have hMs : M pre.length g' = m pre.length g := by show (if pre.length = pre.length then (if g' = g' then _ else _) else _) = _; rw [if_pos rfl, if_pos rfl]
  have hMg : ∀ g₁ loc, M pre.length g₁ = some loc → g₁ = g' ∧ m pre.length g = some loc := fun g₁ loc h => by
    have h : (if pre.length = pre.length then (if g₁ = g' then m pre.length g else none) else m pre.length g₁) = some loc := h
    rw [if_pos rfl] at h
    split at h
    · exact ⟨by assumption, h⟩
    · simp at h
  have hbel : ∀ b g₁, b < pre.length → M b g₁ = m (id b) g₁ := fun b g₁ hb => hMo b (by omega) g₁
  have rel : ∀ a : AV, a.bel pre.length → ∀ v, VRel m ro w a v → VRel M ro w a v := fun a ha v h =>
    AV.rn_back (f := id) hbel a v ha (by
      have e : ∀ x : AV, VRel m ro w x v → VRel m ro w (x.rn id) v := fun x hx => AV.rn_rel (f := id) (fun _ _ _ h => h) x v hx
      exact e a h)
  have lastget : (pre ++ [Blk.cells g cs])[pre.length]? = some (.cells g cs) := by simp
  have blkM : ∀ b x', (pre ++ [Blk.cells g' cs])[b]? = some x' → (b < pre.length ∧ (pre ++ [Blk.cells g cs])[b]? = some x' ∧ pre[b]? = some x') ∨ (b = pre.length ∧ x' = .cells g' cs) := by
    intro b x' h
    by_cases hb : b < pre.length
    · rw [List.getElem?_append_left hb] at h
      exact .inl ⟨hb, by rw [List.getElem?_append_left hb]; exact h, h⟩
    · rw [List.getElem?_append_right (by omega)] at h
      have : b - pre.length = 0 := by
        have := (List.getElem?_eq_some_iff.1 h).1
        simp at this; omega
      rw [this] at h; simp at h
      exact .inr ⟨by omega, h.symm⟩
  have hown : ∀ b x' g₁ cb base, (pre ++ [Blk.cells g' cs])[b]? = some x' → x'.own = some g₁ → M b g₁ = some (.at cb base) → ∃ x g₂, (pre ++ [Blk.cells g cs])[b]? = some x ∧ x.own = some g₂ ∧ m b g₂ = some (.at cb base) := by
    intro b x' g₁ cb base h1 h2 h3
    rcases blkM b x' h1 with ⟨hb, h4, _⟩ | ⟨rfl, rfl⟩
    · exact ⟨x', g₁, h4, h2, by rw [← hMo b (by omega)]; exact h3⟩
    · exact ⟨_, g, lastget, rfl, (hMg _ _ h3).2⟩
  have hmw : ∀ cb, MW M (lk (pre ++ [.cells g' cs])) cb → MW m (lk (pre ++ [.cells g cs])) cb := by
    rintro cb ⟨b, x', g₁, base, h1, h2, h3⟩
    obtain ⟨x, g₂, k1, k2, k3⟩ := hown b x' g₁ cb base h1 h2 h3
    exact ⟨b, x, g₂, base, k1, k2, k3⟩
  refine ⟨M, ro, ⟨⟨hi.inv.ro_lt, ?_, ?_, fun cb h => hi.inv.excl cb (hmw cb h), ?_, hi.inv.glob.any⟩, fun b g₁ loc h => ?_⟩,
    ⟨fun b g₁ loc h => ?_, hst.size, hst.os, hst.out, hst.tape, hst.kept, hst.shape, fun cb h => hst.mw cb (hmw cb h), hst.ro_le, hst.ro_new⟩, fun t' => ?_, hsz, hd⟩
  · intro b x' h
    rcases blkM b x' h with ⟨hb, h4, h5⟩ | ⟨rfl, rfl⟩
    · have hx := blksBel_get hp h5
      refine BlkRel.back (f := id) (m := m) (p := pre.length) hbel hb hx ?_
      exact BlkRel.rn (f := id) (fun _ _ _ h => h) (fun _ => rfl) (hi.inv.blk b x' h4)
    · intro loc hloc
      rw [hMs] at hloc
      have hr := hi.inv.blk pre.length _ lastget loc hloc
      cases loc with
      | void => exact hr
      | «at» cb base =>
        obtain ⟨cc, tt, h1, hlay⟩ := hr
        refine ⟨cc, tt, h1, fun i a hia => ?_⟩
        obtain ⟨v, hv, ho, hrel⟩ := hlay i a hia
        exact ⟨v, hv, ho, rel a (bels_iff.1 hc a (List.mem_of_getElem? hia)) v hrel⟩
  · intro b b' x x' g₁ g₂ cb base base' h1 h2 k1 k2 l1 l2
    obtain ⟨y, g₃, q1, q2, q3⟩ := hown b x g₁ cb base h1 k1 l1
    obtain ⟨y', g₄, q4, q5, q6⟩ := hown b' x' g₂ cb base' h2 k2 l2
    exact hi.inv.inj b b' y y' g₃ g₄ cb base base' q1 q4 q2 q5 q3 q6
  · intro b x g₁ h1 h2 g₂ loc h3
    rcases blkM b x h1 with ⟨hb, h4, _⟩ | ⟨rfl, rfl⟩
    · rw [hMo b (by omega)] at h3
      exact hi.inv.gen b x g₁ h4 h2 g₂ loc h3
    · simp only [Blk.own, Option.some.injEq] at h2
      have := (hMg _ _ h3).1
      omega
  · by_cases hb : b = pre.length
    · subst hb; simp
    · rw [hMo b hb] at h
      have := hi.bound b g₁ loc h
      simpa using this
  · have hb : b ≠ pre.length := by
      have := c.kb b g₁ loc h
      omega
    rw [hMo b hb]
    exact hst.mle b g₁ loc h
  · have ht := hsl t'
    simp only [Tab.fr, upd] at ht ⊢
    cases hbq : Nat.beq t' t
    · rw [hbq] at ht
      simp only [cond_false] at ht ⊢
      exact rel _ (fr_bel hl t') _ ht
    · rw [hbq] at ht
      simp only [cond_true, VRel] at ht ⊢
      obtain ⟨loc, h1, h2⟩ := ht
      exact ⟨loc, by rw [hMs]; exact h1, h2⟩

/-- The last block's first cells, given away. -/
theorem Ent.freezeCut {nt : Fr} {l : List (Nat × AV)} {pre : List Blk} {g n : Nat} {cs rest : List AV} (t : Nat) (hk : nt.k ≤ pre.length) (hl : frBel pre.length l) (hp : blksBel pre.length pre) (hn : n = cs.length) :
    Ent nt (Tab.fr ((t, .hs pre.length g 0 n 1) :: l)) (pre ++ [.cells g (cs ++ rest)]) (Tab.fr ((t, .sl .any n cs) :: l)) (pre ++ [.fro g (cs ++ rest)]) := by
  subst hn
  have h1 := Ent.froz (nt := nt) (s := Tab.fr ((t, .hs pre.length g 0 cs.length 1) :: l)) (H := pre ++ [.cells g (cs ++ rest)]) (g := g) (cs := cs ++ rest) pre.length (by simp)
  have e1 : (pre ++ [Blk.cells g (cs ++ rest)]).set pre.length (.fro g (cs ++ rest)) = pre ++ [.fro g (cs ++ rest)] := by simp
  rw [e1] at h1
  refine h1.trans ?_
  have h2 := Ent.slot (nt := nt) (s := Tab.fr ((t, .hs pre.length g 0 cs.length 1) :: l)) (H := pre ++ [.fro g (cs ++ rest)]) (b := pre.length) (g := g) (o := 0) (n := cs.length) (es := 1) (cs := cs ++ rest) t (by simp [Tab.fr, upd]) (by simp) (by simp)
  refine h2.trans (Ent.weak fun t' => ?_)
  have e2 : ((cs ++ rest).drop 0).take (cs.length * 1) = cs := by simp
  rw [e2]
  simp only [Tab.fr, upd]
  cases Nat.beq t' t <;> simp

/-- Some blocks picked out, and numbered anew; the rest is forgotten. -/
theorem Ent.pick {nt : Fr} {s : Slots} {H : List Blk} (φ : List Nat) (hφ : φ.Nodup) (hlt : ∀ b ∈ φ, b < H.length) (hk : ∀ b, b < nt.k → φ[b]? = some b) (l : List (Nat × AV)) (H' : List Blk) (hlen : H'.length = φ.length)
    (hs : ∀ t, ((Tab.fr l) t).rn (rnB φ H.length) = .junk ∨ ((Tab.fr l) t).rn (rnB φ H.length) = s t) (hH : ∀ (i : Nat) (x : Blk) (b : Nat), H'[i]? = some x → φ[i]? = some b → H[b]? = some (x.rn (rnB φ H.length))) (bl : frBel φ.length l) (bh : blksBel φ.length H') :
    Ent nt s H (Tab.fr l) H' := by
  rintro c a w ⟨m, ro, hi, hst, hsl, hsz, hd⟩
  generalize hfe : rnB φ H.length = F at *
  have hFlt : ∀ i b, φ[i]? = some b → F i = b := fun i b hb => by rw [← hfe]; exact rnB_lt hb
  have hFinj : ∀ i j, F i = F j → i = j := fun i j e => by rw [← hfe] at e; exact rnB_inj hφ hlt e
  let mc : Mp := fun i g => if i < φ.length then m (F i) g else none
  have hmc : ∀ i g, i < φ.length → mc i g = m (F i) g := fun i g hb => if_pos hb
  have hmcs : ∀ i g loc, mc i g = some loc → i < φ.length ∧ m (F i) g = some loc := fun i g loc hb => by
    have hb : (if i < φ.length then m (F i) g else none) = some loc := hb
    split at hb
    · exact ⟨by assumption, hb⟩
    · simp at hb
  have hget : ∀ i x, H'[i]? = some x → i < φ.length ∧ H[F i]? = some (x.rn F) := fun i x hb => by
    have hl := (List.getElem?_eq_some_iff.1 hb).1
    have hl : i < φ.length := by omega
    have e := List.getElem?_eq_getElem hl
    refine ⟨hl, ?_⟩
    rw [hFlt _ _ e]
    exact hH i x _ hb e
  have hmw' : ∀ cb, MW mc (lk H') cb → MW m (lk H) cb := by
    rintro cb ⟨i, x, g, base, k1, k2, k3⟩
    obtain ⟨hl, e⟩ := hget i x k1
    exact ⟨F i, _, g, base, e, by rw [Blk.rn_own]; exact k2, (hmcs _ _ _ k3).2⟩
  refine ⟨mc, ro, ⟨⟨hi.inv.ro_lt, ?_, ?_, fun cb hb => hi.inv.excl cb (hmw' cb hb), ?_, hi.inv.glob.any⟩, fun b g loc hb => by have := (hmcs _ _ _ hb).1; omega⟩,
    ⟨fun b g loc h => ?_, hst.size, hst.os, hst.out, hst.tape, hst.kept, hst.shape, fun cb h => hst.mw cb (hmw' cb h), hst.ro_le, hst.ro_new⟩, fun t => ?_, hsz, hd⟩
  · intro i x hb
    obtain ⟨hl, e⟩ := hget i x hb
    exact BlkRel.back hmc hl (blksBel_get bh hb) (hi.inv.blk _ _ e)
  · intro i j x y g g' cb base base' h1 h2 k1 k2 l1 l2
    obtain ⟨_, e1⟩ := hget i x h1
    obtain ⟨_, e2⟩ := hget j y h2
    exact hFinj _ _ (hi.inv.inj _ _ _ _ g g' cb base base' e1 e2 (by rw [Blk.rn_own]; exact k1) (by rw [Blk.rn_own]; exact k2) (hmcs _ _ _ l1).2 (hmcs _ _ _ l2).2)
  · intro i x g h1 h2 g' loc h3
    obtain ⟨_, e1⟩ := hget i x h1
    exact hi.inv.gen _ _ g e1 (by rw [Blk.rn_own]; exact h2) g' loc (hmcs _ _ _ h3).2
  · have hb := hk b (c.kb b g loc h)
    have hl := (List.getElem?_eq_some_iff.1 hb).1
    rw [hmc b g hl, hFlt b b hb]
    exact hst.mle b g loc h
  · have hb := fr_bel bl t
    refine AV.rn_back hmc _ _ hb ?_
    rcases hs t with e | e
    · rw [e]; simp only [VRel]
    · rw [e]; exact hsl t

mutual
theorem AV.rn_id {f : Nat → Nat} {n : Nat} (hf : ∀ b, b < n → f b = b) : ∀ (a : AV), a.bel n → a.rn f = a
  | .ref b _ _, h | .hs b _ _ _ _, h | .mp b, h => by simp only [AV.bel, AV.rn] at h ⊢; rw [hf b h]
  | .tref cs, h | .sl _ _ cs, h | .agg cs, h | .tup cs, h => by simp only [AV.bel, AV.rn] at h ⊢; rw [rns_id hf cs h]
  | .fn _ a b, h => by simp only [AV.bel, AV.rn] at h ⊢; rw [rns_id hf a h.1, rns_id hf b h.2]
  | .ifc _ v, h => by simp only [AV.bel, AV.rn] at h ⊢; rw [AV.rn_id hf v h]
  | .bool _, _ | .int _ _, _ | .str _, _ | .nilp, _ | .nilm, _ | .nilf, _ | .nili, _ | .junk, _ => by simp only [AV.rn]
theorem rns_id {f : Nat → Nat} {n : Nat} (hf : ∀ b, b < n → f b = b) : ∀ (as : List AV), bels n as → rns f as = as
  | [], _ => rfl
  | a :: as, h => by simp only [bels, rns] at h ⊢; rw [AV.rn_id hf a h.1, rns_id hf as h.2]
end
theorem Blk.rn_id {f : Nat → Nat} {n : Nat} (hf : ∀ b, b < n → f b = b) (x : Blk) (h : x.bel n) : x.rn f = x := by
  cases x with
  | cells g cs => simp only [Blk.bel, Blk.rn] at h ⊢; rw [rns_id hf cs h]
  | fro g cs => simp only [Blk.bel, Blk.rn] at h ⊢; rw [rns_id hf cs h]
  | _ => rfl

mutual
theorem AV.bel_le {n k : Nat} (hk : n ≤ k) : ∀ (a : AV), a.bel n → a.bel k
  | .ref b _ _, h | .hs b _ _ _ _, h | .mp b, h => by simp only [AV.bel] at h ⊢; omega
  | .tref cs, h | .sl _ _ cs, h | .agg cs, h | .tup cs, h => by simp only [AV.bel] at h ⊢; exact bels_le hk cs h
  | .fn _ a b, h => by simp only [AV.bel] at h ⊢; exact ⟨bels_le hk a h.1, bels_le hk b h.2⟩
  | .ifc _ v, h => by simp only [AV.bel] at h ⊢; exact AV.bel_le hk v h
  | .bool _, _ | .int _ _, _ | .str _, _ | .nilp, _ | .nilm, _ | .nilf, _ | .nili, _ | .junk, _ => by simp only [AV.bel]
theorem bels_le {n k : Nat} (hk : n ≤ k) : ∀ (as : List AV), bels n as → bels k as
  | [], _ => by simp only [bels]
  | a :: as, h => by simp only [bels] at h ⊢; exact ⟨AV.bel_le hk a h.1, bels_le hk as h.2⟩
end
theorem Blk.bel_le {n k : Nat} (hk : n ≤ k) (x : Blk) (h : x.bel n) : x.bel k := by
  cases x with
  | cells g cs => exact bels_le hk cs h
  | fro g cs => exact bels_le hk cs h
  | _ => trivial
theorem blksBel_le {n k : Nat} (hk : n ≤ k) : ∀ (H : List Blk), blksBel n H → blksBel k H
  | [], _ => trivial
  | x :: H, h => ⟨Blk.bel_le hk x h.1, blksBel_le hk H h.2⟩
theorem frBel_le {n k : Nat} (hk : n ≤ k) : ∀ (l : List (Nat × AV)), frBel n l → frBel k l
  | [], _ => trivial
  | (_, v) :: l, h => ⟨AV.bel_le hk v h.1, frBel_le hk l h.2⟩

/-- A block in the midst is forgotten; the one behind it, that a slot holds, takes its place. -/
theorem Ent.dropMid {nt : Fr} {s : Slots} {H pre X : List Blk} {l : List (Nat × AV)} {x : Blk} {g o n es : Nat} {cs : List AV} (t : Nat) (hf : frOk s ((t, .hs (pre.length + 1) g o n es) :: l)) (e : H = pre ++ x :: .cells g cs :: X)
    (hk : nt.k ≤ pre.length) (hl : frBel pre.length l) (hp : blksBel pre.length pre) (hc : bels pre.length cs) : Ent nt s H (Tab.fr ((t, .hs pre.length g o n es) :: l)) (pre ++ [.cells g cs]) := by
  subst e
  have hφl : (List.range pre.length ++ [pre.length + 1]).length = pre.length + 1 := by simp
  have hF : ∀ b, b < pre.length → rnB (List.range pre.length ++ [pre.length + 1]) (pre ++ x :: .cells g cs :: X).length b = b := fun b hb =>
    rnB_lt (by rw [List.getElem?_append_left (by simpa using hb), List.getElem?_range hb])
  have hFl : rnB (List.range pre.length ++ [pre.length + 1]) (pre ++ x :: .cells g cs :: X).length pre.length = pre.length + 1 :=
    rnB_lt (by rw [List.getElem?_append_right (by simp)]; simp)
  refine Ent.pick (List.range pre.length ++ [pre.length + 1]) ?_ ?_ ?_ _ _ (by simp) ?_ ?_ ?_ ?_
  · refine List.nodup_append.2 ⟨List.nodup_range, by simp, ?_⟩
    intro a ha b hb e
    have := List.mem_range.1 ha
    simp at hb; omega
  · intro b hb
    rcases List.mem_append.1 hb with hb | hb
    · have := List.mem_range.1 hb
      simp; omega
    · simp at hb; subst hb; simp
  · intro b hb
    rw [List.getElem?_append_left (by simp; omega), List.getElem?_range (by omega)]
  · intro t'
    have h := fr_le hf t'
    simp only [Tab.fr, upd] at h ⊢
    cases hq : Nat.beq t' t
    · rw [hq] at h
      simp only [cond_false] at h ⊢
      rw [AV.rn_id hF _ (fr_bel hl t')]
      exact h
    · rw [hq] at h
      simp only [cond_true, AV.rn, hFl] at h ⊢
      exact h
  · intro i y b hy hb
    by_cases hi : i < pre.length
    · rw [List.getElem?_append_left hi] at hy
      rw [List.getElem?_append_left (by simpa using hi), List.getElem?_range hi] at hb
      cases hb
      rw [List.getElem?_append_left hi, hy, Blk.rn_id hF y (blksBel_get hp hy)]
    · have hi2 : i = pre.length := by
        have := (List.getElem?_eq_some_iff.1 hy).1
        simp at this; omega
      subst hi2
      simp at hy; subst hy
      rw [List.getElem?_append_right (by simp)] at hb
      simp at hb; subst hb
      rw [Blk.rn, rns_id hF cs hc]; simp
  · rw [hφl]
    exact ⟨by simp only [AV.bel]; omega, frBel_le (by omega) l hl⟩
  · rw [hφl, blksBel_append]
    exact ⟨blksBel_le (by omega) pre hp, bels_le (by omega) cs hc, trivial⟩

/-- How blocks are called where the last one goes to the place p: new number, old number. -/
def insF (p q i : Nat) : Nat := if i < p then i else if i = p then q + p else i - 1
/-- How blocks are called where the one at p goes away. -/
def delF (p i : Nat) : Nat := if i < p then i else i + 1

theorem fr_rn (f : Nat → Nat) : ∀ (l : List (Nat × AV)) (t : Nat), ((Tab.fr l) t).rn f = Tab.fr (l.map fun p => (p.1, p.2.rn f)) t
  | [], _ => rfl
  | (t', v) :: l, t => by
    simp only [List.map_cons, Tab.fr, upd]
    cases Nat.beq t t'
    · simp only [cond_false]; exact fr_rn f l t
    · rfl
theorem frOk_rn {s : Slots} {f : Nat → Nat} {l : List (Nat × AV)} (h : frOk s (l.map fun p => (p.1, p.2.rn f))) (t : Nat) : ((Tab.fr l) t).rn f = .junk ∨ ((Tab.fr l) t).rn f = s t := by
  rw [fr_rn]; exact fr_le h t

theorem rn_congr_aux {f g : Nat → Nat} {n : Nat} (h : ∀ b, b < n → f b = g b) : (∀ (a : AV), a.bel n → a.rn f = a.rn g) ∧ (∀ (as : List AV), bels n as → rns f as = rns g as) := by
  constructor
  · intro a
    exact AV.rec (motive_1 := fun a => a.bel n → a.rn f = a.rn g) (motive_2 := fun as => bels n as → rns f as = rns g as)
      (fun b _ => rfl) (fun k n _ => rfl) (fun s _ => rfl) (fun _ => rfl) (fun b g' o hb => by simp only [AV.bel, AV.rn] at hb ⊢; rw [h b hb])
      (fun cs ih hb => by simp only [AV.bel, AV.rn] at hb ⊢; rw [ih hb]) (fun k m cs ih hb => by simp only [AV.bel, AV.rn] at hb ⊢; rw [ih hb])
      (fun b g' o m es hb => by simp only [AV.bel, AV.rn] at hb ⊢; rw [h b hb]) (fun _ => rfl) (fun b hb => by simp only [AV.bel, AV.rn] at hb ⊢; rw [h b hb]) (fun _ => rfl)
      (fun fn a b iha ihb hb => by simp only [AV.bel, AV.rn] at hb ⊢; rw [iha hb.1, ihb hb.2]) (fun _ => rfl) (fun t v ih hb => by simp only [AV.bel, AV.rn] at hb ⊢; rw [ih hb])
      (fun cs ih hb => by simp only [AV.bel, AV.rn] at hb ⊢; rw [ih hb]) (fun cs ih hb => by simp only [AV.bel, AV.rn] at hb ⊢; rw [ih hb]) (fun _ => rfl)
      (fun _ => rfl) (fun a as iha ihas hb => by simp only [bels, rns] at hb ⊢; rw [iha hb.1, ihas hb.2]) a
  · intro as
    induction as with
    | nil => exact fun _ => rfl
    | cons a as ih =>
      intro hb
      simp only [bels, rns] at hb ⊢
      rw [ih hb.2]
      congr 1
      exact AV.rec (motive_1 := fun a => a.bel n → a.rn f = a.rn g) (motive_2 := fun as => bels n as → rns f as = rns g as)
        (fun b _ => rfl) (fun k n _ => rfl) (fun s _ => rfl) (fun _ => rfl) (fun b g' o hb => by simp only [AV.bel, AV.rn] at hb ⊢; rw [h b hb])
        (fun cs ih hb => by simp only [AV.bel, AV.rn] at hb ⊢; rw [ih hb]) (fun k m cs ih hb => by simp only [AV.bel, AV.rn] at hb ⊢; rw [ih hb])
        (fun b g' o m es hb => by simp only [AV.bel, AV.rn] at hb ⊢; rw [h b hb]) (fun _ => rfl) (fun b hb => by simp only [AV.bel, AV.rn] at hb ⊢; rw [h b hb]) (fun _ => rfl)
        (fun fn a b iha ihb hb => by simp only [AV.bel, AV.rn] at hb ⊢; rw [iha hb.1, ihb hb.2]) (fun _ => rfl) (fun t v ih hb => by simp only [AV.bel, AV.rn] at hb ⊢; rw [ih hb])
        (fun cs ih hb => by simp only [AV.bel, AV.rn] at hb ⊢; rw [ih hb]) (fun cs ih hb => by simp only [AV.bel, AV.rn] at hb ⊢; rw [ih hb]) (fun _ => rfl)
        (fun _ => rfl) (fun a as iha ihas hb => by simp only [bels, rns] at hb ⊢; rw [iha hb.1, ihas hb.2]) a hb.1
theorem AV.rn_congr {f g : Nat → Nat} {n : Nat} (h : ∀ b, b < n → f b = g b) (a : AV) (hb : a.bel n) : a.rn f = a.rn g := (rn_congr_aux h).1 a hb
theorem rns_congr {f g : Nat → Nat} {n : Nat} (h : ∀ b, b < n → f b = g b) (as : List AV) (hb : bels n as) : rns f as = rns g as := (rn_congr_aux h).2 as hb
theorem Blk.rn_congr {f g : Nat → Nat} {n : Nat} (h : ∀ b, b < n → f b = g b) (x : Blk) (hb : x.bel n) : x.rn f = x.rn g := by
  cases x with
  | cells k cs => simp only [Blk.rn]; rw [rns_congr h cs hb]
  | fro k cs => simp only [Blk.rn]; rw [rns_congr h cs hb]
  | _ => rfl

/-- The last block goes to a place ahead. All is said in new numbers: the old ones are those by insF. -/
theorem Ent.insMid {nt : Fr} {s : Slots} {H : List Blk} {l : List (Nat × AV)} (pre post : List Blk) (x : Blk) (hk : nt.k ≤ pre.length) (hs : ∀ t, ((Tab.fr l) t).rn (insF pre.length post.length) = .junk ∨ ((Tab.fr l) t).rn (insF pre.length post.length) = s t)
    (hH : H = pre.map (Blk.rn (insF pre.length post.length)) ++ post.map (Blk.rn (insF pre.length post.length)) ++ [x.rn (insF pre.length post.length)]) (bl : frBel (pre.length + post.length + 1) l) (bh : blksBel (pre.length + post.length + 1) (pre ++ x :: post)) :
    Ent nt s H (Tab.fr l) (pre ++ x :: post) := by
  generalize hp : pre.length = p at *
  generalize hq : post.length = q at *
  have hHl : H.length = p + q + 1 := by rw [hH]; simp [hp, hq]; omega
  have hφl : ((List.range (p + q + 1)).map (insF p q)).length = p + q + 1 := by simp
  have hget : ∀ i, i < p + q + 1 → ((List.range (p + q + 1)).map (insF p q))[i]? = some (insF p q i) := fun i hi => by rw [List.getElem?_map, List.getElem?_range hi]; rfl
  have hF : ∀ b, b < p + q + 1 → rnB ((List.range (p + q + 1)).map (insF p q)) H.length b = insF p q b := fun b hb => rnB_lt (hget b hb)
  refine Ent.pick ((List.range (p + q + 1)).map (insF p q)) ?_ ?_ ?_ _ _ (by simp [hp, hq]; omega) ?_ ?_ (by rw [hφl]; exact bl) (by rw [hφl]; exact bh)
  · refine List.pairwise_iff_getElem.2 fun i j hi hj hij e => ?_
    simp only [List.getElem_map, List.getElem_range] at e
    simp only [List.length_map, List.length_range] at hi hj
    simp only [insF] at e
    repeat' split at e
    all_goals omega
  · intro b hb
    obtain ⟨i, hi, rfl⟩ := List.mem_map.1 hb
    have hi := List.mem_range.1 hi
    rw [hHl, insF]
    repeat' split
    all_goals omega
  · intro b hb
    rw [hget b (by omega), insF, if_pos (by omega)]
  · intro t
    rw [AV.rn_congr hF _ (fr_bel bl t)]
    exact hs t
  · intro i y b hy hb
    have hi : i < p + q + 1 := by have := (List.getElem?_eq_some_iff.1 hb).1; rwa [hφl] at this
    rw [hget i hi] at hb
    cases hb
    rw [Blk.rn_congr hF y (blksBel_get bh hy), hH, insF]
    split
    · rename_i h1
      rw [List.getElem?_append_left (by omega)] at hy
      rw [List.append_assoc, List.getElem?_append_left (by simpa [hp] using h1), List.getElem?_map, hy]; rfl
    · split
      · rename_i h1 h2
        subst h2
        rw [List.getElem?_append_right (by omega), hp, Nat.sub_self, List.getElem?_cons_zero] at hy
        cases hy
        rw [List.getElem?_append_right (by simp [hp, hq]; omega)]
        simp [hp, hq]
        rw [show q + i - (i + q) = 0 by omega]; rfl
      · rename_i h1 h2
        obtain ⟨c, hc⟩ : ∃ c, i = p + (c + 1) := ⟨i - p - 1, by omega⟩
        subst hc
        rw [List.getElem?_append_right (by omega), show p + (c + 1) - pre.length = c + 1 by omega, List.getElem?_cons_succ] at hy
        have hcl := (List.getElem?_eq_some_iff.1 hy).1
        rw [List.getElem?_append_left (by simp [hp, hq]; omega), List.getElem?_append_right (by simp [hp]), List.getElem?_map, List.length_map, hp, show p + (c + 1) - 1 - p = c by omega, hy]; rfl

/-- A block in the midst goes away, and what is behind the rest. All is said in new numbers: the old ones are those by delF. -/
theorem Ent.delMid {nt : Fr} {s : Slots} {H : List Blk} {l : List (Nat × AV)} (pre post : List Blk) (x : Blk) (X : List Blk) (hk : nt.k ≤ pre.length) (hs : ∀ t, ((Tab.fr l) t).rn (delF pre.length) = .junk ∨ ((Tab.fr l) t).rn (delF pre.length) = s t)
    (hH : H = pre.map (Blk.rn (delF pre.length)) ++ x :: (post.map (Blk.rn (delF pre.length)) ++ X)) (bl : frBel (pre.length + post.length) l) (bh : blksBel (pre.length + post.length) (pre ++ post)) :
    Ent nt s H (Tab.fr l) (pre ++ post) := by
  generalize hp : pre.length = p at *
  generalize hq : post.length = q at *
  have hHl : H.length = p + q + 1 + X.length := by
    rw [hH]; simp [hp, hq]; omega
  have hφl : ((List.range (p + q)).map (delF p)).length = p + q := by simp
  have hget : ∀ i, i < p + q → ((List.range (p + q)).map (delF p))[i]? = some (delF p i) := fun i hi => by rw [List.getElem?_map, List.getElem?_range hi]; rfl
  have hF : ∀ b, b < p + q → rnB ((List.range (p + q)).map (delF p)) H.length b = delF p b := fun b hb => rnB_lt (hget b hb)
  refine Ent.pick ((List.range (p + q)).map (delF p)) ?_ ?_ ?_ _ _ (by simp [hp, hq]) ?_ ?_ (by rw [hφl]; exact bl) (by rw [hφl]; exact bh)
  · refine List.pairwise_iff_getElem.2 fun i j hi hj hij e => ?_
    simp only [List.getElem_map, List.getElem_range] at e
    simp only [List.length_map, List.length_range] at hi hj
    simp only [delF] at e
    repeat' split at e
    all_goals omega
  · intro b hb
    obtain ⟨i, hi, rfl⟩ := List.mem_map.1 hb
    have hi := List.mem_range.1 hi
    rw [hHl, delF]
    repeat' split
    all_goals omega
  · intro b hb
    by_cases h0 : b < p + q
    · rw [hget b h0, delF, if_pos (by omega)]
    · omega
  · intro t
    rw [AV.rn_congr hF _ (fr_bel bl t)]
    exact hs t
  · intro i y b hy hb
    have hi : i < p + q := by have := (List.getElem?_eq_some_iff.1 hb).1; rwa [hφl] at this
    rw [hget i hi] at hb
    cases hb
    rw [Blk.rn_congr hF y (blksBel_get bh hy), hH, delF]
    split
    · rename_i h1
      rw [List.getElem?_append_left (by omega)] at hy
      rw [List.getElem?_append_left (by simpa [hp] using h1), List.getElem?_map, hy]; rfl
    · rename_i h1
      obtain ⟨c, hc⟩ : ∃ c, i = p + c := ⟨i - p, by omega⟩
      subst hc
      rw [List.getElem?_append_right (by omega), hp, show p + c - p = c by omega] at hy
      have hcl := (List.getElem?_eq_some_iff.1 hy).1
      rw [List.getElem?_append_right (by simp [hp]; omega), List.length_map, hp, show p + c + 1 - p = c + 1 by omega, List.getElem?_cons_succ, List.getElem?_append_left (by simpa [hq] using hcl), List.getElem?_map, hy]; rfl

/-! ### All given away but one block -/

mutual
/-- What a value reads as, the block b kept (it is called 0). -/
inductive RdK (H : List Blk) (b : Nat) : AV → AV → Prop
  | keep (g o n es) : RdK H b (.hs b g o n es) (.hs 0 g o n es)
  | rd {a a'} (h : Rd (H.set b .dead) a a') (c : a'.closed) : RdK H b a a'
  | agg {cs cs'} (h : RdKs H b cs cs') : RdK H b (.agg cs) (.agg cs')
  | tup {cs cs'} (h : RdKs H b cs cs') : RdK H b (.tup cs) (.tup cs')
inductive RdKs (H : List Blk) (b : Nat) : List AV → List AV → Prop
  | nil : RdKs H b [] []
  | cons {a a' as as'} (h : RdK H b a a') (t : RdKs H b as as') : RdKs H b (a :: as) (a' :: as')
end

/-- The invariant without a block. -/
theorem InvL.without {m ro H w} (hi : InvL m ro H w) (b : Nat) : InvL m ro (H.set b .dead) w := by
  have hget : ∀ (b' : Nat) (x : Blk), (H.set b .dead)[b']? = some x → x = .dead ∨ H[b']? = some x := fun b' x h => by
    rw [List.getElem?_set] at h
    split at h
    · split at h
      · cases h; exact .inl rfl
      · simp at h
    · exact .inr h
  have hown : ∀ (b' : Nat) (x : Blk) (g : Nat), (H.set b .dead)[b']? = some x → x.own = some g → H[b']? = some x := fun b' x g h ho => by
    rcases hget b' x h with rfl | h
    · simp [Blk.own] at ho
    · exact h
  refine ⟨⟨hi.inv.ro_lt, ?_, ?_, ?_, ?_, hi.inv.glob⟩, fun b' g loc h => by simpa using hi.bound b' g loc h⟩
  · intro b' x h
    rcases hget b' x h with rfl | h
    · trivial
    · exact hi.inv.blk b' x h
  · intro b₁ b₂ x x' g g' cb base base' h1 h2 k1 k2 l1 l2
    exact hi.inv.inj b₁ b₂ x x' g g' cb base base' (hown _ _ _ h1 k1) (hown _ _ _ h2 k2) k1 k2 l1 l2
  · rintro cb ⟨b', x, g, base, h1, h2, h3⟩
    exact hi.inv.excl cb ⟨b', x, g, base, hown _ _ _ h1 h2, h2, h3⟩
  · intro b' x g h1 h2 g' loc h3
    exact hi.inv.gen b' x g (hown _ _ _ h1 h2) h2 g' loc h3

section
variable {H : List Blk} {b : Nat} {m M : Mp} {ro : Nat → Prop} {w : World} (hi : InvL m ro H w) (hM : ∀ g loc, m b g = some loc → M 0 g = some loc)
include hi hM
mutual
theorem RdK.rel : ∀ {a a' : AV}, RdK H b a a' → ∀ {v : Value}, VRel m ro w a v → VRel M (fun cb => ro cb ∨ MW m (lk (H.set b .dead)) cb) w a' v
  | _, _, .keep g o n es, v, h => by
    simp only [VRel] at h ⊢
    obtain ⟨loc, h1, h2⟩ := h
    exact ⟨loc, hM g loc h1, h2⟩
  | _, _, .rd h c, v, hv => AV.closed_rel _ v c (h.rel (hi.without b) hv)
  | _, _, .agg h, v, hv => by
    simp only [VRel] at hv ⊢
    obtain ⟨c, e, ho, hv⟩ := hv
    exact ⟨c, e, ho, RdKs.rel h hv⟩
  | _, _, .tup h, v, hv => by
    simp only [VRel] at hv ⊢
    obtain ⟨c, e, hv⟩ := hv
    exact ⟨c, e, RdKs.rel h hv⟩
theorem RdKs.rel : ∀ {as as' : List AV}, RdKs H b as as' → ∀ {vs : List Value}, VsRel m ro w as vs → VsRel M (fun cb => ro cb ∨ MW m (lk (H.set b .dead)) cb) w as' vs
  | _, _, .nil, vs, hv => by simpa only [VsRel] using hv
  | _, _, .cons h t, vs, hv => by
    simp only [VsRel] at hv ⊢
    obtain ⟨v, vs', e, h1, h2⟩ := hv
    exact ⟨v, vs', e, RdK.rel h h1, RdKs.rel t h2⟩
end
end

/-- All is given away but one block, and one slot is kept. -/
theorem Ent.giveBut {nt : Fr} {s : Slots} {H : List Blk} (hk : nt.k = 0) (t b : Nat) {g : Nat} {cs : List AV} {v : AV} (hb : H[b]? = some (.cells g cs)) (cc : closeds cs) (h : RdK H b (s t) v) : Ent nt s H (Tab.fr [(t, v)]) [.cells g cs] := by
  rintro c a w ⟨m, ro, hi, hst, hsl, hsz, hd⟩
  have hi' := hi.without b
  let M : Mp := fun i g' => if i = 0 then m b g' else none
  have hM0 : ∀ g', M 0 g' = m b g' := fun _ => if_pos rfl
  have hMs : ∀ i g' loc, M i g' = some loc → i = 0 ∧ m b g' = some loc := fun i g' loc h => by
    have h : (if i = 0 then m b g' else none) = some loc := h
    split at h
    · exact ⟨by assumption, h⟩
    · simp at h
  have hmw : ∀ cb, MW M (lk [.cells g cs]) cb → ∃ base, m b g = some (.at cb base) := by
    rintro cb ⟨i, x, g', base, h1, h2, h3⟩
    obtain ⟨rfl, h3⟩ := hMs _ _ _ h3
    simp [lk] at h1; subst h1
    simp only [Blk.own, Option.some.injEq] at h2; subst h2
    exact ⟨base, h3⟩
  have hmw' : ∀ cb, MW M (lk [.cells g cs]) cb → MW m (lk H) cb := fun cb h => by
    obtain ⟨base, h⟩ := hmw cb h
    exact ⟨b, _, g, base, hb, rfl, h⟩
  have hdead : ∀ cb, MW m (lk (H.set b .dead)) cb → MW m (lk H) cb ∧ ∀ base, m b g ≠ some (.at cb base) := by
    rintro cb ⟨b', x, g', base, h1, h2, h3⟩
    have h1 : (H.set b .dead)[b']? = some x := h1
    rw [List.getElem?_set] at h1
    split at h1
    · split at h1
      · cases h1; simp [Blk.own] at h2
      · simp at h1
    · rename_i hne
      exact ⟨⟨b', x, g', base, h1, h2, h3⟩, fun base' e => hne (hi.inv.inj b b' _ x g g' cb base' base hb h1 rfl h2 e h3)⟩
  have hro : ∀ cb, (ro cb ∨ MW m (lk (H.set b .dead)) cb) → cb < w.heap.size := fun cb h => h.elim (hi.inv.ro_lt cb) fun h => hi.inv.mw_lt (hdead cb h).1
  have crel : ∀ a : AV, a.closed → ∀ v, VRel m ro w a v → VRel M (fun cb => ro cb ∨ MW m (lk (H.set b .dead)) cb) w a v := fun a ca v hv =>
    AV.closed_rel a v ca (VRel.keep (fun _ _ _ h => h) (fun cb c t fr h => ⟨c, h, rfl⟩) (fun _ h => .inl h) (fun _ _ => rfl) a v hv)
  refine ⟨M, _, ⟨⟨hro, ?_, ?_, ?_, ?_, (hi.inv.glob.more fun _ h => .inl h).any⟩, fun i g' loc h => ?_⟩,
    ⟨fun b' g' loc hm => ?_, hst.size, hst.os, hst.out, hst.tape, hst.kept, hst.shape, fun cb h => hst.mw cb (hmw' cb h), fun cb h => .inl (hst.ro_le cb h), fun cb h => ?_⟩, fun t' => ?_, hsz, hd⟩
  · intro i x h
    cases i with
    | zero =>
      simp [lk] at h; subst h
      intro loc hloc
      rw [hM0] at hloc
      have hr := hi.inv.blk b _ hb loc hloc
      cases loc with
      | void => exact hr
      | «at» cb base =>
        obtain ⟨cc', tt, h1, hlay⟩ := hr
        refine ⟨cc', tt, h1, fun j a hja => ?_⟩
        obtain ⟨v, hv, ho, hrel⟩ := hlay j a hja
        exact ⟨v, hv, ho, crel a (closeds_iff.1 cc a (List.mem_of_getElem? hja)) v hrel⟩
    | succ i => simp [lk] at h
  · intro i j x x' g₁ g₂ cb base base' h1 h2 k1 k2 l1 l2
    rw [(hMs _ _ _ l1).1, (hMs _ _ _ l2).1]
  · intro cb hm hr
    obtain ⟨base, h⟩ := hmw cb hm
    rcases hr with hr | hr
    · exact hi.inv.excl cb (hmw' cb hm) hr
    · exact (hdead cb hr).2 base h
  · intro i x g₁ h1 h2 g₂ loc h3
    obtain ⟨rfl, h3⟩ := hMs _ _ _ h3
    simp [lk] at h1; subst h1
    simp only [Blk.own, Option.some.injEq] at h2; subst h2
    exact hi.inv.gen b _ g hb rfl g₂ loc h3
  · have := (hMs _ _ _ h).1
    simp; omega
  · have := c.kb b' g' loc hm
    omega
  · rcases h with h | h
    · exact hst.ro_new cb h
    · rcases hst.mw cb (hdead cb h).1 with h | h
      · exact .inr (.inl h)
      · exact .inr (.inr h)
  · simp only [Tab.fr, upd]
    by_cases e : t' = t
    · subst e
      simp only [Nat.beq_refl, cond_true]
      exact h.rel hi (fun g' loc h => by rw [hM0]; exact h) (hsl t')
    · have : Nat.beq t' t = false := by rw [← Bool.not_eq_true]; intro h; exact e (Nat.eq_of_beq_eq_true h)
      rw [this]
      simp only [cond_false, VRel]

end Tab

/- Contracts over the first blocks of a heap. -/
namespace Tab
open Go
variable [Globs]
set_option linter.unusedSectionVars false

theorem place_range (f : Nat → Nat) (n : Nat) (hf : ∀ b, b < n → f b = b) : ∀ (H₁ X : List Blk) (k : Nat) (pre : List Blk) (Y : List Blk), pre.length = k → Y.length = H₁.length → (∀ x ∈ H₁, x.bel n) →
    place f ((List.range H₁.length).map (k + ·)) (pre ++ Y ++ X) H₁ = pre ++ H₁ ++ X
  | [], X, k, pre, Y, _, hY, _ => by
    have : Y = [] := List.length_eq_zero_iff.1 (by simpa using hY)
    subst this
    simp [place]
  | x :: H₁, X, k, pre, Y, hk, hY, hb => by
    cases Y with
    | nil => simp at hY
    | cons y Y =>
      have e : (List.range (x :: H₁).length).map (k + ·) = k :: (List.range H₁.length).map ((k + 1) + ·) := by
        rw [List.length_cons, List.range_succ_eq_map, List.map_cons, List.map_map, Nat.add_zero]
        congr 1
        refine List.map_congr_left fun j _ => ?_
        simp only [Function.comp]; omega
      rw [e, place, Blk.rn_id hf x (hb x (by simp))]
      have e2 : (pre ++ y :: Y ++ X).set k x = (pre ++ [x]) ++ Y ++ X := by
        subst hk; simp
      rw [e2, place_range f n hf H₁ X (k + 1) (pre ++ [x]) Y (by simp [hk]) (by simpa using hY) fun z hz => hb z (by simp [hz])]
      simp
theorem blksBel_mem {n : Nat} {H : List Blk} (h : blksBel n H) : ∀ x ∈ H, x.bel n := fun x hx => by
  obtain ⟨i, hi, rfl⟩ := List.getElem_of_mem hx
  exact blksBel_get h (List.getElem?_eq_getElem hi)
/-- A contract that answers one thing and changes these blocks, used where more blocks lie behind. -/
theorem ACall.tail {P : Program} {f : FuncId} {args : List AV} {H₀ H₁ : List Blk} {v : AV} (h : ACall P f args H₀ fun o H' => o = .ret v ∧ H' = H₁) (X : List Blk) (hl : H₁.length = H₀.length) (ba : bels H₀.length args) (bh : blksBel H₀.length H₀) (bh' : blksBel H₀.length H₁) (hv : v.bel H₀.length) :
    ACall P f args (H₀ ++ X) fun o H' => o = .ret v ∧ H' = H₁ ++ X := by
  have hF : ∀ b, b < H₀.length → rnB (List.range H₀.length) (H₀ ++ X).length b = b := fun b hb => rnB_lt (by rw [List.getElem?_range hb])
  have k := ACall.frame h (H := H₀ ++ X) (List.range H₀.length) List.nodup_range (fun b hb => by have := List.mem_range.1 hb; rw [List.length_append]; omega) (by simp)
    (fun i x b hx hb => by
      have hi := (List.getElem?_eq_some_iff.1 hx).1
      rw [List.getElem?_range hi] at hb
      cases hb
      rw [List.getElem?_append_left hi, hx, Blk.rn_id hF x (blksBel_get bh hx)]) (by simpa using ba) (by simpa using bh)
  rw [rns_id hF args ba] at k
  refine ⟨k.1, fun m ro w cargs hi hx => (k.2 m ro w cargs hi hx).mono ?_⟩
  rintro e w' ⟨m', ro', out, H', ⟨o₀, H₂, ⟨rfl, rfl⟩, rfl, rfl⟩, k2⟩
  refine ⟨m', ro', _, _, ⟨?_, ?_⟩, k2⟩
  · rw [Out.rn, AV.rn_id hF v hv]
  · have e := place_range (rnB (List.range H₀.length) (H₀ ++ X).length) H₀.length hF H₂ X 0 [] H₀ rfl hl.symm (blksBel_mem bh')
    rw [hl] at e
    simpa using e
theorem callT {P : Program} {f : FuncId} {args : List AV} {H H₀ H₁ : List Blk} {v : AV} {Y : Out → List Blk → Prop} (h : ACall P f args H₀ fun o H' => o = .ret v ∧ H' = H₁) (X : List Blk) (hH : H = H₀ ++ X) (hl : H₁.length = H₀.length) (ba : bels H₀.length args) (bh : blksBel H₀.length H₀) (bh' : blksBel H₀.length H₁) (hv : v.bel H₀.length)
    (k : Y (.ret v) (H₁ ++ X)) : ∃ R : Out → List Blk → Prop, ACall P f args H R ∧ ∀ o H', R o H' → Y o H' := by
  subst hH
  exact ⟨_, h.tail X hl ba bh bh' hv, by rintro _ _ ⟨rfl, rfl⟩; exact k⟩
/-- The same with a slice of a block behind, that is given away. -/
theorem callTZ {P : Program} {f : FuncId} {args az : List AV} {H H₀ H₁ : List Blk} {v : AV} {g : Nat} {cs : List AV} {Y : Out → List Blk → Prop} (b : Nat) (hb : H[b]? = some (.cells g cs)) (h : ACall P f args H₀ fun o H' => o = .ret v ∧ H' = H₁) (X : List Blk) (hH : H.set b (.fro g cs) = H₀ ++ X) (hz : FzN (H₀ ++ X) az args)
    (hl : H₁.length = H₀.length) (ba : bels H₀.length args) (bh : blksBel H₀.length H₀) (bh' : blksBel H₀.length H₁) (hv : v.bel H₀.length) (k : Y (.ret v) (H₁ ++ X)) : ∃ R : Out → List Blk → Prop, ACall P f az H R ∧ ∀ o H', R o H' → Y o H' := by
  refine ⟨_, ACall.froz b hb (R := fun o H' => o = .ret v ∧ H' = H₁ ++ X) ?_, by rintro _ _ ⟨rfl, rfl⟩; exact k⟩
  rw [hH]
  exact ACall.fz hz (h.tail X hl ba bh bh' hv)
/-- A slice that may be nil is given as nil. -/
theorem ACall.ofNil {P : Program} {f : FuncId} {x y z : AV} {H : List Blk} {R : Out → List Blk → Prop} (h : ACall P f [x, y, z, .sl .any 0 []] H R) : ACall P f [x, y, z, .sl .nil 0 []] H R := by
  refine ⟨h.1, fun m ro w cargs hi hx => h.2 m ro w cargs hi ?_⟩
  simp only [VsRel] at hx ⊢
  obtain ⟨v1, _, e1, k1, v2, _, e2, k2, v3, _, e3, k3, v4, _, e4, k4, e5⟩ := hx
  exact ⟨v1, _, e1, k1, v2, _, e2, k2, v3, _, e3, k3, v4, _, e4, sl_any k4, e5⟩

end Tab

/- A function that leaves memory behind which nothing speaks of. -/
namespace Tab
open Go
variable [Globs]
set_option linter.unusedSectionVars false

theorem ACall.drop {P : Program} {f : FuncId} {args : List AV} {H₀ H₁ : List Blk} {v : AV} (h : ACall P f args H₀ fun o H' => ∃ X, o = .ret v ∧ H' = H₁ ++ X) (hl : H₀.length ≤ H₁.length) (cv : v.bel H₁.length) (hb : blksBel H₁.length H₁) :
    ACall P f args H₀ fun o H' => o = .ret v ∧ H' = H₁ := by
  refine ⟨h.1, fun m ro w cargs hi hx => ?_⟩
  refine (h.2 m ro w cargs hi hx).mono ?_
  rintro e w' ⟨m', ro', out, H', ⟨X, rfl, rfl⟩, hout, hi', hst⟩
  have hent := Ent.drop (nt := ⟨1, H₀.length⟩) (l := [(0, v)]) (H := H₁) (X := X) hl ⟨cv, trivial⟩ hb
  cases e with
  | returned x =>
    obtain ⟨m₂, ro₂, hi₂, hst₂, hsl, _, _⟩ := hent ⟨⟨m, ro, H₀, w, []⟩, fun b g loc hm => hi.bound b g loc hm⟩ { tmps := #[x], defers := [] } w'
      ⟨m', ro', hi', hst, fun t => by
        cases t with
        | zero => exact hout
        | succ t => simp only [fr, upd, Nat.beq, cond_false, VRel], rfl, rfl⟩
    exact ⟨m₂, ro₂, .ret v, H₁, ⟨rfl, rfl⟩, hsl 0, hi₂, hst₂⟩
  | panicked _ => exact hout.elim
  | outgrown => exact hout.elim

/-- At a function's end: the result is read, what is behind is left. -/
theorem finC {P : Program} {nt : Fr} {rs : List ResultVar} {v v' : AV} {s : Slots} {H H₁ : List Blk} (X : List Blk) (r : resA P rs s H = some v') (e : v' = v) (eH : H = H₁ ++ X) : RetE P nt rs (fun o H' => ∃ X, o = .ret v ∧ H' = H₁ ++ X) s H :=
  ⟨s, H, v, Ent.refl _ _ _, r.trans (congrArg some e), X, rfl, eH⟩

end Tab

/- What an operation does, for regions: a call that writes one block; a slice given away at once. -/
namespace Tab
open Go
variable [Globs]
set_option linter.unusedSectionVars false

/-- A call that answers one closed thing and changes one block, among more blocks. -/
theorem sem_callW {P : Program} {o : Oper} {ρ : Operand → AV} {n b : Nat} {c : Call} {f : Operand} {fid : FuncId} {args : List AV} {v : AV} {blk blk' : Blk} (ho : o.op = .call c) (hc : c.callee = .value f) (hf : ρ f = .fn (.func fid) [] [])
    (hp : ACall P fid args [blk] fun o H' => o = .ret v ∧ H' = [blk']) (ha : c.args.toList.map ρ = rns (fun _ => b) args) (ba : bels 1 args) (bb : blk.bel 0) (bb' : blk'.bel 0) (hv : v.closed) :
    OpSem P o ρ n { v := v, need := [(b, blk)], upd := some (b, blk') } := by
  intro m ro H w a hi hx hn _ next Q kk
  have hb : H b = some blk := hn (b, blk) (by simp)
  have hid : ∀ (x : Blk), x.bel 0 → ∀ F : Nat → Nat, x.rn F = x := fun x hx F => Blk.rn_id (n := 0) (fun b hb => absurd hb (by omega)) x hx
  have hfe : a.eval f = .func (.func fid) #[] #[] := by
    have := hx f (by simp [ho, Op.operands, Call.operands, hc])
    rw [hf] at this
    simp only [VRel, VsRel] at this
    obtain ⟨va, vb, h1, h2, h3⟩ := this
    rw [h1]
    congr 1
    · exact Array.ext' h2
    · exact Array.ext' h3
  have hargs : VsRel m ro w (c.args.toList.map ρ) (c.args.map a.eval).toList := by
    rw [Array.toList_map]
    exact map_rel _ fun x hxm => hx x (by simp only [ho, Op.operands, Call.operands, Array.mem_append]; exact .inr (by simpa using hxm))
  have hrun : (execOp a.eval o).run P w = .ok (.enter fid (c.args.map a.eval)) w := by
    simp [execOp, ho, resolve, hc, hfe, Deferred.ofValue, invoke, callFunc_run hp.1]
  unfold Oper.wp
  rw [hrun]
  let mc : Mp := fun i g => if i = 0 then m b g else none
  have hmc : ∀ i g, i < 1 → mc i g = m b g := fun i g h => if_pos (by omega)
  have hmcs : ∀ i g loc, mc i g = some loc → i = 0 ∧ m b g = some loc := fun i g loc h => by
    have h : (if i = 0 then m b g else none) = some loc := h
    split at h
    · exact ⟨by assumption, h⟩
    · simp at h
  have hget : ∀ i x, lk [blk] i = some x → i = 0 ∧ x = blk := fun i x h => by
    match i, h with
    | 0, h => exact ⟨rfl, (Option.some.inj h).symm⟩
    | _ + 1, h => simp [lk] at h
  have hmw : ∀ cb, MW mc (lk [blk]) cb → ∃ g base, blk.own = some g ∧ m b g = some (.at cb base) := by
    rintro cb ⟨i, x, g, base, k1, k2, k3⟩
    obtain ⟨rfl, rfl⟩ := hget i x k1
    exact ⟨g, base, k2, (hmcs _ _ _ k3).2⟩
  have hmw' : ∀ cb, MW mc (lk [blk]) cb → MW m H cb := fun cb h => by
    obtain ⟨g, base, k2, k3⟩ := hmw cb h
    exact ⟨b, blk, g, base, hb, k2, k3⟩
  have hi₀ : InvL mc ro [blk] w := by
    refine ⟨⟨hi.ro_lt, ?_, ?_, fun cb h => hi.excl cb (hmw' cb h), ?_, hi.glob.any⟩, fun b' g loc h => by have := (hmcs _ _ _ h).1; simp; omega⟩
    · intro i x h
      obtain ⟨rfl, rfl⟩ := hget i x h
      refine BlkRel.back (m := m) (f := fun _ => b) (p := 1) hmc (by omega) (Blk.bel_le (by omega) _ bb) ?_
      rw [hid _ bb]
      exact hi.blk b _ hb
    · intro i j x y g g' cb base base' h1 h2 _ _ _ _
      rw [(hget i x h1).1, (hget j y h2).1]
    · intro i x g h1 h2 g' loc h3
      obtain ⟨rfl, rfl⟩ := hget i x h1
      exact hi.gen b _ g hb h2 g' loc (hmcs _ _ _ h3).2
  refine (hp.2 mc ro w (c.args.map a.eval) hi₀ (rns_back (m := m) (f := fun _ => b) (p := 1) hmc args _ ba (by rw [← ha]; exact hargs))).mono ?_
  rintro e w' ⟨m', ro', out, H₁, ⟨rfl, rfl⟩, hout, hi', hst⟩
  cases e with
  | panicked _ => exact hout.elim
  | outgrown => exact hout.elim
  | returned u =>
    let M : Mp := fun b' g => if b' = b then m' 0 g else m b' g
    have hMb : ∀ g, M b g = m' 0 g := fun g => if_pos rfl
    have hMo : ∀ b' g, b' ≠ b → M b' g = m b' g := fun b' g h => if_neg h
    have mle : ∀ b' g loc, m b' g = some loc → M b' g = some loc := fun b' g loc h => by
      by_cases e : b' = b
      · subst e; rw [hMb]; exact hst.mle 0 g loc ((hmc 0 g (by omega)).trans h)
      · rw [hMo b' g e]; exact h
    have hb' : ∀ b₁ x, app H n { v := v, need := [(b, blk)], upd := some (b, blk') } b₁ = some x → (b₁ = b ∧ x = blk') ∨ (b₁ ≠ b ∧ H b₁ = some x) := fun b₁ x h => by
      simp only [app] at h
      by_cases e : b₁ = b
      · rw [if_pos e] at h; exact .inl ⟨e, (Option.some.inj h).symm⟩
      · rw [if_neg e] at h; exact .inr ⟨e, h⟩
    have hlk : lk [blk'] 0 = some blk' := rfl
    have hother : ∀ b₁ x g cb base, b₁ ≠ b → H b₁ = some x → x.own = some g → m b₁ g = some (.at cb base) → ¬ MW mc (lk [blk]) cb := fun b₁ x g cb base hne h1 h2 h3 hm => by
      obtain ⟨g', base', k2, k3⟩ := hmw cb hm
      exact hne (hi.inj b₁ b x blk g g' cb base base' h1 hb h2 k2 h3 k3)
    have hcal : ∀ cb, MW M (app H n { v := v, need := [(b, blk)], upd := some (b, blk') }) cb → (∃ b₁ x g base, b₁ ≠ b ∧ H b₁ = some x ∧ x.own = some g ∧ m b₁ g = some (.at cb base)) ∨ MW m' (lk [blk']) cb := by
      rintro cb ⟨b₁, y, g, base, k1, k2, k3⟩
      rcases hb' b₁ y k1 with ⟨rfl, rfl⟩ | ⟨e, k1⟩
      · rw [hMb] at k3; exact .inr ⟨0, _, g, base, hlk, k2, k3⟩
      · rw [hMo _ _ e] at k3; exact .inl ⟨b₁, y, g, base, e, k1, k2, k3⟩
    have hmwM : ∀ cb, MW M (app H n { v := v, need := [(b, blk)], upd := some (b, blk') }) cb → MW m H cb ∨ w.heap.size ≤ cb := fun cb h => by
      rcases hcal cb h with ⟨b₁, x, g, base, _, k1, k2, k3⟩ | h
      · exact .inl ⟨b₁, x, g, base, k1, k2, k3⟩
      · rcases hst.mw cb h with h | h
        · exact .inl (hmw' cb h)
        · exact .inr h
    have l1 : ∀ b₁ x g cb base, b₁ ≠ b → H b₁ = some x → x.own = some g → m b₁ g = some (.at cb base) → ∀ g' base', blk'.own = some g' → m' 0 g' = some (.at cb base') → False := by
      intro b₁ x g cb base hf q1 q2 q3 g' base' q5 q6
      rcases hst.mw cb ⟨0, blk', g', base', hlk, q5, q6⟩ with q | q
      · exact hother b₁ x g cb base hf q1 q2 q3 q
      · have := hi.own_lt q1 q2 q3; omega
    refine kk M ro' w' u (AV.closed_rel v u hv hout) ⟨hi'.inv.ro_lt, ?_, ?_, ?_, ?_, hi'.inv.glob.any⟩
      ⟨mle, hst.size, hst.os, hst.out, hst.tape, fun cb hlt hn => hst.kept cb hlt fun k => hn (hmw' cb k), hst.shape, hmwM, hst.ro_le, fun cb h => by
        rcases hst.ro_new cb h with k | k | k
        · exact .inl k
        · exact .inr (.inl (hmw' cb k))
        · exact .inr (.inr k)⟩ (fun b₁ g h => .inl ⟨blk', by
          by_cases e : b₁ = b
          · rw [e]
          · exact absurd (hMo b₁ g e) h⟩)
    · intro b₁ y h
      rcases hb' b₁ y h with ⟨rfl, rfl⟩ | ⟨e, h⟩
      · have h0 := hi'.inv.blk 0 _ hlk
        have := BlkRel.rn (M := M) (f := fun _ => b₁) (fun b₂ g loc h2 => by
          have hlt := hi'.bound b₂ g loc h2
          have : b₂ = 0 := by simp at hlt; omega
          subst this
          rw [hMb]; exact h2) hMb h0
        rwa [hid _ bb'] at this
      · exact BlkRel.keep mle hst.shape hst.ro_le (fun cb hc => hst.kept cb (hi.ro_lt cb hc) fun k => hi.excl cb (hmw' cb k) hc) (hMo b₁ · e)
          (fun g cb base k1 k2 => hst.kept cb (hi.own_lt h k1 k2) (hother b₁ y g cb base e h k1 k2)) (hi.blk b₁ y h)
    · intro b₁ b₂ y y' g g' cb base base' h1 h2 k1 k2 q1 q2
      rcases hb' b₁ y h1 with ⟨e, ey⟩ | ⟨e, h3⟩
      · rcases hb' b₂ y' h2 with ⟨e', ey'⟩ | ⟨e', h4⟩
        · rw [e, e']
        · rw [e, hMb] at q1; rw [hMo _ _ e'] at q2; rw [ey] at k1
          exact (l1 b₂ y' g' cb base' e' h4 k2 q2 g base k1 q1).elim
      · rcases hb' b₂ y' h2 with ⟨e', ey'⟩ | ⟨e', h4⟩
        · rw [e', hMb] at q2; rw [hMo _ _ e] at q1; rw [ey'] at k2
          exact (l1 b₁ y g cb base e h3 k1 q1 g' base' k2 q2).elim
        · rw [hMo _ _ e] at q1; rw [hMo _ _ e'] at q2
          exact hi.inj b₁ b₂ y y' g g' cb base base' h3 h4 k1 k2 q1 q2
    · intro cb hm hr
      rcases hcal cb hm with ⟨b₁, x, g, base, hf, k1, k2, k3⟩ | hm
      · rcases hst.ro_new cb hr with k | k | k
        · exact hi.excl cb ⟨b₁, x, g, base, k1, k2, k3⟩ k
        · exact hother b₁ x g cb base hf k1 k2 k3 k
        · have := hi.own_lt k1 k2 k3; omega
      · exact hi'.inv.excl cb hm hr
    · intro b₁ y g h1 h2 g' loc h3
      rcases hb' b₁ y h1 with ⟨rfl, rfl⟩ | ⟨e, h1⟩
      · rw [hMb] at h3
        exact hi'.inv.gen 0 _ g hlk h2 g' loc h3
      · rw [hMo _ _ e] at h3
        exact hi.gen b₁ y g h1 h2 g' loc h3

/-- A slice that an operation made anew is given away at once. -/
theorem OpSem.frozN {P : Program} {o : Oper} {ρ : Operand → AV} {n g N es : Nat} {cs : List AV} {nd : List (Nat × Blk)} (h : OpSem P o ρ n { v := .hs n g 0 N es, need := nd, new := some (.cells g cs) }) (hfit : N * es = cs.length) :
    OpSem P o ρ n { v := .sl .any N cs, need := nd, new := some (.fro g cs) } := by
  intro m ro H w a hi hx hn hnew next Q kk
  refine h m ro H w a hi hx hn (fun x hx => hnew _ rfl) next Q (fun m' ro' w' v' hv hi' hst hne => ?_)
  have hb : app H n { v := .hs n g 0 N es, need := nd, new := some (.cells g cs) } n = some (.cells g cs) := by simp [app]
  have hb2 : app H n { v := .sl .any N cs, need := nd, new := some (.fro g cs) } n = some (.fro g cs) := by simp [app]
  obtain ⟨k1, k2⟩ := hi'.change₀ (m' := m') (ro' := fun cb => ro' cb ∨ Owns m' (app H n { v := .hs n g 0 N es, need := nd, new := some (.cells g cs) }) n cb) (H' := app H n { v := .sl .any N cs, need := nd, new := some (.fro g cs) }) n (.fro g cs)
    (fun _ _ _ h => h) (fun _ _ => .inl rfl) (fun b₁ => by
      simp only [app]
      by_cases e : b₁ = n
      · simp [e]
      · simp [e])
    (fun g cb base h => by simp [Blk.own] at h) (fun g h => by simp [Blk.own] at h) (fun _ h => .inl h) (fun _ h => h)
    (fun keep loc hl => by
      have h := hi'.blk n _ hb loc hl
      cases loc with
      | void => exact h
      | «at» cb base =>
        obtain ⟨c, t, hc, hlay⟩ := h
        refine CsRel_iff.2 ?_
        intro i x hix
        obtain ⟨v, hv, ho, hr⟩ := hlay i x hix
        exact ⟨.inr ⟨_, g, base, hb, rfl, hl⟩, v, by simp only [World.cell?, hc]; simpa using hv, ho, keep x v hr⟩)
  refine kk m' _ w' v' ?_ k1 (hst.trans k2) (fun b₁ g₁ hh => ?_)
  · simp only [VRel] at hv ⊢
    obtain ⟨loc, hm, hh⟩ := hv
    have hbr := k1.blk n _ hb2 loc hm
    cases loc with
    | void =>
      simp only [HsRel] at hh
      obtain ⟨rfl, rfl, _⟩ := hh
      exact .inl ⟨by simp, rfl, rfl, List.length_eq_zero_iff.1 (by omega)⟩
    | «at» cb base =>
      simp only [HsRel] at hh
      obtain ⟨cap, rfl, hle, _⟩ := hh
      exact .inr ⟨by simp, _, cap, rfl, hle, by simp, .inr ⟨rfl, hbr⟩⟩
  · rcases hne b₁ g₁ hh with ⟨y, hy⟩ | ⟨h1, _⟩
    · simp at hy
    · exact .inr ⟨h1, rfl⟩

/-- The same, as a condition. -/
def frzN (n : Nat) (nx : Eff → Prop) (e : Eff) : Prop := match e.v, e.upd, e.new with
  | .hs b g 0 N es, none, some (.cells g' cs) => guardE (b = n ∧ g = g' ∧ N * es = cs.length) (nx { v := .sl .any N cs, need := e.need, new := some (.fro g cs) })
  | _, _, _ => False
theorem Got.frzN {P : Program} {o : Oper} {ρ : Operand → AV} {H : List Blk} {nx : Eff → Prop} (h : Got P o ρ H (Tab.frzN H.length nx)) : Got P o ρ H nx := by
  obtain ⟨⟨v, nd, up, nw⟩, he, hsem, hn, hu⟩ := h
  unfold Tab.frzN at he
  split at he
  · rename_i b g N es g' cs h1 h2 h3
    simp only at h1 h2 h3
    subst h1 h2 h3
    obtain ⟨⟨rfl, rfl, hfit⟩, he⟩ := guardE_and he
    exact ⟨_, he, hsem.frozN hfit, hn, fun p hp => by simp at hp⟩
  · exact he.elim

/-- Operations, the first one's new slice given away at once. -/
def vcOpsF (P : Program) (all : List Oper) : List Oper → Slots → List Blk → Post → Prop
  | [], _, _, _ => False
  | o :: os, s, H, K => vcGuard all o.guard s (fun s => vcOp P o.op (ev s) H (frzN H.length fun e => VOps P all os (updo s o.dst e.v) (appL H e) K)) (fun s => VOps P all os (updo s o.dst (.tup [])) H K)
theorem opsFrz {P : Program} {all l : List Oper} {s : Slots} {H : List Blk} {K : Post} (h : vcOpsF P all l s H K) : VOps P all l s H K := by
  refine opsGot ?_
  cases l with
  | nil => exact h
  | cons o os =>
    simp only [vcOpsF] at h
    exact vcGuard_mono (fun s h => (vcOp_sound h).frzN) h
def vcDrawN (P : Program) (ops : List Oper) : List Oper → Slots → List Blk → List (Nat × Eff) → Post → Prop
  | [], _, _, _, _ => False
  | o :: os, s, H, acc, K => vcGuard ops o.guard s (fun s => vcOp P o.op (ev s) H (frzN H.length fun e => VDraw P ops os (updo s o.dst e.v) (appL H e) ((H.length, e) :: acc) K))
      (fun s => VDraw P ops os (updo s o.dst (.tup [])) H ((H.length, { v := .tup [] }) :: acc) K)
theorem drawFrzN {P : Program} {ops l : List Oper} {s : Slots} {H : List Blk} {acc : List (Nat × Eff)} {K : Post} (h : vcDrawN P ops l s H acc K) : VDraw P ops l s H acc K := by
  refine drawGot ?_
  cases l with
  | nil => exact h
  | cons o os =>
    simp only [vcDrawN] at h
    exact vcGuard_mono (fun s h => (vcOp_sound h).frzN) h
/-- A call that writes one block. -/
theorem gotCallW {P : Program} {o : Oper} {ρ : Operand → AV} {H : List Blk} {nx : Eff → Prop} {c : Call} {f : Operand} {fid : FuncId} {args : List AV} {v : AV} {blk blk' : Blk} (b : Nat)
    (hp : ACall P fid args [blk] fun o H' => o = .ret v ∧ H' = [blk']) (ho : o.op = .call c) (hc : c.callee = .value f) (hf : ρ f = .fn (.func fid) [] []) (ha : c.args.toList.map ρ = rns (fun _ => b) args) (hb : H[b]? = some blk)
    (ba : bels 1 args) (bb : blk.bel 0) (bb' : blk'.bel 0) (hv : v.closed) (k : nx { v := v, need := [(b, blk)], upd := some (b, blk') }) : Got P o ρ H nx :=
  ⟨_, k, sem_callW ho hc hf hp ha ba bb bb' hv, fun p hp => by
    have : p = (b, blk) := by simpa using hp
    subst this; exact hb, fun p hp => by
    simp only [Option.some.injEq] at hp
    subst hp
    exact ⟨blk, by simp⟩⟩

/-- In a drawn region: the heap written anew. -/
theorem drawEq {P : Program} {ops l : List Oper} {s s' : Slots} {H H' : List Blk} {acc : List (Nat × Eff)} {K : Post} (hs : s = s') (hH : H = H') (h : VDraw P ops l s' H' acc K) : VDraw P ops l s H acc K := by subst hs; subst hH; exact h

end Tab
