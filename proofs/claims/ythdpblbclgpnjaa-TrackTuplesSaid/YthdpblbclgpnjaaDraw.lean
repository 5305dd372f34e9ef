/- Regions that draw their order: operations that have no order between them touch nothing in common, so every order comes to the same state. -/
import Derived.Test.YthdpblbclgpnjaaEnt
import Derived.Orders
set_option linter.unusedVariables false
set_option linter.unusedSimpArgs false
set_option linter.unusedSectionVars false
namespace Tab
open Go
variable [Globs]

/-- The last number below n that fits. -/
def lastD (p : Nat → Bool) : Nat → Option Nat
  | 0 => none
  | n + 1 => if p n then some n else lastD p n

theorem lastD_congr {p q : Nat → Bool} : ∀ {n : Nat}, (∀ j, j < n → p j = q j) → lastD p n = lastD q n
  | 0, _ => rfl
  | n + 1, h => by
    simp only [lastD, h n (Nat.lt_succ_self n)]
    rw [lastD_congr fun j hj => h j (Nat.lt_succ_of_lt hj)]

theorem lastD_below {p q : Nat → Bool} {i : Nat} : ∀ {n : Nat}, i ≤ n → (∀ j, j < n → p j = (q j && decide (j < i))) → lastD p n = lastD q i
  | 0, h, _ => by
    have : i = 0 := by omega
    subst this
    rfl
  | n + 1, h, hp => by
    by_cases e : i = n + 1
    · subst e
      exact lastD_congr fun j hj => by rw [hp j hj]; simp [hj]
    · simp only [lastD, hp n (Nat.lt_succ_self n)]
      rw [if_neg (by simp; omega)]
      exact lastD_below (by omega) fun j hj => hp j (Nat.lt_succ_of_lt hj)

theorem lastD_none {p : Nat → Bool} : ∀ {n : Nat}, (∀ j, j < n → p j = false) → lastD p n = none
  | 0, _ => rfl
  | n + 1, h => by simp only [lastD, h n (Nat.lt_succ_self n), Bool.false_eq_true, if_false]; exact lastD_none fun j hj => h j (Nat.lt_succ_of_lt hj)

theorem lastD_some {p : Nat → Bool} {i : Nat} : ∀ {n : Nat}, i < n → p i = true → (∀ j, i < j → j < n → p j = false) → lastD p n = some i
  | 0, h, _, _ => by omega
  | n + 1, h, hi, hj => by
    by_cases e : i = n
    · subst e; simp only [lastD, hi, if_true]
    · simp only [lastD, hj n (by omega) (Nat.lt_succ_self n), Bool.false_eq_true, if_false]
      exact lastD_some (by omega) hi fun j h1 h2 => hj j h1 (Nat.lt_succ_of_lt h2)

/-! ### What operations look at, and touch -/

def readsOf (ops : List Oper) (o : Oper) : List Nat :=
  (o.op.operands.toList.filterMap fun | .tmp t => some t | _ => none) ++ (match o.guard with | some (g, _) => ((ops[g]?).bind (·.dst)).toList | none => [])

def touches (x : Nat × Eff) : List Nat :=
  (match x.2.upd with | some (i, _) => [i] | none => []) ++ (match x.2.new with | some _ => [x.1] | none => [])

def needs (x : Nat × Eff) : List Nat := x.2.need.map (·.1)

def disj (a b : List Nat) : Bool := a.all fun x => b.all fun y => !(Nat.beq x y)

def dstL (o : Oper) : List Nat := o.dst.toList

def indep (ops : List Oper) (o o' : Oper) (x y : Nat × Eff) : Bool :=
  disj (dstL o) (readsOf ops o') && disj (dstL o') (readsOf ops o) && disj (dstL o) (dstL o') && disj (touches x) (needs y) && disj (touches y) (needs x) && disj (touches x) (touches y)

/-- Each bit of a mask comes by an edge. -/
def maskOk (ops : List Oper) (B : Nat → Nat) : Bool :=
  (List.range ops.length).all fun j => (List.range ops.length).all fun i => !(B j).testBit i || (match ops[j]? with
    | some o => o.after.toList.any fun e => Region.binds .any e && (Nat.beq e.on i || (B e.on).testBit i)
    | none => false)

def backOk (ops : List Oper) : Bool :=
  (List.range ops.length).all fun i => match ops[i]? with
    | some o => o.after.toList.all fun e => !Region.binds .any e || Nat.blt e.on i
    | none => true

def pairsOk (ops : List Oper) (B : Nat → Nat) (effs : List (Nat × Eff)) : Bool :=
  (List.range ops.length).all fun j => (List.range j).all fun i => (B j).testBit i || (match ops[i]?, ops[j]?, effs[i]?, effs[j]? with
    | some o, some o', some x, some y => indep ops o o' x y
    | _, _, _, _ => false)

def drawOk (ops : List Oper) (effs : List (Nat × Eff)) : Bool :=
  let m := Region.before ops.toArray
  maskOk ops (fun j => m.getD j 0) && backOk ops && pairsOk ops (fun j => m.getD j 0) effs

theorem disj_of {a b : List Nat} (h : disj a b = true) {x : Nat} (ha : x ∈ a) (hb : x ∈ b) : False := by
  simp only [disj, List.all_eq_true] at h
  have := h x ha x hb
  simp at this

/-! ### The trace of the text's order -/

/-- What is known of one operation in a state: it runs and does what its effect says, or its guard is shut. -/
def OpCase (P : Program) (ops : List Oper) (o : Oper) (s : Slots) (H : List Blk) (e : Eff) : Prop :=
  (((o.guard = none) ∨ (∃ j w d b, o.guard = some (j, w) ∧ (ops[j]?).bind (·.dst) = some d ∧ s d = .bool b ∧ b = w)) ∧
      OpSem P o (ev s) H.length e ∧ (∀ p ∈ e.need, H[p.1]? = some p.2) ∧ (∀ p, e.upd = some p → ∃ y, (p.1, y) ∈ e.need)) ∨
  ((∃ j w d, o.guard = some (j, w) ∧ (ops[j]?).bind (·.dst) = some d ∧ ((∃ b, s d = .bool b ∧ b ≠ w) ∨ ∃ vs, s d = .tup vs)) ∧ e = { v := .tup [] })

inductive Tr (P : Program) (ops : List Oper) : List Oper → Slots → List Blk → List (Nat × Eff) → Slots → List Blk → Prop
  | nil {s H} : Tr P ops [] s H [] s H
  | cons {o os s H e tr s' H'} (h : OpCase P ops o s H e) (t : Tr P ops os (updo s o.dst e.v) (appL H e) tr s' H') : Tr P ops (o :: os) s H ((H.length, e) :: tr) s' H'

section
variable (ops : List Oper) (effs : List (Nat × Eff)) (s₀ : Slots) (H₀ : List Blk)

def dstAt (j : Nat) : Option Nat := (ops[j]?).bind (·.dst)
def effAt (j : Nat) : Nat × Eff := effs.getD j (0, { v := .junk })

def stAt : Nat → Slots × List Blk
  | 0 => (s₀, H₀)
  | i + 1 => (updo (stAt i).1 (dstAt ops i) (effAt effs i).2.v, appL (stAt i).2 (effAt effs i).2)

/-- What operation j lays at block b. -/
def tch (j b : Nat) : Option Blk :=
  match (effAt effs j).2.new with
  | some x => if b = (effAt effs j).1 then some x else match (effAt effs j).2.upd with
    | some (i, y) => if b = i then some y else none
    | none => none
  | none => match (effAt effs j).2.upd with
    | some (i, y) => if b = i then some y else none
    | none => none

def wr (x j : Nat) : Bool := decide (dstAt ops j = some x)
def tcs (b j : Nat) : Bool := (tch effs j b).isSome

def Sof (D : Nat → Bool) (N : Nat) (x : Nat) : AV :=
  match lastD (fun j => D j && wr ops x j) N with
  | some j => (effAt effs j).2.v
  | none => s₀ x

def Hof (D : Nat → Bool) (N : Nat) (b : Nat) : Option Blk :=
  match lastD (fun j => D j && tcs effs b j) N with
  | some j => tch effs j b
  | none => lk H₀ b
end

theorem tch_mem {effs : List (Nat × Eff)} {j b : Nat} (h : tcs effs b j = true) : b ∈ touches (effAt effs j) := by
  unfold tcs tch at h
  unfold touches
  cases hn : (effAt effs j).2.new <;> cases hu : (effAt effs j).2.upd <;> simp only [hn, hu] at h ⊢
  case none.none => simp at h
  case none.some p =>
    by_cases e : b = p.1
    · simp [e]
    · simp [e] at h
  case some.none x =>
    by_cases e : b = (effAt effs j).1
    · simp [e]
    · simp [e] at h
  case some.some x p =>
    by_cases e : b = (effAt effs j).1
    · simp [e]
    · by_cases e2 : b = p.1
      · simp [e2]
      · simp [e, e2] at h

theorem app_tch {effs : List (Nat × Eff)} {H : Hp} {j : Nat} (b : Nat) : app H (effAt effs j).1 (effAt effs j).2 b = if tcs effs b j then tch effs j b else H b := by
  unfold app tcs tch
  cases (effAt effs j).2.new with
  | some x =>
    simp only
    by_cases e : b = (effAt effs j).1
    · simp [e]
    · simp only [e, if_false]
      cases (effAt effs j).2.upd with
      | some p =>
        obtain ⟨i, y⟩ := p
        simp only
        by_cases e2 : b = i <;> simp [e2]
      | none => simp
  | none =>
    simp only
    cases (effAt effs j).2.upd with
    | some p =>
      obtain ⟨i, y⟩ := p
      simp only
      by_cases e2 : b = i <;> simp [e2]
    | none => simp

theorem updo_at {s : Slots} {d : Option Nat} {v : AV} (x : Nat) : updo s d v x = if d = some x then v else s x := by
  cases d with
  | none => simp [updo]
  | some t =>
    simp only [updo, upd, Option.some.injEq]
    by_cases e : x = t
    · subst e; simp
    · have : Nat.beq x t = false := by rw [← Bool.not_eq_true]; intro h; exact e (Nat.eq_of_beq_eq_true h)
      rw [this, if_neg (Ne.symm e)]
      rfl

theorem OpCase.updlt {P ops o s H e} (h : OpCase P ops o s H e) : ∀ p, e.upd = some p → p.1 < H.length := by
  intro p hp
  rcases h with ⟨_, _, hn, hu⟩ | ⟨_, rfl⟩
  · obtain ⟨y, hy⟩ := hu p hp
    exact (List.getElem?_eq_some_iff.1 (hn _ hy)).1
  · simp at hp

/-- A trace, by numbers. -/
theorem Tr.facts {P : Program} {ops : List Oper} : ∀ {rest : List Oper} {s H tr s' H'}, Tr P ops rest s H tr s' H' →
    tr.length = rest.length ∧ stAt rest tr s H rest.length = (s', H') ∧
      ∀ i, i < rest.length → ∃ o, rest[i]? = some o ∧ (effAt tr i).1 = (stAt rest tr s H i).2.length ∧ OpCase P ops o (stAt rest tr s H i).1 (stAt rest tr s H i).2 (effAt tr i).2 := by
  intro rest s H tr s' H' h
  induction h with
  | nil => exact ⟨rfl, rfl, fun i hi => by simp at hi⟩
  | @cons o os s H e tr s' H' h t ih =>
    obtain ⟨h1, h2, h3⟩ := ih
    have hshift : ∀ i, stAt (o :: os) ((H.length, e) :: tr) s H (i + 1) = stAt os tr (updo s o.dst e.v) (appL H e) i := by
      intro i
      induction i with
      | zero => rfl
      | succ i ih =>
        rw [stAt, ih]
        simp only [stAt, dstAt, effAt, List.getElem?_cons_succ, List.getD_cons_succ]
    refine ⟨by simp [h1], by rw [List.length_cons, hshift]; exact h2, fun i hi => ?_⟩
    cases i with
    | zero => exact ⟨o, rfl, rfl, h⟩
    | succ i =>
      obtain ⟨o', k1, k2, k3⟩ := h3 i (by simpa using hi)
      refine ⟨o', by simpa using k1, ?_, ?_⟩
      · rw [hshift]; simpa [effAt] using k2
      · rw [hshift]; simpa [effAt] using k3

section
variable {P : Program} {ops : List Oper} {effs : List (Nat × Eff)} {s₀ : Slots} {H₀ : List Blk} {B : Nat → Nat}

theorem stAt_slot (i x : Nat) : (stAt ops effs s₀ H₀ i).1 x = match lastD (wr ops x) i with | some j => (effAt effs j).2.v | none => s₀ x := by
  induction i with
  | zero => rfl
  | succ i ih =>
    simp only [stAt, updo_at, lastD, wr, decide_eq_true_eq]
    split
    · rfl
    · exact ih

theorem stAt_heap (hf : ∀ i, i < ops.length → (effAt effs i).1 = (stAt ops effs s₀ H₀ i).2.length ∧ ∀ p, (effAt effs i).2.upd = some p → p.1 < (stAt ops effs s₀ H₀ i).2.length) :
    ∀ (i b : Nat), i ≤ ops.length → lk (stAt ops effs s₀ H₀ i).2 b = match lastD (tcs effs b) i with | some j => tch effs j b | none => lk H₀ b := by
  intro i
  induction i with
  | zero => intro b _; rfl
  | succ i ih =>
    intro b hi
    obtain ⟨h1, h2⟩ := hf i (by omega)
    simp only [stAt, lastD]
    rw [appL_lk h2, ← h1, app_tch, ih b (by omega)]
    split <;> rfl

/-- A region's trace, with all that the check of pairs gives. -/
structure Plan (P : Program) (ops : List Oper) (effs : List (Nat × Eff)) (s₀ : Slots) (H₀ : List Blk) (B : Nat → Nat) : Prop where
  len : effs.length = ops.length
  op : ∀ i, i < ops.length → ∃ o, ops[i]? = some o ∧ (effAt effs i).1 = (stAt ops effs s₀ H₀ i).2.length ∧ OpCase P ops o (stAt ops effs s₀ H₀ i).1 (stAt ops effs s₀ H₀ i).2 (effAt effs i).2
  mask : ∀ j i, j < ops.length → i < ops.length → (B j).testBit i = true → ∃ o e, ops[j]? = some o ∧ e ∈ o.after ∧ Region.binds .any e = true ∧ (e.on = i ∨ (B e.on).testBit i = true)
  back : ∀ i o e, ops[i]? = some o → e ∈ o.after → Region.binds .any e = true → e.on < i
  pair : ∀ i j o o', i < j → ops[i]? = some o → ops[j]? = some o' → (B j).testBit i = true ∨ indep ops o o' (effAt effs i) (effAt effs j) = true

/-- The set of operations that have run: with each those that must come ahead of it. -/
def Down (ops : List Oper) (D : Nat → Bool) : Prop := ∀ j o e, D j = true → ops[j]? = some o → e ∈ o.after → Region.binds .any e = true → D e.on = true

theorem Plan.down (pl : Plan P ops effs s₀ H₀ B) {D : Nat → Bool} (hd : Down ops D) : ∀ j, j < ops.length → D j = true → ∀ i, i < ops.length → (B j).testBit i = true → D i = true := by
  intro j
  induction j using Nat.strongRecOn with
  | _ j ih =>
    intro hj hDj i hi hb
    obtain ⟨o, e, ho, he, hbind, h⟩ := pl.mask j i hj hi hb
    have hon := hd j o e hDj ho he hbind
    have hlt := pl.back j o e ho he hbind
    rcases h with h | h
    · rw [← h]; exact hon
    · exact ih e.on hlt (by omega) hon i hi h

/-- Two operations, one run and one that is ready: touch nothing in common but in the text's order. -/
theorem Plan.apart (pl : Plan P ops effs s₀ H₀ B) {D : Nat → Bool} (hd : Down ops D) {i j : Nat} {o o' : Oper} (hi : ops[i]? = some o) (hj : ops[j]? = some o') (hDi : D i = false)
    (hready : ∀ e ∈ o.after, Region.binds .any e = true → D e.on = true) (hne : i ≠ j) :
    (D j = decide (j < i)) ∨ (indep ops o o' (effAt effs i) (effAt effs j) = true ∨ indep ops o' o (effAt effs j) (effAt effs i) = true) := by
  have li : i < ops.length := (List.getElem?_eq_some_iff.1 hi).1
  have lj : j < ops.length := (List.getElem?_eq_some_iff.1 hj).1
  rcases Nat.lt_or_gt_of_ne hne with h | h
  · rcases pl.pair i j o o' h hi hj with hb | hb
    · left
      have : ¬ j < i := by omega
      simp only [this, decide_false]
      cases hDj : D j with
      | false => rfl
      | true => rw [pl.down hd j lj hDj i li hb] at hDi; cases hDi
    · exact .inr (.inl hb)
  · rcases pl.pair j i o' o h hj hi with hb | hb
    · left
      simp only [h, decide_true]
      obtain ⟨o₁, e, ho₁, he, hbind, hh⟩ := pl.mask i j li lj hb
      rw [hi] at ho₁
      cases ho₁
      have hon := hready e he hbind
      rcases hh with hh | hh
      · rw [← hh]; exact hon
      · exact pl.down hd e.on (by have := pl.back i o e hi he hbind; omega) hon j lj hh
    · exact .inr (.inr hb)

theorem Plan.updlt (pl : Plan P ops effs s₀ H₀ B) : ∀ i, i < ops.length → (effAt effs i).1 = (stAt ops effs s₀ H₀ i).2.length ∧ ∀ p, (effAt effs i).2.upd = some p → p.1 < (stAt ops effs s₀ H₀ i).2.length := by
  intro i hi
  obtain ⟨o, _, h1, h2⟩ := pl.op i hi
  exact ⟨h1, h2.updlt⟩

theorem dst_of {i x : Nat} {o : Oper} (hi : ops[i]? = some o) (h : wr ops x i = true) : x ∈ dstL o := by
  simp only [wr, dstAt, hi, Option.bind_some, decide_eq_true_eq] at h
  simp [dstL, h]

/-- A slot that a ready operation looks at holds what it holds in the text's order. -/
theorem Plan.slot (pl : Plan P ops effs s₀ H₀ B) {D : Nat → Bool} (hd : Down ops D) {i : Nat} {o : Oper} (hi : ops[i]? = some o) (hDi : D i = false) (hready : ∀ e ∈ o.after, Region.binds .any e = true → D e.on = true)
    {x : Nat} (hx : x ∈ readsOf ops o) : Sof ops effs s₀ D ops.length x = (stAt ops effs s₀ H₀ i).1 x := by
  rw [stAt_slot]
  unfold Sof
  rw [lastD_below (q := wr ops x) (i := i) (Nat.le_of_lt (List.getElem?_eq_some_iff.1 hi).1)]
  intro j hj
  by_cases hw : wr ops x j = true
  · rw [hw, Bool.and_true, Bool.true_and]
    by_cases e : i = j
    · subst e; simp [hDi]
    · obtain ⟨o', ho', _⟩ := pl.op j hj
      have hm := dst_of ho' hw
      rcases pl.apart hd hi ho' hDi hready e with h | h | h
      · exact h
      · simp only [indep, Bool.and_eq_true] at h
        exact (disj_of h.1.1.1.1.2 hm hx).elim
      · simp only [indep, Bool.and_eq_true] at h
        exact (disj_of h.1.1.1.1.1 hm hx).elim
  · simp only [Bool.not_eq_true] at hw
    simp [hw]

theorem Plan.block (pl : Plan P ops effs s₀ H₀ B) {D : Nat → Bool} (hd : Down ops D) {i : Nat} {o : Oper} (hi : ops[i]? = some o) (hDi : D i = false) (hready : ∀ e ∈ o.after, Region.binds .any e = true → D e.on = true)
    {b : Nat} (hx : b ∈ needs (effAt effs i) ∨ b ∈ touches (effAt effs i)) : Hof effs H₀ D ops.length b = lk (stAt ops effs s₀ H₀ i).2 b := by
  have hli := (List.getElem?_eq_some_iff.1 hi).1
  rw [stAt_heap pl.updlt i b (Nat.le_of_lt hli)]
  unfold Hof
  rw [lastD_below (q := tcs effs b) (i := i) (Nat.le_of_lt hli)]
  intro j hj
  by_cases hw : tcs effs b j = true
  · rw [hw, Bool.and_true, Bool.true_and]
    by_cases e : i = j
    · subst e; simp [hDi]
    · obtain ⟨o', ho', _⟩ := pl.op j hj
      have hm := tch_mem hw
      rcases pl.apart hd hi ho' hDi hready e with h | h | h
      · exact h
      · simp only [indep, Bool.and_eq_true] at h
        rcases hx with hx | hx
        · exact (disj_of h.1.2 hm hx).elim
        · exact (disj_of h.2 hx hm).elim
      · simp only [indep, Bool.and_eq_true] at h
        rcases hx with hx | hx
        · exact (disj_of h.1.1.2 hm hx).elim
        · exact (disj_of h.2 hm hx).elim
  · simp only [Bool.not_eq_true] at hw
    simp [hw]

def addD (D : Nat → Bool) (i : Nat) : Nat → Bool := fun j => if j = i then true else D j

theorem Plan.slot_add (pl : Plan P ops effs s₀ H₀ B) {D : Nat → Bool} (hd : Down ops D) {i : Nat} {o : Oper} (hi : ops[i]? = some o) (hDi : D i = false) (hready : ∀ e ∈ o.after, Region.binds .any e = true → D e.on = true) :
    Sof ops effs s₀ (addD D i) ops.length = updo (Sof ops effs s₀ D ops.length) o.dst (effAt effs i).2.v := by
  have hli := (List.getElem?_eq_some_iff.1 hi).1
  have hdst : dstAt ops i = o.dst := by simp [dstAt, hi]
  funext x
  rw [updo_at]
  by_cases hx : o.dst = some x
  · rw [if_pos hx]
    unfold Sof
    rw [lastD_some hli (by simp [addD, wr, hdst, hx])]
    intro j hij hj
    by_cases hw : wr ops x j = true
    · have hne : j ≠ i := by omega
      simp only [addD, hne, if_false, hw, Bool.and_true]
      obtain ⟨o', ho', _⟩ := pl.op j hj
      have hm := dst_of ho' hw
      have hm' : x ∈ dstL o := by simp [dstL, hx]
      rcases pl.apart hd hi ho' hDi hready (Ne.symm hne) with h | h | h
      · rw [h]; simp; omega
      · simp only [indep, Bool.and_eq_true] at h
        exact (disj_of h.1.1.1.2 hm' hm).elim
      · simp only [indep, Bool.and_eq_true] at h
        exact (disj_of h.1.1.1.2 hm hm').elim
    · simp only [Bool.not_eq_true] at hw
      simp [hw]
  · rw [if_neg hx]
    unfold Sof
    rw [lastD_congr (q := fun j => D j && wr ops x j)]
    intro j _
    by_cases e : j = i
    · subst e
      have : wr ops x j = false := by simp [wr, hdst, hx]
      simp [this]
    · simp [addD, e]

theorem Plan.heap_add (pl : Plan P ops effs s₀ H₀ B) {D : Nat → Bool} (hd : Down ops D) {i : Nat} {o : Oper} (hi : ops[i]? = some o) (hDi : D i = false) (hready : ∀ e ∈ o.after, Region.binds .any e = true → D e.on = true) :
    Hof effs H₀ (addD D i) ops.length = app (Hof effs H₀ D ops.length) (effAt effs i).1 (effAt effs i).2 := by
  have hli := (List.getElem?_eq_some_iff.1 hi).1
  funext b
  rw [app_tch]
  by_cases hx : tcs effs b i = true
  · rw [if_pos hx]
    unfold Hof
    rw [lastD_some hli (by simp [addD, hx])]
    intro j hij hj
    by_cases hw : tcs effs b j = true
    · have hne : j ≠ i := by omega
      simp only [addD, hne, if_false, hw, Bool.and_true]
      obtain ⟨o', ho', _⟩ := pl.op j hj
      have hm := tch_mem hw
      have hm' := tch_mem hx
      rcases pl.apart hd hi ho' hDi hready (Ne.symm hne) with h | h | h
      · rw [h]; simp; omega
      · simp only [indep, Bool.and_eq_true] at h
        exact (disj_of h.2 hm' hm).elim
      · simp only [indep, Bool.and_eq_true] at h
        exact (disj_of h.2 hm hm').elim
    · simp only [Bool.not_eq_true] at hw
      simp [hw]
  · rw [if_neg hx]
    simp only [Bool.not_eq_true] at hx
    unfold Hof
    rw [lastD_congr (q := fun j => D j && tcs effs b j)]
    intro j _
    by_cases e : j = i
    · subst e; simp [hx]
    · simp [addD, e]

/-- The state in which the operations of a set have run. -/
def DRel (ops : List Oper) (effs : List (Nat × Eff)) (s₀ : Slots) (H₀ : List Blk) (c : Ctx) (nt : Nat) (D : Nat → Bool) (a : Act) (w : World) : Prop :=
  ∃ m ro, Inv m ro (Hof effs H₀ D ops.length) w ∧ Step c.m c.ro (lk c.H) c.w m ro (Hof effs H₀ D ops.length) w ∧ SlotsRel m ro w (Sof ops effs s₀ D ops.length) a ∧ a.tmps.size = nt ∧ a.defers = [] ∧
    ∀ b g loc, m b g = some loc → b < H₀.length ∨ ∃ j, j < ops.length ∧ D j = true ∧ (effAt effs j).2.new.isSome = true ∧ (effAt effs j).1 = b

theorem stAt_mono (i : Nat) : (stAt ops effs s₀ H₀ i).2.length ≤ (stAt ops effs s₀ H₀ (i + 1)).2.length := by
  simp only [stAt, appL_length]; omega

theorem stAt_le {i j : Nat} (h : i ≤ j) : (stAt ops effs s₀ H₀ i).2.length ≤ (stAt ops effs s₀ H₀ j).2.length := by
  induction h with
  | refl => exact Nat.le_refl _
  | step _ ih => exact Nat.le_trans ih (stAt_mono _)

theorem Plan.new_inj (pl : Plan P ops effs s₀ H₀ B) {i j : Nat} (hi : i < ops.length) (hj : j < ops.length) (ni : (effAt effs i).2.new.isSome = true) (nj : (effAt effs j).2.new.isSome = true) (h : (effAt effs i).1 = (effAt effs j).1) : i = j := by
  obtain ⟨_, _, h1, _⟩ := pl.op i hi
  obtain ⟨_, _, h2, _⟩ := pl.op j hj
  rw [h1, h2] at h
  rcases Nat.lt_trichotomy i j with hlt | heq | hgt
  · have := stAt_le (ops := ops) (effs := effs) (s₀ := s₀) (H₀ := H₀) (show i + 1 ≤ j from hlt)
    simp only [stAt, appL_length, ni, if_true] at this
    omega
  · exact heq
  · have := stAt_le (ops := ops) (effs := effs) (s₀ := s₀) (H₀ := H₀) (show j + 1 ≤ i from hgt)
    simp only [stAt, appL_length, nj, if_true] at this
    omega

/-- One ready operation more. -/
theorem Plan.step (pl : Plan P ops effs s₀ H₀ B) {nt : Nat} (hdst : dstOk nt ops = true) {c : Ctx} {D : Nat → Bool} (hd : Down ops D) {i : Nat} {o : Oper} (hi : ops[i]? = some o) (hDi : D i = false)
    (hready : ∀ e ∈ o.after, Region.binds .any e = true → D e.on = true) {a : Act} {w : World} (hs : DRel ops effs s₀ H₀ c nt D a w) {K : Act → World → Prop} {Q : Exit → Act → World → Prop}
    (k : ∀ a w, DRel ops effs s₀ H₀ c nt (addD D i) a w → K a w) : wpOp P ops.toArray Q i K a w := by
  have hli := (List.getElem?_eq_some_iff.1 hi).1
  obtain ⟨m, ro, hinv, hst, hsl, hsz, hdf, hbd⟩ := hs
  have hdo := dstOk_of hdst (List.mem_of_getElem? hi)
  have hev : ∀ x ∈ o.op.operands, ev (Sof ops effs s₀ D ops.length) x = ev (stAt ops effs s₀ H₀ i).1 x := by
    intro x hx
    cases x with
    | tmp t => exact pl.slot hd hi hDi hready (by simp only [readsOf, List.mem_append, List.mem_filterMap]; exact .inl ⟨.tmp t, by simpa using hx, rfl⟩)
    | _ => rfl
  have hguard : ∀ j w' d, o.guard = some (j, w') → (ops[j]?).bind (·.dst) = some d → Sof ops effs s₀ D ops.length d = (stAt ops effs s₀ H₀ i).1 d := by
    intro j w' d hg hdj
    exact pl.slot hd hi hDi hready (by simp only [readsOf, hg, hdj, List.mem_append]; right; simp)
  obtain ⟨o₁, ho₁, hn, hcase⟩ := pl.op i hli
  rw [hi] at ho₁
  cases ho₁
  have hia : ops.toArray[i]? = some o := by simpa using hi
  unfold wpOp
  rw [hia]
  simp only
  rcases hcase with ⟨hg, hsem, hneed, hupd⟩ | ⟨⟨j, w', d, hg, hdj, hval⟩, he⟩
  · have hw : Region.wanted o (yielded ops.toArray a.tmps) = true := by
      rcases hg with hg | ⟨j, w', d, b, hg, hdj, hb, rfl⟩
      · simp [Region.wanted, hg]
      · have hS := hsl d
        rw [hguard j b d hg hdj, hb] at hS
        simp only [VRel] at hS
        rw [Array.getD_eq_getD_getElem?] at hS
        have ht : a.tmps[d]? = some (.bool b) := by
          cases h : a.tmps[d]? with
          | none => rw [h] at hS; simp [undef] at hS
          | some v => rw [h] at hS; simpa using hS
        have hy : yielded ops.toArray a.tmps j = some b := by
          unfold yielded
          rw [show (ops.toArray[j]?).bind (·.dst) = some d by simpa using hdj]
          simp [ht]
        simp [Region.wanted, hg, hy]
    rw [if_pos hw]
    left
    have hH : ∀ p ∈ (effAt effs i).2.need, Hof effs H₀ D ops.length p.1 = some p.2 := by
      intro p hp
      rw [pl.block hd hi hDi hready (.inl (by simp only [needs, List.mem_map]; exact ⟨p, hp, rfl⟩))]
      exact hneed p hp
    have hfresh : ∀ x, (effAt effs i).2.new = some x → Hof effs H₀ D ops.length (effAt effs i).1 = none ∧ ∀ g, m (effAt effs i).1 g = none := by
      intro x hx
      refine ⟨?_, fun g => ?_⟩
      · rw [pl.block hd hi hDi hready (.inr (by simp [touches, hx])), hn]
        exact List.getElem?_eq_none (Nat.le_refl _)
      · cases hm : m (effAt effs i).1 g with
        | none => rfl
        | some l =>
          exfalso
          rcases hbd _ _ _ hm with h | ⟨j, hj, hDj, hnj, hej⟩
          · have := stAt_le (ops := ops) (effs := effs) (s₀ := s₀) (H₀ := H₀) (Nat.zero_le i)
            simp only [stAt] at this
            omega
          · have := pl.new_inj hj hli hnj (by simp [hx]) hej
            subst this
            rw [hDi] at hDj
            cases hDj
    rw [← hn] at hsem
    refine hsem m ro (Hof effs H₀ D ops.length) w a hinv (fun x hx => by rw [← hev x hx]; exact ev_rel hinv.glob hsl x) hH hfresh K Q (fun m' ro' w' v' hv hi' hst' hne => ?_)
    rw [← pl.heap_add hd hi hDi hready] at hi' hst'
    refine k _ _ ⟨m', ro', hi', hst.trans hst', ?_, ?_, ?_, fun b g loc hm => ?_⟩
    · rw [pl.slot_add hd hi hDi hready]
      exact (hsl.step hinv hst').put hv (fun t ht => by rw [hsz]; exact hdo t ht)
    · cases o.dst <;> simp [Act.put, hsz]
    · cases o.dst <;> simp [Act.put, hdf]
    · by_cases hmm : m' b g = m b g
      · rw [hmm] at hm
        rcases hbd b g loc hm with h | ⟨j, hj, hDj, hnj⟩
        · exact .inl h
        · exact .inr ⟨j, hj, by simp only [addD]; split <;> simp_all, hnj⟩
      · rcases hne b g hmm with ⟨y, hy⟩ | ⟨rfl, hnew⟩
        · obtain ⟨z, hz⟩ := hupd _ hy
          have hblk := hH _ hz
          simp only at hblk
          -- the block was there: by an operation that has run, or ahead of the region
          unfold Hof at hblk
          cases hl : lastD (fun j => D j && tcs effs b j) ops.length with
          | none =>
            rw [hl] at hblk
            exact .inl (List.getElem?_eq_some_iff.1 hblk).1
          | some j =>
            -- the least operation that touched it made it, or it was there
            have : b < (stAt ops effs s₀ H₀ i).2.length := (List.getElem?_eq_some_iff.1 (hneed _ hz)).1
            -- ids of new blocks are those of operations ahead in the text
            have hex : ∀ i', i' ≤ i → b < (stAt ops effs s₀ H₀ i').2.length → b < H₀.length ∨ ∃ j, j < i' ∧ (effAt effs j).2.new.isSome = true ∧ (effAt effs j).1 = b := by
              intro i'
              induction i' with
              | zero => intro _ h; exact .inl h
              | succ i' ih =>
                intro hle h
                by_cases h' : b < (stAt ops effs s₀ H₀ i').2.length
                · rcases ih (by omega) h' with h | ⟨j, h1, h2⟩
                  · exact .inl h
                  · exact .inr ⟨j, by omega, h2⟩
                · simp only [stAt, appL_length] at h
                  have hnew : (effAt effs i').2.new.isSome = true := by
                    cases hns : (effAt effs i').2.new.isSome with
                    | true => rfl
                    | false => rw [hns] at h; simp at h; omega
                  rw [hnew] at h
                  simp only [if_true] at h
                  obtain ⟨_, _, hn', _⟩ := pl.op i' (by omega)
                  exact .inr ⟨i', by omega, hnew, by rw [hn']; omega⟩
            rcases hex i (Nat.le_refl _) this with h | ⟨j', h1, h2, h3⟩
            · exact .inl h
            · refine .inr ⟨j', by omega, ?_, h2, h3⟩
              have hlj : j' < ops.length := by omega
              obtain ⟨o', ho', _⟩ := pl.op j' hlj
              have hne' : i ≠ j' := by omega
              have ht : b ∈ touches (effAt effs j') := by
                obtain ⟨x, hx⟩ := Option.isSome_iff_exists.1 h2
                simp [touches, hx, h3]
              have hnd : b ∈ needs (effAt effs i) := by simp only [needs, List.mem_map]; exact ⟨_, hz, rfl⟩
              simp only [addD, Ne.symm hne', if_false]
              rcases pl.apart hd hi ho' hDi hready hne' with h | h | h
              · rw [h]; simpa using h1
              · simp only [indep, Bool.and_eq_true] at h
                exact (disj_of h.1.2 ht hnd).elim
              · simp only [indep, Bool.and_eq_true] at h
                exact (disj_of h.1.1.2 ht hnd).elim
        · exact .inr ⟨i, hli, by simp [addD], hnew, rfl⟩
  · have hw : Region.wanted o (yielded ops.toArray a.tmps) = false := by
      have hS := hsl d
      rw [hguard j w' d hg hdj] at hS
      rw [Array.getD_eq_getD_getElem?] at hS
      have hb' : (ops.toArray[j]?).bind (·.dst) = some d := by simpa using hdj
      rcases hval with ⟨b, hb, hbw⟩ | ⟨vs, hb⟩
      · rw [hb] at hS
        simp only [VRel] at hS
        have ht : a.tmps[d]? = some (.bool b) := by
          cases h : a.tmps[d]? with
          | none => rw [h] at hS; simp [undef] at hS
          | some v => rw [h] at hS; simpa using hS
        have hy : yielded ops.toArray a.tmps j = some b := by
          unfold yielded
          rw [hb']
          simp [ht]
        simp [Region.wanted, hg, hy, hbw]
      · rw [hb] at hS
        simp only [VRel] at hS
        obtain ⟨va, hva, _⟩ := hS
        have hy : yielded ops.toArray a.tmps j = none := by
          unfold yielded
          rw [hb']
          cases h : a.tmps[d]? with
          | none => simp [h]
          | some v => rw [h] at hva; simp at hva; subst hva; simp [h]
        simp [Region.wanted, hg, hy]
    rw [hw]
    simp only [Bool.false_eq_true, if_false]
    have happ : app (Hof effs H₀ D ops.length) (effAt effs i).1 (effAt effs i).2 = Hof effs H₀ D ops.length := by rw [he]; rfl
    refine k _ _ ⟨m, ro, ?_, ?_, ?_, ?_, ?_, fun b g loc hm => ?_⟩
    · rw [pl.heap_add hd hi hDi hready, happ]; exact hinv
    · rw [pl.heap_add hd hi hDi hready, happ]; exact hst
    · rw [pl.slot_add hd hi hDi hready, he]
      exact hsl.put (by simp only [VRel]; exact ⟨#[], rfl, by simp [VsRel]⟩) (fun t ht => by rw [hsz]; exact hdo t ht)
    · cases o.dst <;> simp [Act.put, hsz]
    · cases o.dst <;> simp [Act.put, hdf]
    · rcases hbd b g loc hm with h | ⟨j, hj, hDj, hnj⟩
      · exact .inl h
      · exact .inr ⟨j, hj, by simp only [addD]; split <;> simp_all, hnj⟩
end

end Tab
