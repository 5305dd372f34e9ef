/- Lemmas for this claim: part 7. No condition. -/
import Derived.Test.YtiflemdfnjgobaaDoorZ6
import Derived.Orders
set_option linter.unusedVariables false
set_option linter.unusedSimpArgs false
set_option linter.unusedSectionVars false
/- Regions that draw their order: operations that have no order between them touch nothing in common, so every order comes to the same state. -/
namespace Tab
open Go
variable [Globs]

def lastD (p : Nat → Bool) : Nat → Option Nat
  | 0 => none
  | n + 1 => if p n then some n else lastD p n

theorem lastD_congr {p q : Nat → Bool} : ∀ {n : Nat}, (∀ j, j < n → p j = q j) → lastD p n = lastD q n
  | 0, _ => rfl
  | n + 1, h => by
    simp only [lastD, h n (Nat.lt_succ_self n)]
    rw [lastD_congr fun j hj => h j (Nat.lt_succ_of_lt hj)]

theorem lastD_below {p q : Nat → Bool} {i : Nat} : ∀ {n : Nat}, i ≤ n → (∀ j, j < n → p j = (q j && decide (j < i))) → lastD p n = lastD q i
  | 0, h, _ => by
    have : i = 0 := by omega
    subst this
    rfl
  | n + 1, h, hp => by
    by_cases e : i = n + 1
    · subst e
      exact lastD_congr fun j hj => by rw [hp j hj]; simp [hj]
    · simp only [lastD, hp n (Nat.lt_succ_self n)]
      rw [if_neg (by simp; omega)]
      exact lastD_below (by omega) fun j hj => hp j (Nat.lt_succ_of_lt hj)

theorem lastD_none {p : Nat → Bool} : ∀ {n : Nat}, (∀ j, j < n → p j = false) → lastD p n = none
  | 0, _ => rfl
  | n + 1, h => by simp only [lastD, h n (Nat.lt_succ_self n), Bool.false_eq_true, if_false]; exact lastD_none fun j hj => h j (Nat.lt_succ_of_lt hj)

theorem lastD_some {p : Nat → Bool} {i : Nat} : ∀ {n : Nat}, i < n → p i = true → (∀ j, i < j → j < n → p j = false) → lastD p n = some i
  | 0, h, _, _ => by omega
  | n + 1, h, hi, hj => by
    by_cases e : i = n
    · subst e; simp only [lastD, hi, if_true]
    · simp only [lastD, hj n (by omega) (Nat.lt_succ_self n), Bool.false_eq_true, if_false]
      exact lastD_some (by omega) hi fun j h1 h2 => hj j h1 (Nat.lt_succ_of_lt h2)


def readsOf (ops : List Oper) (o : Oper) : List Nat :=
  (o.op.operands.toList.filterMap fun | .tmp t => some t | _ => none) ++ (match o.guard with | some (g, _) => ((ops[g]?).bind (·.dst)).toList | none => [])

def touches (x : Nat × Eff) : List Nat :=
  (match x.2.upd with | some (i, _) => [i] | none => []) ++ (match x.2.new with | some _ => [x.1] | none => [])

def needs (x : Nat × Eff) : List Nat := x.2.need.map (·.1)

def disj (a b : List Nat) : Bool := a.all fun x => b.all fun y => !(Nat.beq x y)

def dstL (o : Oper) : List Nat := o.dst.toList

def indep (ops : List Oper) (o o' : Oper) (x y : Nat × Eff) : Bool :=
  disj (dstL o) (readsOf ops o') && disj (dstL o') (readsOf ops o) && disj (dstL o) (dstL o') && disj (touches x) (needs y) && disj (touches y) (needs x) && disj (touches x) (touches y)

def maskOk (ops : List Oper) (B : Nat → Nat) : Bool :=
  (List.range ops.length).all fun j => (List.range ops.length).all fun i => !(B j).testBit i || (match ops[j]? with
    | some o => o.after.toList.any fun e => Region.binds .any e && (Nat.beq e.on i || (B e.on).testBit i)
    | none => false)

def backOk (ops : List Oper) : Bool :=
  (List.range ops.length).all fun i => match ops[i]? with
    | some o => o.after.toList.all fun e => !Region.binds .any e || Nat.blt e.on i
    | none => true

def pairsOk (ops : List Oper) (B : Nat → Nat) (effs : List (Nat × Eff)) : Bool :=
  (List.range ops.length).all fun j => (List.range j).all fun i => (B j).testBit i || (match ops[i]?, ops[j]?, effs[i]?, effs[j]? with
    | some o, some o', some x, some y => indep ops o o' x y
    | _, _, _, _ => false)

def drawOk (ops : List Oper) (effs : List (Nat × Eff)) : Bool :=
  let m := Region.before ops.toArray
  maskOk ops (fun j => m.getD j 0) && backOk ops && pairsOk ops (fun j => m.getD j 0) effs

theorem disj_of {a b : List Nat} (h : disj a b = true) {x : Nat} (ha : x ∈ a) (hb : x ∈ b) : False := by
  simp only [disj, List.all_eq_true] at h
  have := h x ha x hb
  simp at this


def OpCase (P : Program) (ops : List Oper) (o : Oper) (s : Slots) (H : List Blk) (e : Eff) : Prop :=
  (((o.guard = none) ∨ (∃ j w d b, o.guard = some (j, w) ∧ (ops[j]?).bind (·.dst) = some d ∧ s d = .bool b ∧ b = w)) ∧
      OpSem P o (ev s) H.length e ∧ (∀ p ∈ e.need, H[p.1]? = some p.2) ∧ (∀ p, e.upd = some p → ∃ y, (p.1, y) ∈ e.need)) ∨
  ((∃ j w d, o.guard = some (j, w) ∧ (ops[j]?).bind (·.dst) = some d ∧ ((∃ b, s d = .bool b ∧ b ≠ w) ∨ ∃ vs, s d = .tup vs)) ∧ e = { v := .tup [] })

inductive Tr (P : Program) (ops : List Oper) : List Oper → Slots → List Blk → List (Nat × Eff) → Slots → List Blk → Prop
  | nil {s H} : Tr P ops [] s H [] s H
  | cons {o os s H e tr s' H'} (h : OpCase P ops o s H e) (t : Tr P ops os (updo s o.dst e.v) (appL H e) tr s' H') : Tr P ops (o :: os) s H ((H.length, e) :: tr) s' H'

section
variable (ops : List Oper) (effs : List (Nat × Eff)) (s₀ : Slots) (H₀ : List Blk)

def dstAt (j : Nat) : Option Nat := (ops[j]?).bind (·.dst)
def effAt (j : Nat) : Nat × Eff := effs.getD j (0, { v := .junk })

def stAt : Nat → Slots × List Blk
  | 0 => (s₀, H₀)
  | i + 1 => (updo (stAt i).1 (dstAt ops i) (effAt effs i).2.v, appL (stAt i).2 (effAt effs i).2)

def tch (j b : Nat) : Option Blk :=
  match (effAt effs j).2.new with
  | some x => if b = (effAt effs j).1 then some x else match (effAt effs j).2.upd with
    | some (i, y) => if b = i then some y else none
    | none => none
  | none => match (effAt effs j).2.upd with
    | some (i, y) => if b = i then some y else none
    | none => none

def wr (x j : Nat) : Bool := decide (dstAt ops j = some x)
def tcs (b j : Nat) : Bool := (tch effs j b).isSome

def Sof (D : Nat → Bool) (N : Nat) (x : Nat) : AV :=
  match lastD (fun j => D j && wr ops x j) N with
  | some j => (effAt effs j).2.v
  | none => s₀ x

def Hof (D : Nat → Bool) (N : Nat) (b : Nat) : Option Blk :=
  match lastD (fun j => D j && tcs effs b j) N with
  | some j => tch effs j b
  | none => lk H₀ b
end

theorem tch_mem {effs : List (Nat × Eff)} {j b : Nat} (h : tcs effs b j = true) : b ∈ touches (effAt effs j) := by
  unfold tcs tch at h
  unfold touches
  cases hn : (effAt effs j).2.new <;> cases hu : (effAt effs j).2.upd <;> simp only [hn, hu] at h ⊢
  case none.none => simp at h
  case none.some p =>
    by_cases e : b = p.1
    · simp [e]
    · simp [e] at h
  case some.none x =>
    by_cases e : b = (effAt effs j).1
    · simp [e]
    · simp [e] at h
  case some.some x p =>
    by_cases e : b = (effAt effs j).1
    · simp [e]
    · by_cases e2 : b = p.1
      · simp [e2]
      · simp [e, e2] at h

theorem app_tch {effs : List (Nat × Eff)} {H : Hp} {j : Nat} (b : Nat) : app H (effAt effs j).1 (effAt effs j).2 b = if tcs effs b j then tch effs j b else H b := by
  unfold app tcs tch
  cases (effAt effs j).2.new with
  | some x =>
    simp only
    by_cases e : b = (effAt effs j).1
    · simp [e]
    · simp only [e, if_false]
      cases (effAt effs j).2.upd with
      | some p =>
        obtain ⟨i, y⟩ := p
        simp only
        by_cases e2 : b = i <;> simp [e2]
      | none => simp
  | none =>
    simp only
    cases (effAt effs j).2.upd with
    | some p =>
      obtain ⟨i, y⟩ := p
      simp only
      by_cases e2 : b = i <;> simp [e2]
    | none => simp

theorem updo_at {s : Slots} {d : Option Nat} {v : AV} (x : Nat) : updo s d v x = if d = some x then v else s x := by
  cases d with
  | none => simp [updo]
  | some t =>
    simp only [updo, upd, Option.some.injEq]
    by_cases e : x = t
    · subst e; simp
    · have : Nat.beq x t = false := by rw [← Bool.not_eq_true]; intro h; exact e (Nat.eq_of_beq_eq_true h)
      rw [this, if_neg (Ne.symm e)]
      rfl

theorem OpCase.updlt {P ops o s H e} (h : OpCase P ops o s H e) : ∀ p, e.upd = some p → p.1 < H.length := by
  intro p hp
  rcases h with ⟨_, _, hn, hu⟩ | ⟨_, rfl⟩
  · obtain ⟨y, hy⟩ := hu p hp
    exact (List.getElem?_eq_some_iff.1 (hn _ hy)).1
  · simp at hp

theorem Tr.facts {P : Program} {ops : List Oper} : ∀ {rest : List Oper} {s H tr s' H'}, Tr P ops rest s H tr s' H' →
    tr.length = rest.length ∧ stAt rest tr s H rest.length = (s', H') ∧
      ∀ i, i < rest.length → ∃ o, rest[i]? = some o ∧ (effAt tr i).1 = (stAt rest tr s H i).2.length ∧ OpCase P ops o (stAt rest tr s H i).1 (stAt rest tr s H i).2 (effAt tr i).2 := by
  intro rest s H tr s' H' h
  induction h with
  | nil => exact ⟨rfl, rfl, fun i hi => by simp at hi⟩
  | @cons o os s H e tr s' H' h t ih =>
    obtain ⟨h1, h2, h3⟩ := ih
    have hshift : ∀ i, stAt (o :: os) ((H.length, e) :: tr) s H (i + 1) = stAt os tr (updo s o.dst e.v) (appL H e) i := by
      intro i
      induction i with
      | zero => rfl
      | succ i ih =>
        rw [stAt, ih]
        simp only [stAt, dstAt, effAt, List.getElem?_cons_succ, List.getD_cons_succ]
    refine ⟨by simp [h1], by rw [List.length_cons, hshift]; exact h2, fun i hi => ?_⟩
    cases i with
    | zero => exact ⟨o, rfl, rfl, h⟩
    | succ i =>
      obtain ⟨o', k1, k2, k3⟩ := h3 i (by simpa using hi)
      refine ⟨o', by simpa using k1, ?_, ?_⟩
      · rw [hshift]; simpa [effAt] using k2
      · rw [hshift]; simpa [effAt] using k3

section
variable {P : Program} {ops : List Oper} {effs : List (Nat × Eff)} {s₀ : Slots} {H₀ : List Blk} {B : Nat → Nat}

theorem stAt_slot (i x : Nat) : (stAt ops effs s₀ H₀ i).1 x = match lastD (wr ops x) i with | some j => (effAt effs j).2.v | none => s₀ x := by
  induction i with
  | zero => rfl
  | succ i ih =>
    simp only [stAt, updo_at, lastD, wr, decide_eq_true_eq]
    split
    · rfl
    · exact ih

theorem stAt_heap (hf : ∀ i, i < ops.length → (effAt effs i).1 = (stAt ops effs s₀ H₀ i).2.length ∧ ∀ p, (effAt effs i).2.upd = some p → p.1 < (stAt ops effs s₀ H₀ i).2.length) :
    ∀ (i b : Nat), i ≤ ops.length → lk (stAt ops effs s₀ H₀ i).2 b = match lastD (tcs effs b) i with | some j => tch effs j b | none => lk H₀ b := by
  intro i
  induction i with
  | zero => intro b _; rfl
  | succ i ih =>
    intro b hi
    obtain ⟨h1, h2⟩ := hf i (by omega)
    simp only [stAt, lastD]
    rw [appL_lk h2, ← h1, app_tch, ih b (by omega)]
    split <;> rfl

structure Plan (P : Program) (ops : List Oper) (effs : List (Nat × Eff)) (s₀ : Slots) (H₀ : List Blk) (B : Nat → Nat) : Prop where
  len : effs.length = ops.length
  op : ∀ i, i < ops.length → ∃ o, ops[i]? = some o ∧ (effAt effs i).1 = (stAt ops effs s₀ H₀ i).2.length ∧ OpCase P ops o (stAt ops effs s₀ H₀ i).1 (stAt ops effs s₀ H₀ i).2 (effAt effs i).2
  mask : ∀ j i, j < ops.length → i < ops.length → (B j).testBit i = true → ∃ o e, ops[j]? = some o ∧ e ∈ o.after ∧ Region.binds .any e = true ∧ (e.on = i ∨ (B e.on).testBit i = true)
  back : ∀ i o e, ops[i]? = some o → e ∈ o.after → Region.binds .any e = true → e.on < i
  pair : ∀ i j o o', i < j → ops[i]? = some o → ops[j]? = some o' → (B j).testBit i = true ∨ indep ops o o' (effAt effs i) (effAt effs j) = true

def Down (ops : List Oper) (D : Nat → Bool) : Prop := ∀ j o e, D j = true → ops[j]? = some o → e ∈ o.after → Region.binds .any e = true → D e.on = true

theorem Plan.down (pl : Plan P ops effs s₀ H₀ B) {D : Nat → Bool} (hd : Down ops D) : ∀ j, j < ops.length → D j = true → ∀ i, i < ops.length → (B j).testBit i = true → D i = true := by
  intro j
  induction j using Nat.strongRecOn with
  | _ j ih =>
    intro hj hDj i hi hb
    obtain ⟨o, e, ho, he, hbind, h⟩ := pl.mask j i hj hi hb
    have hon := hd j o e hDj ho he hbind
    have hlt := pl.back j o e ho he hbind
    rcases h with h | h
    · rw [← h]; exact hon
    · exact ih e.on hlt (by omega) hon i hi h

theorem Plan.apart (pl : Plan P ops effs s₀ H₀ B) {D : Nat → Bool} (hd : Down ops D) {i j : Nat} {o o' : Oper} (hi : ops[i]? = some o) (hj : ops[j]? = some o') (hDi : D i = false)
    (hready : ∀ e ∈ o.after, Region.binds .any e = true → D e.on = true) (hne : i ≠ j) :
    (D j = decide (j < i)) ∨ (indep ops o o' (effAt effs i) (effAt effs j) = true ∨ indep ops o' o (effAt effs j) (effAt effs i) = true) := by
  have li : i < ops.length := (List.getElem?_eq_some_iff.1 hi).1
  have lj : j < ops.length := (List.getElem?_eq_some_iff.1 hj).1
  rcases Nat.lt_or_gt_of_ne hne with h | h
  · rcases pl.pair i j o o' h hi hj with hb | hb
    · left
      have : ¬ j < i := by omega
      simp only [this, decide_false]
      cases hDj : D j with
      | false => rfl
      | true => rw [pl.down hd j lj hDj i li hb] at hDi; cases hDi
    · exact .inr (.inl hb)
  · rcases pl.pair j i o' o h hj hi with hb | hb
    · left
      simp only [h, decide_true]
      obtain ⟨o₁, e, ho₁, he, hbind, hh⟩ := pl.mask i j li lj hb
      rw [hi] at ho₁
      cases ho₁
      have hon := hready e he hbind
      rcases hh with hh | hh
      · rw [← hh]; exact hon
      · exact pl.down hd e.on (by have := pl.back i o e hi he hbind; omega) hon j lj hh
    · exact .inr (.inr hb)

theorem Plan.updlt (pl : Plan P ops effs s₀ H₀ B) : ∀ i, i < ops.length → (effAt effs i).1 = (stAt ops effs s₀ H₀ i).2.length ∧ ∀ p, (effAt effs i).2.upd = some p → p.1 < (stAt ops effs s₀ H₀ i).2.length := by
  intro i hi
  obtain ⟨o, _, h1, h2⟩ := pl.op i hi
  exact ⟨h1, h2.updlt⟩

theorem dst_of {i x : Nat} {o : Oper} (hi : ops[i]? = some o) (h : wr ops x i = true) : x ∈ dstL o := by
  simp only [wr, dstAt, hi, Option.bind_some, decide_eq_true_eq] at h
  simp [dstL, h]

theorem Plan.slot (pl : Plan P ops effs s₀ H₀ B) {D : Nat → Bool} (hd : Down ops D) {i : Nat} {o : Oper} (hi : ops[i]? = some o) (hDi : D i = false) (hready : ∀ e ∈ o.after, Region.binds .any e = true → D e.on = true)
    {x : Nat} (hx : x ∈ readsOf ops o) : Sof ops effs s₀ D ops.length x = (stAt ops effs s₀ H₀ i).1 x := by
  rw [stAt_slot]
  unfold Sof
  rw [lastD_below (q := wr ops x) (i := i) (Nat.le_of_lt (List.getElem?_eq_some_iff.1 hi).1)]
  intro j hj
  by_cases hw : wr ops x j = true
  · rw [hw, Bool.and_true, Bool.true_and]
    by_cases e : i = j
    · subst e; simp [hDi]
    · obtain ⟨o', ho', _⟩ := pl.op j hj
      have hm := dst_of ho' hw
      rcases pl.apart hd hi ho' hDi hready e with h | h | h
      · exact h
      · simp only [indep, Bool.and_eq_true] at h
        exact (disj_of h.1.1.1.1.2 hm hx).elim
      · simp only [indep, Bool.and_eq_true] at h
        exact (disj_of h.1.1.1.1.1 hm hx).elim
  · simp only [Bool.not_eq_true] at hw
    simp [hw]

theorem Plan.block (pl : Plan P ops effs s₀ H₀ B) {D : Nat → Bool} (hd : Down ops D) {i : Nat} {o : Oper} (hi : ops[i]? = some o) (hDi : D i = false) (hready : ∀ e ∈ o.after, Region.binds .any e = true → D e.on = true)
    {b : Nat} (hx : b ∈ needs (effAt effs i) ∨ b ∈ touches (effAt effs i)) : Hof effs H₀ D ops.length b = lk (stAt ops effs s₀ H₀ i).2 b := by
  have hli := (List.getElem?_eq_some_iff.1 hi).1
  rw [stAt_heap pl.updlt i b (Nat.le_of_lt hli)]
  unfold Hof
  rw [lastD_below (q := tcs effs b) (i := i) (Nat.le_of_lt hli)]
  intro j hj
  by_cases hw : tcs effs b j = true
  · rw [hw, Bool.and_true, Bool.true_and]
    by_cases e : i = j
    · subst e; simp [hDi]
    · obtain ⟨o', ho', _⟩ := pl.op j hj
      have hm := tch_mem hw
      rcases pl.apart hd hi ho' hDi hready e with h | h | h
      · exact h
      · simp only [indep, Bool.and_eq_true] at h
        rcases hx with hx | hx
        · exact (disj_of h.1.2 hm hx).elim
        · exact (disj_of h.2 hx hm).elim
      · simp only [indep, Bool.and_eq_true] at h
        rcases hx with hx | hx
        · exact (disj_of h.1.1.2 hm hx).elim
        · exact (disj_of h.2 hm hx).elim
  · simp only [Bool.not_eq_true] at hw
    simp [hw]

def addD (D : Nat → Bool) (i : Nat) : Nat → Bool := fun j => if j = i then true else D j

theorem Plan.slot_add (pl : Plan P ops effs s₀ H₀ B) {D : Nat → Bool} (hd : Down ops D) {i : Nat} {o : Oper} (hi : ops[i]? = some o) (hDi : D i = false) (hready : ∀ e ∈ o.after, Region.binds .any e = true → D e.on = true) :
    Sof ops effs s₀ (addD D i) ops.length = updo (Sof ops effs s₀ D ops.length) o.dst (effAt effs i).2.v := by
  have hli := (List.getElem?_eq_some_iff.1 hi).1
  have hdst : dstAt ops i = o.dst := by simp [dstAt, hi]
  funext x
  rw [updo_at]
  by_cases hx : o.dst = some x
  · rw [if_pos hx]
    unfold Sof
    rw [lastD_some hli (by simp [addD, wr, hdst, hx])]
    intro j hij hj
    by_cases hw : wr ops x j = true
    · have hne : j ≠ i := by omega
      simp only [addD, hne, if_false, hw, Bool.and_true]
      obtain ⟨o', ho', _⟩ := pl.op j hj
      have hm := dst_of ho' hw
      have hm' : x ∈ dstL o := by simp [dstL, hx]
      rcases pl.apart hd hi ho' hDi hready (Ne.symm hne) with h | h | h
      · rw [h]; simp; omega
      · simp only [indep, Bool.and_eq_true] at h
        exact (disj_of h.1.1.1.2 hm' hm).elim
      · simp only [indep, Bool.and_eq_true] at h
        exact (disj_of h.1.1.1.2 hm hm').elim
    · simp only [Bool.not_eq_true] at hw
      simp [hw]
  · rw [if_neg hx]
    unfold Sof
    rw [lastD_congr (q := fun j => D j && wr ops x j)]
    intro j _
    by_cases e : j = i
    · subst e
      have : wr ops x j = false := by simp [wr, hdst, hx]
      simp [this]
    · simp [addD, e]

theorem Plan.heap_add (pl : Plan P ops effs s₀ H₀ B) {D : Nat → Bool} (hd : Down ops D) {i : Nat} {o : Oper} (hi : ops[i]? = some o) (hDi : D i = false) (hready : ∀ e ∈ o.after, Region.binds .any e = true → D e.on = true) :
    Hof effs H₀ (addD D i) ops.length = app (Hof effs H₀ D ops.length) (effAt effs i).1 (effAt effs i).2 := by
  have hli := (List.getElem?_eq_some_iff.1 hi).1
  funext b
  rw [app_tch]
  by_cases hx : tcs effs b i = true
  · rw [if_pos hx]
    unfold Hof
    rw [lastD_some hli (by simp [addD, hx])]
    intro j hij hj
    by_cases hw : tcs effs b j = true
    · have hne : j ≠ i := by omega
      simp only [addD, hne, if_false, hw, Bool.and_true]
      obtain ⟨o', ho', _⟩ := pl.op j hj
      have hm := tch_mem hw
      have hm' := tch_mem hx
      rcases pl.apart hd hi ho' hDi hready (Ne.symm hne) with h | h | h
      · rw [h]; simp; omega
      · simp only [indep, Bool.and_eq_true] at h
        exact (disj_of h.2 hm' hm).elim
      · simp only [indep, Bool.and_eq_true] at h
        exact (disj_of h.2 hm hm').elim
    · simp only [Bool.not_eq_true] at hw
      simp [hw]
  · rw [if_neg hx]
    simp only [Bool.not_eq_true] at hx
    unfold Hof
    rw [lastD_congr (q := fun j => D j && tcs effs b j)]
    intro j _
    by_cases e : j = i
    · subst e; simp [hx]
    · simp [addD, e]

def DRel (ops : List Oper) (effs : List (Nat × Eff)) (s₀ : Slots) (H₀ : List Blk) (c : Ctx) (nt : Nat) (D : Nat → Bool) (a : Act) (w : World) : Prop :=
  ∃ m ro, Inv m ro (Hof effs H₀ D ops.length) w ∧ Step c.m c.ro (lk c.H) c.w m ro (Hof effs H₀ D ops.length) w ∧ SlotsRel m ro w (Sof ops effs s₀ D ops.length) a ∧ a.tmps.size = nt ∧ a.defers = c.ds ∧
    ∀ b g loc, m b g = some loc → b < H₀.length ∨ ∃ j, j < ops.length ∧ D j = true ∧ (effAt effs j).2.new.isSome = true ∧ (effAt effs j).1 = b

theorem stAt_mono (i : Nat) : (stAt ops effs s₀ H₀ i).2.length ≤ (stAt ops effs s₀ H₀ (i + 1)).2.length := by
  simp only [stAt, appL_length]; omega

theorem stAt_le {i j : Nat} (h : i ≤ j) : (stAt ops effs s₀ H₀ i).2.length ≤ (stAt ops effs s₀ H₀ j).2.length := by
  induction h with
  | refl => exact Nat.le_refl _
  | step _ ih => exact Nat.le_trans ih (stAt_mono _)

theorem Plan.new_inj (pl : Plan P ops effs s₀ H₀ B) {i j : Nat} (hi : i < ops.length) (hj : j < ops.length) (ni : (effAt effs i).2.new.isSome = true) (nj : (effAt effs j).2.new.isSome = true) (h : (effAt effs i).1 = (effAt effs j).1) : i = j := by
  obtain ⟨_, _, h1, _⟩ := pl.op i hi
  obtain ⟨_, _, h2, _⟩ := pl.op j hj
  rw [h1, h2] at h
  rcases Nat.lt_trichotomy i j with hlt | heq | hgt
  · have := stAt_le (ops := ops) (effs := effs) (s₀ := s₀) (H₀ := H₀) (show i + 1 ≤ j from hlt)
    simp only [stAt, appL_length, ni, if_true] at this
    omega
  · exact heq
  · have := stAt_le (ops := ops) (effs := effs) (s₀ := s₀) (H₀ := H₀) (show j + 1 ≤ i from hgt)
    simp only [stAt, appL_length, nj, if_true] at this
    omega

theorem Plan.step (pl : Plan P ops effs s₀ H₀ B) {nt : Nat} (hdst : dstOk nt ops = true) {c : Ctx} {D : Nat → Bool} (hd : Down ops D) {i : Nat} {o : Oper} (hi : ops[i]? = some o) (hDi : D i = false)
    (hready : ∀ e ∈ o.after, Region.binds .any e = true → D e.on = true) {a : Act} {w : World} (hs : DRel ops effs s₀ H₀ c nt D a w) {K : Act → World → Prop} {Q : Exit → Act → World → Prop}
    (k : ∀ a w, DRel ops effs s₀ H₀ c nt (addD D i) a w → K a w) : wpOp P ops.toArray Q i K a w := by
  have hli := (List.getElem?_eq_some_iff.1 hi).1
  obtain ⟨m, ro, hinv, hst, hsl, hsz, hdf, hbd⟩ := hs
  have hdo := dstOk_of hdst (List.mem_of_getElem? hi)
  have hev : ∀ x ∈ o.op.operands, ev (Sof ops effs s₀ D ops.length) x = ev (stAt ops effs s₀ H₀ i).1 x := by
    intro x hx
    cases x with
    | tmp t => exact pl.slot hd hi hDi hready (by simp only [readsOf, List.mem_append, List.mem_filterMap]; exact .inl ⟨.tmp t, by simpa using hx, rfl⟩)
    | _ => rfl
  have hguard : ∀ j w' d, o.guard = some (j, w') → (ops[j]?).bind (·.dst) = some d → Sof ops effs s₀ D ops.length d = (stAt ops effs s₀ H₀ i).1 d := by
    intro j w' d hg hdj
    exact pl.slot hd hi hDi hready (by simp only [readsOf, hg, hdj, List.mem_append]; right; simp)
  obtain ⟨o₁, ho₁, hn, hcase⟩ := pl.op i hli
  rw [hi] at ho₁
  cases ho₁
  have hia : ops.toArray[i]? = some o := by simpa using hi
  unfold wpOp
  rw [hia]
  simp only
  rcases hcase with ⟨hg, hsem, hneed, hupd⟩ | ⟨⟨j, w', d, hg, hdj, hval⟩, he⟩
  · have hw : Region.wanted o (yielded ops.toArray a.tmps) = true := by
      rcases hg with hg | ⟨j, w', d, b, hg, hdj, hb, rfl⟩
      · simp [Region.wanted, hg]
      · have hS := hsl d
        rw [hguard j b d hg hdj, hb] at hS
        simp only [VRel] at hS
        rw [Array.getD_eq_getD_getElem?] at hS
        have ht : a.tmps[d]? = some (.bool b) := by
          cases h : a.tmps[d]? with
          | none => rw [h] at hS; simp [undef] at hS
          | some v => rw [h] at hS; simpa using hS
        have hy : yielded ops.toArray a.tmps j = some b := by
          unfold yielded
          rw [show (ops.toArray[j]?).bind (·.dst) = some d by simpa using hdj]
          simp [ht]
        simp [Region.wanted, hg, hy]
    rw [if_pos hw]
    left
    have hH : ∀ p ∈ (effAt effs i).2.need, Hof effs H₀ D ops.length p.1 = some p.2 := by
      intro p hp
      rw [pl.block hd hi hDi hready (.inl (by simp only [needs, List.mem_map]; exact ⟨p, hp, rfl⟩))]
      exact hneed p hp
    have hfresh : ∀ x, (effAt effs i).2.new = some x → Hof effs H₀ D ops.length (effAt effs i).1 = none ∧ ∀ g, m (effAt effs i).1 g = none := by
      intro x hx
      refine ⟨?_, fun g => ?_⟩
      · rw [pl.block hd hi hDi hready (.inr (by simp [touches, hx])), hn]
        exact List.getElem?_eq_none (Nat.le_refl _)
      · cases hm : m (effAt effs i).1 g with
        | none => rfl
        | some l =>
          exfalso
          rcases hbd _ _ _ hm with h | ⟨j, hj, hDj, hnj, hej⟩
          · have := stAt_le (ops := ops) (effs := effs) (s₀ := s₀) (H₀ := H₀) (Nat.zero_le i)
            simp only [stAt] at this
            omega
          · have := pl.new_inj hj hli hnj (by simp [hx]) hej
            subst this
            rw [hDi] at hDj
            cases hDj
    rw [← hn] at hsem
    refine hsem m ro (Hof effs H₀ D ops.length) w a hinv (fun x hx => by rw [← hev x hx]; exact ev_rel hinv.glob hsl x) hH hfresh K Q (fun m' ro' w' v' hv hi' hst' hne => ?_)
    rw [← pl.heap_add hd hi hDi hready] at hi' hst'
    refine k _ _ ⟨m', ro', hi', hst.trans hst', ?_, ?_, ?_, fun b g loc hm => ?_⟩
    · rw [pl.slot_add hd hi hDi hready]
      exact (hsl.step hinv hst').put hv (fun t ht => by rw [hsz]; exact hdo t ht)
    · cases o.dst <;> simp [Act.put, hsz]
    · cases o.dst <;> simp [Act.put, hdf]
    · by_cases hmm : m' b g = m b g
      · rw [hmm] at hm
        rcases hbd b g loc hm with h | ⟨j, hj, hDj, hnj⟩
        · exact .inl h
        · exact .inr ⟨j, hj, by simp only [addD]; split <;> simp_all, hnj⟩
      · rcases hne b g hmm with ⟨y, hy⟩ | ⟨rfl, hnew⟩
        · obtain ⟨z, hz⟩ := hupd _ hy
          have hblk := hH _ hz
          simp only at hblk
          -- the block was there: by an operation that has run, or ahead of the region
          unfold Hof at hblk
          cases hl : lastD (fun j => D j && tcs effs b j) ops.length with
          | none =>
            rw [hl] at hblk
            exact .inl (List.getElem?_eq_some_iff.1 hblk).1
          | some j =>
            -- the least operation that touched it made it, or it was there
            have : b < (stAt ops effs s₀ H₀ i).2.length := (List.getElem?_eq_some_iff.1 (hneed _ hz)).1
            -- ids of new blocks are those of operations ahead in the text
            have hex : ∀ i', i' ≤ i → b < (stAt ops effs s₀ H₀ i').2.length → b < H₀.length ∨ ∃ j, j < i' ∧ (effAt effs j).2.new.isSome = true ∧ (effAt effs j).1 = b := by
              intro i'
              induction i' with
              | zero => intro _ h; exact .inl h
              | succ i' ih =>
                intro hle h
                by_cases h' : b < (stAt ops effs s₀ H₀ i').2.length
                · rcases ih (by omega) h' with h | ⟨j, h1, h2⟩
                  · exact .inl h
                  · exact .inr ⟨j, by omega, h2⟩
                · simp only [stAt, appL_length] at h
                  have hnew : (effAt effs i').2.new.isSome = true := by
                    cases hns : (effAt effs i').2.new.isSome with
                    | true => rfl
                    | false => rw [hns] at h; simp at h; omega
                  rw [hnew] at h
                  simp only [if_true] at h
                  obtain ⟨_, _, hn', _⟩ := pl.op i' (by omega)
                  exact .inr ⟨i', by omega, hnew, by rw [hn']; omega⟩
            rcases hex i (Nat.le_refl _) this with h | ⟨j', h1, h2, h3⟩
            · exact .inl h
            · refine .inr ⟨j', by omega, ?_, h2, h3⟩
              have hlj : j' < ops.length := by omega
              obtain ⟨o', ho', _⟩ := pl.op j' hlj
              have hne' : i ≠ j' := by omega
              have ht : b ∈ touches (effAt effs j') := by
                obtain ⟨x, hx⟩ := Option.isSome_iff_exists.1 h2
                simp [touches, hx, h3]
              have hnd : b ∈ needs (effAt effs i) := by simp only [needs, List.mem_map]; exact ⟨_, hz, rfl⟩
              simp only [addD, Ne.symm hne', if_false]
              rcases pl.apart hd hi ho' hDi hready hne' with h | h | h
              · rw [h]; simpa using h1
              · simp only [indep, Bool.and_eq_true] at h
                exact (disj_of h.1.2 ht hnd).elim
              · simp only [indep, Bool.and_eq_true] at h
                exact (disj_of h.1.1.2 ht hnd).elim
        · exact .inr ⟨i, hli, by simp [addD], hnew, rfl⟩
  · have hw : Region.wanted o (yielded ops.toArray a.tmps) = false := by
      have hS := hsl d
      rw [hguard j w' d hg hdj] at hS
      rw [Array.getD_eq_getD_getElem?] at hS
      have hb' : (ops.toArray[j]?).bind (·.dst) = some d := by simpa using hdj
      rcases hval with ⟨b, hb, hbw⟩ | ⟨vs, hb⟩
      · rw [hb] at hS
        simp only [VRel] at hS
        have ht : a.tmps[d]? = some (.bool b) := by
          cases h : a.tmps[d]? with
          | none => rw [h] at hS; simp [undef] at hS
          | some v => rw [h] at hS; simpa using hS
        have hy : yielded ops.toArray a.tmps j = some b := by
          unfold yielded
          rw [hb']
          simp [ht]
        simp [Region.wanted, hg, hy, hbw]
      · rw [hb] at hS
        simp only [VRel] at hS
        obtain ⟨va, hva, _⟩ := hS
        have hy : yielded ops.toArray a.tmps j = none := by
          unfold yielded
          rw [hb']
          cases h : a.tmps[d]? with
          | none => simp [h]
          | some v => rw [h] at hva; simp at hva; subst hva; simp [h]
        simp [Region.wanted, hg, hy]
    rw [hw]
    simp only [Bool.false_eq_true, if_false]
    have happ : app (Hof effs H₀ D ops.length) (effAt effs i).1 (effAt effs i).2 = Hof effs H₀ D ops.length := by rw [he]; rfl
    refine k _ _ ⟨m, ro, ?_, ?_, ?_, ?_, ?_, fun b g loc hm => ?_⟩
    · rw [pl.heap_add hd hi hDi hready, happ]; exact hinv
    · rw [pl.heap_add hd hi hDi hready, happ]; exact hst
    · rw [pl.slot_add hd hi hDi hready, he]
      exact hsl.put (by simp only [VRel]; exact ⟨#[], rfl, by simp [VsRel]⟩) (fun t ht => by rw [hsz]; exact hdo t ht)
    · cases o.dst <;> simp [Act.put, hsz]
    · cases o.dst <;> simp [Act.put, hdf]
    · rcases hbd b g loc hm with h | ⟨j, hj, hDj, hnj⟩
      · exact .inl h
      · exact .inr ⟨j, hj, by simp only [addD]; split <;> simp_all, hnj⟩
end

end Tab

/- Regions that draw their order: the verification condition. -/
namespace Tab
open Go
variable [Globs]

section
variable {P : Program} {ops : List Oper} {effs : List (Nat × Eff)} {s₀ : Slots} {H₀ : List Blk} {B : Nat → Nat}

theorem DRel.zero {c : Ctx} {nt : Nat} {a : Act} {w : World} (h : SRel c nt s₀ H₀ a w) {D : Nat → Bool} (hD : ∀ j, j < ops.length → D j = false) : DRel ops effs s₀ H₀ c nt D a w := by
  obtain ⟨m, ro, hi, hst, hsl, hsz, hd⟩ := h
  have h1 : Hof effs H₀ D ops.length = lk H₀ := by
    funext b
    unfold Hof
    rw [lastD_none fun j hj => by simp [hD j hj]]
  have h2 : Sof ops effs s₀ D ops.length = s₀ := by
    funext x
    unfold Sof
    rw [lastD_none fun j hj => by simp [hD j hj]]
  exact ⟨m, ro, by rw [h1]; exact hi.inv, by rw [h1]; exact hst, by rw [h2]; exact hsl, hsz, hd, fun b g loc hm => .inl (hi.bound b g loc hm)⟩

theorem Plan.all (pl : Plan P ops effs s₀ H₀ B) {c : Ctx} {nt : Nat} {a : Act} {w : World} {D : Nat → Bool} (hD : ∀ j, j < ops.length → D j = true) (h : DRel ops effs s₀ H₀ c nt D a w) :
    SRel c nt (stAt ops effs s₀ H₀ ops.length).1 (stAt ops effs s₀ H₀ ops.length).2 a w := by
  obtain ⟨m, ro, hi, hst, hsl, hsz, hd, hb⟩ := h
  have h1 : Hof effs H₀ D ops.length = lk (stAt ops effs s₀ H₀ ops.length).2 := by
    funext b
    rw [stAt_heap pl.updlt _ _ (Nat.le_refl _)]
    unfold Hof
    rw [lastD_congr (q := tcs effs b) fun j hj => by simp [hD j hj]]
  have h2 : Sof ops effs s₀ D ops.length = (stAt ops effs s₀ H₀ ops.length).1 := by
    funext x
    rw [stAt_slot]
    unfold Sof
    rw [lastD_congr (q := wr ops x) fun j hj => by simp [hD j hj]]
  rw [h1] at hi hst
  rw [h2] at hsl
  refine ⟨m, ro, ⟨hi, fun b g loc hm => ?_⟩, hst, hsl, hsz, hd⟩
  rcases hb b g loc hm with h | ⟨j, hj, _, hnew, hn⟩
  · exact Nat.lt_of_lt_of_le h (stAt_le (i := 0) (Nat.zero_le _))
  · obtain ⟨_, _, hn', _⟩ := pl.op j hj
    have := stAt_le (ops := ops) (effs := effs) (s₀ := s₀) (H₀ := H₀) (show j + 1 ≤ ops.length from hj)
    simp only [stAt, appL_length, hnew, if_true] at this
    omega

theorem ready_iff {listed : Array Bool} {i : Nat} : i ∈ Region.ready .any ops.toArray listed ↔
    i < ops.length ∧ listed.getD i true = false ∧ ∃ o, ops[i]? = some o ∧ ∀ e ∈ o.after, Region.binds .any e = true → listed.getD e.on false = true := by
  simp only [Region.ready, List.mem_filter, List.mem_range, List.size_toArray, Bool.and_eq_true, Bool.not_eq_true']
  constructor
  · rintro ⟨h1, h2, h3⟩
    refine ⟨h1, h2, ops[i], by simp [h1], fun e he hb => ?_⟩
    simp only [List.getElem?_toArray, List.getElem?_eq_getElem h1, Option.map_some, Option.getD_some, Array.all_eq_true_iff_forall_mem] at h3
    have := h3 e he
    simpa [hb] using this
  · rintro ⟨h1, h2, o, ho, h3⟩
    refine ⟨h1, h2, ?_⟩
    simp only [List.getElem?_toArray, ho, Option.map_some, Option.getD_some, Array.all_eq_true_iff_forall_mem]
    intro e he
    cases hb : Region.binds .any e with
    | false => rfl
    | true => simpa using h3 e he hb

theorem Plan.any (pl : Plan P ops effs s₀ H₀ B) {nt : Nat} (hdst : dstOk nt ops = true) {c : Ctx} {K : Post} (hK : K .normal (stAt ops effs s₀ H₀ ops.length).1 (stAt ops effs s₀ H₀ ops.length).2) :
    ∀ (fuel : Nat) (listed : Array Bool) (a : Act) (w : World), listed.size = ops.length → (List.range ops.length).countP (fun i => !listed.getD i true) ≤ fuel → Down ops (fun j => listed.getD j true) →
      DRel ops effs s₀ H₀ c nt (fun j => listed.getD j true) a w → wpAny P .any ops.toArray (lift c nt K) fuel listed a w := by
  have fin : ∀ (listed : Array Bool) (a : Act) (w : World), listed.size = ops.length → Region.ready .any ops.toArray listed = [] → DRel ops effs s₀ H₀ c nt (fun j => listed.getD j true) a w → lift c nt K .normal a w := by
    intro listed a w hsz hr hs
    have hall : ∀ j, j < ops.length → listed.getD j true = true := by
      intro j
      induction j using Nat.strongRecOn with
      | _ j ih =>
        intro hj
        cases hl : listed.getD j true with
        | true => rfl
        | false =>
          exfalso
          have : j ∈ Region.ready .any ops.toArray listed := by
            rw [ready_iff]
            refine ⟨hj, hl, ops[j], by simp [hj], fun e he hb => ?_⟩
            have hlt := pl.back j ops[j] e (by simp [hj]) he hb
            have := ih e.on hlt (by omega)
            rw [Array.getD_eq_getD_getElem?] at this ⊢
            have hin : e.on < listed.size := by omega
            simpa [hin] using this
          rw [hr] at this
          cases this
    exact ⟨.normal, _, _, trivial, pl.all hall hs, hK⟩
  intro fuel
  induction fuel with
  | zero =>
    intro listed a w hsz hc hd hs
    have hr : Region.ready .any ops.toArray listed = [] := by
      cases hr : Region.ready .any ops.toArray listed with
      | nil => rfl
      | cons i rest =>
        exfalso
        have hm : i ∈ Region.ready .any ops.toArray listed := by rw [hr]; simp
        obtain ⟨h1, h2, _⟩ := ready_iff.1 hm
        have : 0 < (List.range ops.length).countP (fun i => !listed.getD i true) := List.countP_pos_iff.2 ⟨i, by simpa using h1, by simp [h2]⟩
        omega
    exact ⟨hr, fin listed a w hsz hr hs⟩
  | succ fuel ih =>
    intro listed a w hsz hc hd hs
    refine ⟨fun hr => fin listed a w hsz hr hs, fun i him => ?_⟩
    obtain ⟨h1, h2, o, ho, h3⟩ := ready_iff.1 him
    have hready : ∀ e ∈ o.after, Region.binds .any e = true → listed.getD e.on true = true := by
      intro e he hb
      have := h3 e he hb
      rw [Array.getD_eq_getD_getElem?] at this ⊢
      cases h : listed[e.on]? with
      | none => rfl
      | some b => rw [h] at this; simpa using this
    have hadd : (fun j => (listed.setIfInBounds i true).getD j true) = addD (fun j => listed.getD j true) i := by
      funext j
      simp only [addD, Array.getD_eq_getD_getElem?, Array.getElem?_setIfInBounds]
      by_cases e : i = j
      · subst e; simp [hsz, h1]
      · simp [e, Ne.symm e]
    refine pl.step hdst hd ho h2 hready hs fun a' w' hs' => ih _ a' w' (by simpa using hsz) ?_ ?_ (by rw [hadd]; exact hs')
    · have hlt : (List.range ops.length).countP (fun j => !(listed.setIfInBounds i true).getD j true) < (List.range ops.length).countP (fun j => !listed.getD j true) := by
        have hgen : ∀ (l : List Nat), i ∈ l → (∀ j, j ∈ l → ((!(listed.setIfInBounds i true).getD j true) = true → (!listed.getD j true) = true)) →
            l.countP (fun j => !(listed.setIfInBounds i true).getD j true) < l.countP (fun j => !listed.getD j true) := by
          intro l
          induction l with
          | nil => intro h; cases h
          | cons x l ihl =>
            intro hm himp
            simp only [List.countP_cons]
            by_cases e : x = i
            · subst e
              have e1 : (listed.setIfInBounds x true).getD x true = true := by
                have := congrFun hadd x
                simp only [addD, if_true] at this
                exact this
              have hle : l.countP (fun j => !(listed.setIfInBounds x true).getD j true) ≤ l.countP (fun j => !listed.getD j true) :=
                List.countP_mono_left fun j hj => himp j (List.mem_cons_of_mem _ hj)
              have e3 : (if (!(listed.setIfInBounds x true).getD x true) = true then 1 else 0) = 0 := by rw [e1]; rfl
              have e4 : (if (!listed.getD x true) = true then 1 else 0) = 1 := by rw [h2]; rfl
              rw [e3, e4]
              omega
            · have := ihl (by simpa [Ne.symm e] using hm) (fun j hj => himp j (List.mem_cons_of_mem _ hj))
              have hx := himp x (by simp)
              cases hx1 : (listed.setIfInBounds i true).getD x true <;> cases hx2 : listed.getD x true <;> simp_all <;> omega
        refine hgen _ (by simpa using h1) fun j _ hj => ?_
        have := congrFun hadd j
        simp only [addD] at this
        by_cases e : j = i
        · subst e; simp [this] at hj
        · simp only [e, if_false] at this
          rw [this] at hj
          exact hj
      omega
    · rw [hadd]
      intro j o' e hj ho' he hb
      simp only [addD] at hj ⊢
      by_cases e1 : e.on = i
      · simp [e1]
      · simp only [e1, if_false]
        by_cases e2 : j = i
        · subst e2
          rw [ho] at ho'
          cases ho'
          exact hready e he hb
        · simp only [e2, if_false] at hj
          exact hd j o' e hj ho' he hb
end

theorem Plan.of_tr {P : Program} {ops : List Oper} {effs : List (Nat × Eff)} {s₀ : Slots} {H₀ : List Blk} {s : Slots} {H : List Blk} (tr : Tr P ops ops s₀ H₀ effs s H) (hc : drawOk ops effs = true) :
    Plan P ops effs s₀ H₀ (fun j => (Region.before ops.toArray).getD j 0) ∧ stAt ops effs s₀ H₀ ops.length = (s, H) := by
  obtain ⟨h1, h2, h3⟩ := tr.facts
  simp only [drawOk, Bool.and_eq_true] at hc
  obtain ⟨⟨hm, hb⟩, hp⟩ := hc
  refine ⟨⟨h1, h3, ?_, ?_, ?_⟩, h2⟩
  · intro j i hj hi hbit
    simp only [maskOk, List.all_eq_true, List.mem_range] at hm
    have := hm j hj i hi
    rw [hbit] at this
    simp only [Bool.not_true, Bool.false_or] at this
    split at this
    · rename_i o ho
      simp only [List.any_eq_true, Bool.and_eq_true, Bool.or_eq_true] at this
      obtain ⟨e, he, hbind, hon⟩ := this
      exact ⟨o, e, ho, by simpa using he, hbind, hon.imp Nat.eq_of_beq_eq_true id⟩
    · simp at this
  · intro i o e ho he hbind
    have hi := (List.getElem?_eq_some_iff.1 ho).1
    simp only [backOk, List.all_eq_true, List.mem_range] at hb
    have := hb i hi
    rw [ho] at this
    simp only [List.all_eq_true] at this
    have := this e (by simpa using he)
    rw [hbind] at this
    simp only [Bool.not_true, Bool.false_or] at this
    exact Nat.le_of_ble_eq_true this
  · intro i j o o' hij ho ho'
    have hj := (List.getElem?_eq_some_iff.1 ho').1
    have hi := (List.getElem?_eq_some_iff.1 ho).1
    simp only [pairsOk, List.all_eq_true, List.mem_range, Bool.or_eq_true] at hp
    rcases hp j hj i hij with h | h
    · exact .inl h
    · right
      rw [ho, ho'] at h
      have e1 : effs[i]? = some (effAt effs i) := by simp [effAt, h1, hi]
      have e2 : effs[j]? = some (effAt effs j) := by simp [effAt, h1, hj]
      rw [e1, e2] at h
      exact h

theorem SW.draw {P : Program} {nt : Fr} {id : Nat} {ops : Array Oper} {s₀ : Slots} {H₀ : List Blk} {K : Post} (hm : P.follows .mixedOrders = true) (hd : dstOk nt.nt ops.toList = true) {effs : List (Nat × Eff)} {s : Slots} {H : List Blk}
    (tr : Tr P ops.toList ops.toList s₀ H₀ effs s H) (hc : drawOk ops.toList effs = true) (hK : K .normal s H) : SW P nt (.region id ops true) s₀ H₀ K := by
  obtain ⟨pl, hst⟩ := Plan.of_tr tr hc
  intro c a w hs
  obtain ⟨m, ro, hi, hstp, hsl, hsz, hdf⟩ := hs
  obtain ⟨k1, k2⟩ := hi.inv.same (w' := { w with drawn := w.drawn + 1 }) rfl rfl rfl rfl
  have hs' : SRel c.toCtx nt.nt s₀ H₀ a { w with drawn := w.drawn + 1 } := ⟨m, ro, ⟨k1, hi.bound⟩, hstp.trans k2, hsl.step hi.inv k2, hsz, hdf⟩
  refine wp_region_any hm ?_
  have := pl.any (nt := nt.nt) hd (c := c.toCtx) (K := K) (by rw [hst]; exact hK) ops.size (Array.replicate ops.size false) a _ (by simp) ?_ ?_ (DRel.zero hs' fun j hj => ?_)
  · simpa using this
  · refine Nat.le_trans List.countP_le_length ?_
    simp
  · intro j o e hj ho _ _
    have hlt := (List.getElem?_eq_some_iff.1 ho).1
    simp only [Array.length_toList] at hlt
    simp only [Array.getD_eq_getD_getElem?] at hj
    simp [hlt] at hj
  · simp only [Array.getD_eq_getD_getElem?]
    simp only [Array.length_toList] at hj
    simp [hj]


def RdS (nd : List (Nat × Blk)) (a a' : AV) : Prop := ∀ (m : Mp) (ro : Nat → Prop) (H : Hp) (w : World), Inv m ro H w → (∀ p ∈ nd, H p.1 = some p.2) → ∀ v, VRel m ro w a v → VRel m (fun cb => ro cb ∨ MW m H cb) w a' v
theorem RdS.same (nd : List (Nat × Blk)) (a : AV) : RdS nd a a := fun _ _ _ _ _ _ v h =>
  VRel.keep (fun _ _ _ h => h) (fun cb c t fr h => ⟨c, h, rfl⟩) (fun _ h => .inl h) (fun _ _ => rfl) a v h
theorem RdS.junk (nd : List (Nat × Blk)) (a : AV) : RdS nd a .junk := fun _ _ _ _ _ _ v _ => by simp only [VRel]
theorem RdS.ref {nd : List (Nat × Blk)} {b g : Nat} {cs cs' : List AV} (hb : (b, Blk.cells g cs) ∈ nd) (h : ∀ (i : Nat) (a' : AV), cs'[i]? = some a' → ∃ a, cs[i]? = some a ∧ RdS nd a a') : RdS nd (.ref b g 0) (.tref cs') := by
  intro m ro H w hi hn v hv
  simp only [VRel] at hv ⊢
  obtain ⟨cb, base, hm, rfl⟩ := hv
  refine ⟨cb, base, rfl, CsRel_iff.2 fun i a' hia => ?_⟩
  obtain ⟨a, ha, hr⟩ := h i a' hia
  have hbk := hn _ hb
  obtain ⟨c, t, hc, hlay⟩ := hi.blk b _ hbk _ hm
  obtain ⟨v, hv, ho, hrel⟩ := hlay i a ha
  exact ⟨.inr ⟨b, _, g, base, hbk, rfl, hm⟩, v, by simp only [World.cell?, hc]; simpa using hv, ho, hr m ro H w hi hn v hrel⟩

inductive RdsN : List (Nat × Blk) → List AV → List AV → Prop
  | nil : RdsN [] [] []
  | same {nd a as as'} (t : RdsN nd as as') : RdsN nd (a :: as) (a :: as')
  | hs {nd b g o n es blk cs as as'} (hr : blk.rd = some (g, cs)) (hfit : o + n * es ≤ cs.length) (t : RdsN nd as as') :
      RdsN ((b, blk) :: nd) (.hs b g o n es :: as) (.sl .any n ((cs.drop o).take (n * es)) :: as')
  | sem {p nd nd' a a' as as'} (h : RdS (p :: nd) a a') (t : RdsN nd' as as') : RdsN (p :: (nd ++ nd')) (a :: as) (a' :: as')

theorem RdsN.rel {H : Hp} {m : Mp} {ro : Nat → Prop} {w : World} (hi : Inv m ro H w) {nd : List (Nat × Blk)} {as as' : List AV} (h : RdsN nd as as') :
    (∀ p ∈ nd, H p.1 = some p.2) → ∀ {vs : List Value}, VsRel m ro w as vs → VsRel m (fun cb => ro cb ∨ MW m H cb) w as' vs := by
  have keep : ∀ a v, VRel m ro w a v → VRel m (fun cb => ro cb ∨ MW m H cb) w a v := fun a v h =>
    VRel.keep (fun _ _ _ h => h) (fun cb c t fr h => ⟨c, h, rfl⟩) (fun _ h => .inl h) (fun _ _ => rfl) a v h
  induction h with
  | nil => intro _ vs h; simpa only [VsRel] using h
  | same t ih =>
    intro hn vs hv
    simp only [VsRel] at hv ⊢
    obtain ⟨v, vs', rfl, h1, h2⟩ := hv
    exact ⟨v, vs', rfl, keep _ _ h1, ih hn h2⟩
  | sem h t ih =>
    intro hn vs hv
    simp only [VsRel] at hv ⊢
    obtain ⟨v, vs', rfl, h1, h2⟩ := hv
    exact ⟨v, vs', rfl, h m ro H w hi (fun q hq => hn q (by rcases List.mem_cons.1 hq with rfl | hq <;> simp [*])) v h1, ih (fun q hq => hn q (by simp [hq])) h2⟩
  | @hs nd b g o n es blk cs as as' hr hfit t ih =>
    intro hn vs hv
    simp only [VsRel] at hv ⊢
    obtain ⟨v, vs', rfl, h1, h2⟩ := hv
    refine ⟨v, vs', rfl, ?_, ih (fun p hp => hn p (by simp [hp])) h2⟩
    have hb := hn (b, blk) (by simp)
    simp only [VRel] at h1 ⊢
    obtain ⟨loc, hm, hh⟩ := h1
    cases loc with
    | void =>
      simp only [HsRel] at hh
      obtain ⟨rfl, rfl, rfl⟩ := hh
      exact .inl ⟨by simp, rfl, rfl, by simp⟩
    | «at» cb base =>
      simp only [HsRel] at hh
      obtain ⟨cap, rfl, hle, _⟩ := hh
      refine .inr ⟨by simp, _, cap, rfl, hle, by simp, .inr ⟨rfl, ?_⟩⟩
      show CsRel _ _ _ _ cb (base + o)
      have hbr := hi.blk b _ hb
      cases blk with
      | cells g' cs' =>
        simp only [Blk.rd, Option.some.injEq, Prod.mk.injEq] at hr
        obtain ⟨rfl, rfl⟩ := hr
        obtain ⟨c, t, hc, hlay⟩ := hbr _ hm
        rw [CsRel_iff]
        intro i a hia
        obtain ⟨v, hv, ho, hrel⟩ := ((hlay.drop o).take (n * es)) i a hia
        exact ⟨.inr ⟨b, _, g', base, hb, rfl, hm⟩, v, by simp only [World.cell?, hc]; simpa using hv, ho, keep a v hrel⟩
      | fro g' cs' =>
        simp only [Blk.rd, Option.some.injEq, Prod.mk.injEq] at hr
        obtain ⟨rfl, rfl⟩ := hr
        exact CsRel.keep (fun _ _ _ h => h) (fun cb c t fr h => ⟨c, h, rfl⟩) (fun _ h => .inl h) (fun _ _ => rfl) _ _ _ ((CsRel.drop (hbr _ hm) o).take _)
      | siter _ _ => simp [Blk.rd] at hr
      | dict _ => simp [Blk.rd] at hr
      | dead => simp [Blk.rd] at hr

theorem RdS.hs {nd : List (Nat × Blk)} {b g n : Nat} {cs : List AV} (hb : (b, Blk.cells g cs) ∈ nd) (hn : n = cs.length) : RdS nd (.hs b g 0 n 1) (.sl .any n cs) := by
  intro m ro H w hi hnd v hv
  have h := RdsN.rel hi (RdsN.hs (nd := []) (b := b) (g := g) (o := 0) (n := n) (es := 1) (blk := .cells g cs) (cs := cs) rfl (by omega) .nil) (fun p hp => by
    have : p = (b, .cells g cs) := by simpa using hp
    subst this; exact hnd _ hb) (vs := [v]) (by simp only [VsRel]; exact ⟨v, [], rfl, hv, rfl⟩)
  simp only [VsRel] at h
  obtain ⟨v', _, e, h, _⟩ := h
  cases e
  have e : (cs.drop 0).take (n * 1) = cs := by rw [List.drop_zero, List.take_of_length_le (by omega)]
  rwa [e] at h
theorem RdsN.same_eq {as as' : List AV} (h : RdsN [] as as') : as = as' := by
  have : ∀ nd as as', RdsN nd as as' → nd = [] → as = as' := by
    intro nd as as' h
    induction h with
    | nil => intro _; rfl
    | same t ih => intro e; rw [ih e]
    | hs _ _ _ _ => intro e; simp at e
    | sem _ _ _ => intro e; simp at e
  exact this _ _ _ h rfl

theorem sem_call {P : Program} {o : Oper} {ρ : Operand → AV} {n : Nat} {c : Call} {f : Operand} {fid : FuncId} {args' : List AV} {v : AV} {nd : List (Nat × Blk)} (ho : o.op = .call c) (hc : c.callee = .value f) (hf : ρ f = .fn (.func fid) [] [])
    (hp : Pure P fid args' v) (hr : RdsN nd (c.args.toList.map ρ) args') (hv : scalR v = true ∨ nd = []) : OpSem P o ρ n { v := v, need := nd } := by
  intro m ro H w a hi hx hn _ next Q kk
  have hfe : a.eval f = .func (.func fid) #[] #[] := by
    have := hx f (by simp [ho, Op.operands, Call.operands, hc])
    rw [hf] at this
    simp only [VRel, VsRel] at this
    obtain ⟨va, vb, h1, h2, h3⟩ := this
    rw [h1]
    congr 1
    · exact Array.ext' h2
    · exact Array.ext' h3
  have hargs : VsRel m ro w (c.args.toList.map ρ) (c.args.map a.eval).toList := by
    rw [Array.toList_map]
    exact map_rel _ fun x hxm => hx x (by simp only [ho, Op.operands, Call.operands, Array.mem_append]; exact .inr (by simpa using hxm))
  have hrun : (execOp a.eval o).run P w = .ok (.enter fid (c.args.map a.eval)) w := by
    simp [execOp, ho, resolve, hc, hfe, Deferred.ofValue, invoke, callFunc_run hp.call.1]
  unfold Oper.wp
  rw [hrun]
  have hro : ∀ cb, (ro cb ∨ MW m H cb) → cb < w.heap.size := fun cb h => h.elim (hi.ro_lt cb) hi.mw_lt
  rcases hv with hv | rfl
  · refine (hp.call.2 m₀ _ w (c.args.map a.eval) (Inv.empty hro (hi.glob.more fun _ h => .inl h).any) (closeds_rel args' _ hp.cargs (hr.rel hi hn hargs))).mono ?_
    rintro e w' ⟨m', ro', out, H', ⟨rfl, rfl⟩, hout, hi', hst⟩
    have hk : ∀ cb, cb < w.heap.size → w'.heap[cb]? = w.heap[cb]? := fun cb hlt => hst.kept cb hlt MW.empty
    cases e with
    | returned u =>
      refine kk m ro w' u (scalR_rel hout hv) ⟨fun cb h => Nat.lt_of_lt_of_le (hi.ro_lt cb h) hst.size, ?_, hi.inj, hi.excl, hi.gen, fun g => VRel.keep (fun _ _ _ h => h) hst.shape (fun _ h => h) (fun cb h => hk cb (hi.ro_lt cb h)) _ _ (hi.glob g)⟩
        ⟨fun _ _ _ h => h, hst.size, hst.os, hst.out, hst.tape, fun cb hlt _ => hk cb hlt, hst.shape, fun _ h => .inl h, fun _ h => h, fun cb h => .inl h⟩ (fun b g h => absurd rfl h)
      intro b x hx
      exact BlkRel.keep (fun _ _ _ h => h) hst.shape (fun _ h => h) (fun cb h => hk cb (hi.ro_lt cb h)) (fun _ => rfl) (fun g cb base h1 h2 => hk cb (hi.own_lt hx h1 h2)) (hi.blk b x hx)
    | panicked _ => exact hout.elim
    | outgrown => exact hout.elim
  · have hsame := hr.same_eq
    rw [hsame] at hargs
    refine (hp.call.2 m₀ ro w (c.args.map a.eval) (Inv.empty hi.ro_lt hi.glob.any) (closeds_rel args' _ hp.cargs hargs)).mono ?_
    rintro e w' ⟨m', ro', out, H', ⟨rfl, rfl⟩, hout, hi', hst⟩
    have hk : ∀ cb, cb < w.heap.size → w'.heap[cb]? = w.heap[cb]? := fun cb hlt => hst.kept cb hlt MW.empty
    have hro : ∀ cb, ro' cb → ro cb ∨ w.heap.size ≤ cb := fun cb h => by
      rcases hst.ro_new cb h with h | h | h
      · exact .inl h
      · exact (MW.empty h).elim
      · exact .inr h
    cases e with
    | returned u =>
      refine kk m ro' w' u (AV.closed_rel v u hp.cval hout) ⟨hi'.inv.ro_lt, ?_, hi.inj, ?_, hi.gen, hi'.inv.glob.any⟩
        ⟨fun _ _ _ h => h, hst.size, hst.os, hst.out, hst.tape, fun cb hlt _ => hk cb hlt, hst.shape, fun _ h => .inl h, hst.ro_le, fun cb h => (hro cb h).imp id .inr⟩ (fun b g h => absurd rfl h)
      · intro b x hx
        exact BlkRel.keep (fun _ _ _ h => h) hst.shape hst.ro_le (fun cb h => hk cb (hi.ro_lt cb h)) (fun _ => rfl) (fun g cb base h1 h2 => hk cb (hi.own_lt hx h1 h2)) (hi.blk b x hx)
      · intro cb hm hr
        rcases hro cb hr with h | h
        · exact hi.excl cb hm h
        · have := hi.mw_lt hm; omega
    | panicked _ => exact hout.elim
    | outgrown => exact hout.elim

theorem sem_callN {P : Program} {o : Oper} {ρ : Operand → AV} {n : Nat} {c : Call} {f : Operand} {fid : FuncId} {N es : Nat} {cs : List AV} (ho : o.op = .call c) (hc : c.callee = .value f) (hf : ρ f = .fn (.func fid) [] [])
    (hp : PureNew P fid (c.args.toList.map ρ) N es cs) : OpSem P o ρ n { v := .hs n 0 0 N es, new := some (.cells 0 cs) } := by
  intro m ro H w a hi hx hn hnew next Q kk
  obtain ⟨hn1, hn2⟩ := hnew _ rfl
  have hfe : a.eval f = .func (.func fid) #[] #[] := by
    have := hx f (by simp [ho, Op.operands, Call.operands, hc])
    rw [hf] at this
    simp only [VRel, VsRel] at this
    obtain ⟨va, vb, h1, h2, h3⟩ := this
    rw [h1]
    congr 1
    · exact Array.ext' h2
    · exact Array.ext' h3
  have hargs : VsRel m ro w (c.args.toList.map ρ) (c.args.map a.eval).toList := by
    rw [Array.toList_map]
    exact map_rel _ fun x hxm => hx x (by simp only [ho, Op.operands, Call.operands, Array.mem_append]; exact .inr (by simpa using hxm))
  have hrun : (execOp a.eval o).run P w = .ok (.enter fid (c.args.map a.eval)) w := by
    simp [execOp, ho, resolve, hc, hfe, Deferred.ofValue, invoke, callFunc_run hp.call.1]
  unfold Oper.wp
  rw [hrun]
  refine (hp.call.2 m₀ ro w (c.args.map a.eval) (Inv.empty hi.ro_lt hi.glob.any) (closeds_rel _ _ hp.cargs hargs)).mono ?_
  rintro e w' ⟨m', ro', out, H', ⟨g, rfl, rfl⟩, hout, hi', hst⟩
  cases e with
  | returned u =>
    obtain ⟨M, h1, h2, h3, h4⟩ := new_core (n := n) hi hn1 hn2 hp.ccs hi' hst hout
    have happ : app H n { v := .hs n 0 0 N es, new := some (.cells 0 cs) } = fun b => if b = n then some (.cells 0 cs) else H b := by
      funext b
      simp only [app]
    rw [happ] at kk
    exact kk M ro' w' u h1 h2 h3 fun b g hne => .inr ⟨h4 b g hne, rfl⟩
  | panicked _ => exact hout.elim
  | outgrown => exact hout.elim

def callD (P : Program) (fv : AV) (args : List AV) (H : List Blk) (nx : Eff → Prop) : Prop :=
  match fv with
  | .fn (.func f) [] [] => (∃ args' v nd, Pure P f args' v ∧ RdsN nd args args' ∧ (scalR v = true ∨ nd = []) ∧ (∀ p ∈ nd, H[p.1]? = some p.2) ∧ nx { v := v, need := nd }) ∨
      (∃ N es cs, PureNew P f args N es cs ∧ nx { v := .hs H.length 0 0 N es, new := some (.cells 0 cs) })
  | _ => False

def vcRunD (P : Program) (o : Oper) (s : Slots) (H : List Blk) (nx : Eff → Prop) : Prop :=
  match o.op with
  | .call c => match c.callee with
    | .value f => callD P (ev s f) (c.args.toList.map (ev s)) H nx
    | .builtin b => vcOp P (.call c) (ev s) H nx
    | .invoke _ _ => False
  | op => vcOp P op (ev s) H nx

theorem OpSem.froz {P : Program} {o : Oper} {ρ : Operand → AV} {n b g N es : Nat} {cs : List AV} {nd : List (Nat × Blk)} (h : OpSem P o ρ n { v := .hs b g 0 N es, need := nd, upd := some (b, .cells g cs) }) (hfit : N * es = cs.length) :
    OpSem P o ρ n { v := .sl .any N cs, need := nd, upd := some (b, .fro g cs) } := by
  intro m ro H w a hi hx hn _ next Q kk
  refine h m ro H w a hi hx hn (fun x hx => by simp at hx) next Q (fun m' ro' w' v' hv hi' hst hne => ?_)
  have hb : app H n { v := .hs b g 0 N es, need := nd, upd := some (b, .cells g cs) } b = some (.cells g cs) := by simp [app]
  have hb2 : app H n { v := .sl .any N cs, need := nd, upd := some (b, .fro g cs) } b = some (.fro g cs) := by simp [app]
  obtain ⟨k1, k2⟩ := hi'.change₀ (m' := m') (ro' := fun cb => ro' cb ∨ Owns m' (app H n { v := .hs b g 0 N es, need := nd, upd := some (b, .cells g cs) }) b cb) (H' := app H n { v := .sl .any N cs, need := nd, upd := some (b, .fro g cs) }) b (.fro g cs)
    (fun _ _ _ h => h) (fun _ _ => .inl rfl) (fun b₁ => by
      simp only [app]
      by_cases e : b₁ = b
      · simp [e]
      · simp [e])
    (fun g cb base h => by simp [Blk.own] at h) (fun g h => by simp [Blk.own] at h) (fun _ h => .inl h) (fun _ h => h)
    (fun keep loc hl => by
      have h := hi'.blk b _ hb loc hl
      cases loc with
      | void => exact h
      | «at» cb base =>
        obtain ⟨c, t, hc, hlay⟩ := h
        refine CsRel_iff.2 ?_
        intro i x hix
        obtain ⟨v, hv, ho, hr⟩ := hlay i x hix
        exact ⟨.inr ⟨_, g, base, hb, rfl, hl⟩, v, by simp only [World.cell?, hc]; simpa using hv, ho, keep x v hr⟩)
  refine kk m' _ w' v' ?_ k1 (hst.trans k2) (fun b₁ g₁ hh => ?_)
  · simp only [VRel] at hv ⊢
    obtain ⟨loc, hm, hh⟩ := hv
    have hbr := k1.blk b _ hb2 loc hm
    cases loc with
    | void =>
      simp only [HsRel] at hh
      obtain ⟨rfl, rfl, _⟩ := hh
      exact .inl ⟨by simp, rfl, rfl, List.length_eq_zero_iff.1 (by omega)⟩
    | «at» cb base =>
      simp only [HsRel] at hh
      obtain ⟨cap, rfl, hle, _⟩ := hh
      exact .inr ⟨by simp, _, cap, rfl, hle, by simp, .inr ⟨rfl, hbr⟩⟩
  · rcases hne b₁ g₁ hh with ⟨y, hy⟩ | ⟨_, h2⟩
    · simp only [Option.some.injEq, Prod.mk.injEq] at hy
      exact .inl ⟨.fro g cs, by rw [hy.1]⟩
    · simp at h2

def vcRunE (P : Program) (o : Oper) (s : Slots) (H : List Blk) (nx : Eff → Prop) : Prop := vcRunD P o s H nx ∨ Got P o (ev s) H nx

def vcDraw (P : Program) (ops : List Oper) : List Oper → Slots → List Blk → List (Nat × Eff) → Post → Prop
  | [], s, H, acc, K => drawOk ops acc.reverse = true ∧ K .normal s H
  | o :: os, s, H, acc, K => vcGuard ops o.guard s (fun s => vcRunE P o s H fun e => vcDraw P ops os (updo s o.dst e.v) (appL H e) ((H.length, e) :: acc) K)
      (fun s => vcDraw P ops os (updo s o.dst (.tup [])) H ((H.length, { v := .tup [] }) :: acc) K)

theorem vcRunD_sound {P : Program} {o : Oper} {s : Slots} {H : List Blk} {nx : Eff → Prop} (h : vcRunD P o s H nx) : Got P o (ev s) H nx := by
  unfold vcRunD at h
  split at h
  · rename_i c ho
    split at h
    · rename_i f hc
      unfold callD at h
      split at h
      · rename_i fid hf
        rcases h with ⟨args', v, nd, hp, hr, hv, hn, h⟩ | ⟨N, es, cs, hp, h⟩
        · exact ⟨_, h, sem_call ho hc hf hp hr hv, hn, by simp⟩
        · exact ⟨_, h, sem_callN ho hc hf hp, by simp, by simp⟩
      · exact h.elim
    · rename_i b hc
      rw [← ho] at h
      exact vcOp_sound h
    · exact h.elim
  · exact vcOp_sound h

theorem vcRunE_sound {P : Program} {o : Oper} {s : Slots} {H : List Blk} {nx : Eff → Prop} (h : vcRunE P o s H nx) : Got P o (ev s) H nx := h.elim vcRunD_sound id

theorem upd_self {s : Slots} {d : Nat} {v : AV} (h : s d = v) : upd s d v = s := by
  funext n
  simp only [upd]
  by_cases e : n = d
  · subst e; simp [h]
  · have : Nat.beq n d = false := by rw [← Bool.not_eq_true]; intro h; exact e (Nat.eq_of_beq_eq_true h)
    rw [this]
    rfl

theorem appL_skip {H : List Blk} {v : AV} {nd : List (Nat × Blk)} : appL H { v := v, need := nd } = H := rfl

theorem vcDraw_sound {P : Program} {ops : List Oper} {K : Post} : ∀ (rest : List Oper) (s : Slots) (H : List Blk) (acc : List (Nat × Eff)), vcDraw P ops rest s H acc K →
    ∃ effs s' H', Tr P ops rest s H effs s' H' ∧ drawOk ops (acc.reverse ++ effs) = true ∧ K .normal s' H'
  | [], s, H, acc, h => by
    obtain ⟨h1, h2⟩ := h
    exact ⟨[], s, H, .nil, by simpa using h1, h2⟩
  | o :: os, s, H, acc, h => by
    have run : ((o.guard = none) ∨ (∃ j w d b, o.guard = some (j, w) ∧ (ops[j]?).bind (·.dst) = some d ∧ s d = .bool b ∧ b = w)) →
        vcRunE P o s H (fun e => vcDraw P ops os (updo s o.dst e.v) (appL H e) ((H.length, e) :: acc) K) →
        ∃ effs s' H', Tr P ops (o :: os) s H effs s' H' ∧ drawOk ops (acc.reverse ++ effs) = true ∧ K .normal s' H' := by
      intro hg h
      obtain ⟨e, he, hsem, hn, hu⟩ := vcRunE_sound h
      obtain ⟨effs, s', H', ht, hd, hk⟩ := vcDraw_sound os _ _ _ he
      exact ⟨_, s', H', .cons (.inl ⟨hg, hsem, hn, hu⟩) ht, by simpa using hd, hk⟩
    have skip : (∃ j w d, o.guard = some (j, w) ∧ (ops[j]?).bind (·.dst) = some d ∧ ((∃ b, s d = .bool b ∧ b ≠ w) ∨ ∃ vs, s d = .tup vs)) →
        vcDraw P ops os (updo s o.dst (.tup [])) H ((H.length, { v := .tup [] }) :: acc) K →
        ∃ effs s' H', Tr P ops (o :: os) s H effs s' H' ∧ drawOk ops (acc.reverse ++ effs) = true ∧ K .normal s' H' := by
      intro hg h
      obtain ⟨effs, s', H', ht, hd, hk⟩ := vcDraw_sound os _ _ _ h
      exact ⟨_, s', H', .cons (e := { v := .tup [] }) (.inr ⟨hg, rfl⟩) (by rw [appL_skip]; exact ht), by simpa using hd, hk⟩
    simp only [vcDraw] at h
    unfold vcGuard at h
    split at h
    · rename_i hg; exact run (.inl hg) h
    · rename_i j want hg
      split at h
      · rename_i d hdj
        split at h
        · rename_i b hb
          rcases decB_or h with ⟨rfl, h⟩ | ⟨rfl, h⟩
          · rw [upd_self hb] at h
            cases want
            · exact skip ⟨j, false, d, hg, hdj, .inl ⟨true, hb, by simp⟩⟩ h
            · exact run (.inr ⟨j, true, d, true, hg, hdj, hb, rfl⟩) h
          · rw [upd_self hb] at h
            cases want
            · exact run (.inr ⟨j, false, d, false, hg, hdj, hb, rfl⟩) h
            · exact skip ⟨j, true, d, hg, hdj, .inl ⟨false, hb, by simp⟩⟩ h
        · rename_i vs hb; exact skip ⟨j, want, d, hg, hdj, .inr ⟨vs, hb⟩⟩ h
        · exact h.elim
      · exact h.elim

structure VDraw (P : Program) (ops rest : List Oper) (s : Slots) (H : List Blk) (acc : List (Nat × Eff)) (K : Post) : Prop where
  out : vcDraw P ops rest s H acc K

def vcDraw1 (P : Program) (ops : List Oper) : List Oper → Slots → List Blk → List (Nat × Eff) → Post → Prop
  | [], s, H, acc, K => drawOk ops acc.reverse = true ∧ K .normal s H
  | o :: os, s, H, acc, K => vcGuard ops o.guard s (fun s => vcRunD P o s H fun e => VDraw P ops os (updo s o.dst e.v) (appL H e) ((H.length, e) :: acc) K)
      (fun s => VDraw P ops os (updo s o.dst (.tup [])) H ((H.length, { v := .tup [] }) :: acc) K)

theorem vdraw_eq (P : Program) (ops : List Oper) : VDraw P ops = vcDraw P ops := by
  funext l s H acc K
  exact propext ⟨fun h => h.out, fun h => ⟨h⟩⟩

theorem drawStep {P : Program} {ops l : List Oper} {s : Slots} {H : List Blk} {acc : List (Nat × Eff)} {K : Post} (h : vcDraw1 P ops l s H acc K) : VDraw P ops l s H acc K := by
  refine ⟨?_⟩
  cases l with
  | nil => exact h
  | cons o os =>
    simp only [vcDraw1, vdraw_eq] at h
    exact vcGuard_mono (fun s h => .inl h) h

def vcDrawG (P : Program) (ops : List Oper) : List Oper → Slots → List Blk → List (Nat × Eff) → Post → Prop
  | [], _, _, _, _ => False
  | o :: os, s, H, acc, K => vcGuard ops o.guard s (fun s => Got P o (ev s) H fun e => VDraw P ops os (updo s o.dst e.v) (appL H e) ((H.length, e) :: acc) K)
      (fun s => VDraw P ops os (updo s o.dst (.tup [])) H ((H.length, { v := .tup [] }) :: acc) K)
theorem drawGot {P : Program} {ops l : List Oper} {s : Slots} {H : List Blk} {acc : List (Nat × Eff)} {K : Post} (h : vcDrawG P ops l s H acc K) : VDraw P ops l s H acc K := by
  refine ⟨?_⟩
  cases l with
  | nil => exact h.elim
  | cons o os =>
    simp only [vcDrawG, vdraw_eq] at h
    exact vcGuard_mono (fun s h => .inr h) h

theorem SW.drawn {P : Program} {nt : Fr} {id : Nat} {ops : Array Oper} {s : Slots} {H : List Blk} {K : Post} (hm : P.follows .mixedOrders = true) (hd : dstOk nt.nt ops.toList = true) (h : VDraw P ops.toList ops.toList s H [] K) :
    SW P nt (.region id ops true) s H K := by
  obtain ⟨effs, s', H', ht, hc, hk⟩ := vcDraw_sound _ _ _ _ h.out
  exact SW.draw hm hd ht (by simpa using hc) hk

end Tab

/- Regions that draw their order, with calls that may write and panic: one state for each set of operations that have run. -/
namespace Tab
open Go
variable [Globs]

theorem SW.anyO {P : Program} {nt : Fr} {id : Nat} {ops : Array Oper} {s₀ : Slots} {H₀ : List Blk} {K : Post} {ι : Type} (Q : (Nat → Bool) → Prop) (St : (Nat → Bool) → ι → Slots × List Blk) (hm : P.follows .mixedOrders = true) (hd : dstOk nt.nt ops.toList = true)
    (hgb : ops.toList.all (fun o => o.guard.isNone) = true) (hbb : backOk ops.toList = true)
    (h0 : ∀ D, (∀ j, j < ops.toList.length → D j = false) → Q D ∧ ∃ x, Ent nt s₀ H₀ (St D x).1 (St D x).2)
    (hs : ∀ D x i o, Q D → Down ops.toList D → ops.toList[i]? = some o → D i = false → (∀ e ∈ o.after, Region.binds .any e = true → D e.on = true) → vcRun P o (St D x).1 (St D x).2 K fun s H => Q (addD D i) ∧ ∃ y, Ent nt s H (St (addD D i) y).1 (St (addD D i) y).2)
    (hf : ∀ D x, Q D → (∀ j, j < ops.toList.length → D j = true) → K .normal (St D x).1 (St D x).2) : SW P nt (.region id ops true) s₀ H₀ K := by
  have hg : ∀ o ∈ ops.toList, o.guard = none := fun o ho => by simpa using List.all_eq_true.1 hgb o ho
  have hback : ∀ (i : Nat) (o : Oper) (e : Edge), ops.toList[i]? = some o → e ∈ o.after → Region.binds .any e = true → e.on < i := by
    intro i o e ho he hbind
    have hi := (List.getElem?_eq_some_iff.1 ho).1
    simp only [backOk, List.all_eq_true, List.mem_range] at hbb
    have := hbb i hi
    rw [ho] at this
    simp only [List.all_eq_true] at this
    have := this e (by simpa using he)
    rw [hbind] at this
    simp only [Bool.not_true, Bool.false_or] at this
    exact Nat.le_of_ble_eq_true this
  intro c a w hsr
  obtain ⟨m, ro, hi, hstp, hsl, hsz, hdf⟩ := hsr
  obtain ⟨k1, k2⟩ := hi.inv.same (w' := { w with drawn := w.drawn + 1 }) rfl rfl rfl rfl
  have hs' : SRel c.toCtx nt.nt s₀ H₀ a { w with drawn := w.drawn + 1 } := ⟨m, ro, ⟨k1, hi.bound⟩, hstp.trans k2, hsl.step hi.inv k2, hsz, hdf⟩
  refine wp_region_any hm ?_
  have main : ∀ (fuel : Nat) (listed : Array Bool) (a : Act) (w : World), listed.size = ops.toList.length → (List.range ops.toList.length).countP (fun i => !listed.getD i true) ≤ fuel → Down ops.toList (fun j => listed.getD j true) →
      (Q (fun j => listed.getD j true) ∧ ∃ x, SRel c.toCtx nt.nt (St (fun j => listed.getD j true) x).1 (St (fun j => listed.getD j true) x).2 a w) → wpAny P .any ops.toList.toArray (lift c.toCtx nt.nt K) fuel listed a w := by
    have fin : ∀ (listed : Array Bool) (a : Act) (w : World), listed.size = ops.toList.length → Region.ready .any ops.toList.toArray listed = [] → (Q (fun j => listed.getD j true) ∧ ∃ x, SRel c.toCtx nt.nt (St (fun j => listed.getD j true) x).1 (St (fun j => listed.getD j true) x).2 a w) → lift c.toCtx nt.nt K .normal a w := by
      rintro listed a w hsz hr ⟨hq, x, hs⟩
      have hall : ∀ j, j < ops.toList.length → listed.getD j true = true := by
        intro j
        induction j using Nat.strongRecOn with
        | _ j ih =>
          intro hj
          cases hl : listed.getD j true with
          | true => rfl
          | false =>
            exfalso
            have : j ∈ Region.ready .any ops.toList.toArray listed := by
              rw [ready_iff]
              refine ⟨hj, hl, ops.toList[j], by simp [hj], fun e he hb => ?_⟩
              have hlt := hback j ops.toList[j] e (List.getElem?_eq_getElem hj) he hb
              have := ih e.on hlt (by omega)
              rw [Array.getD_eq_getD_getElem?] at this ⊢
              have hin : e.on < listed.size := by omega
              simpa [hin] using this
            rw [hr] at this
            cases this
      exact ⟨.normal, _, _, trivial, hs, hf _ x hq hall⟩
    intro fuel
    induction fuel with
    | zero =>
      intro listed a w hsz hc hd hs
      have hr : Region.ready .any ops.toList.toArray listed = [] := by
        cases hr : Region.ready .any ops.toList.toArray listed with
        | nil => rfl
        | cons i rest =>
          exfalso
          have hm : i ∈ Region.ready .any ops.toList.toArray listed := by rw [hr]; simp
          obtain ⟨h1, h2, _⟩ := ready_iff.1 hm
          have : 0 < (List.range ops.toList.length).countP (fun i => !listed.getD i true) := List.countP_pos_iff.2 ⟨i, by simpa using h1, by simp [h2]⟩
          omega
      exact ⟨hr, fin listed a w hsz hr hs⟩
    | succ fuel ih =>
      intro listed a w hsz hc hdn hss
      refine ⟨fun hr => fin listed a w hsz hr hss, fun i him => ?_⟩
      obtain ⟨h1, h2, o, ho, h3⟩ := ready_iff.1 him
      have hready : ∀ e ∈ o.after, Region.binds .any e = true → listed.getD e.on true = true := by
        intro e he hb
        have := h3 e he hb
        rw [Array.getD_eq_getD_getElem?] at this ⊢
        cases h : listed[e.on]? with
        | none => rfl
        | some b => rw [h] at this; simpa using this
      have hadd : (fun j => (listed.setIfInBounds i true).getD j true) = addD (fun j => listed.getD j true) i := by
        funext j
        simp only [addD, Array.getD_eq_getD_getElem?, Array.getElem?_setIfInBounds]
        by_cases e : i = j
        · subst e; have h1' : i < listed.size := by omega
          simp [h1']
        · simp [e, Ne.symm e]
      obtain ⟨hq, x, hsx⟩ := hss
      have hrun := hs _ x i o hq hdn ho h2 hready
      have hia : ops.toList.toArray[i]? = some o := by simpa using ho
      have hmem : o ∈ ops.toList := List.mem_of_getElem? ho
      unfold wpOp
      rw [hia]
      simp only
      rw [if_pos (by simp [Region.wanted, hg o hmem])]
      left
      refine vcRun_sound hrun (dstOk_of hd hmem) hsx fun s' H' a' w' ⟨hq', y, hent⟩ hs' => ih _ a' w' (by simpa using hsz) ?_ ?_ (by rw [hadd]; exact ⟨hq', y, hent c a' w' hs'⟩)
      · have hlt : (List.range ops.toList.length).countP (fun j => !(listed.setIfInBounds i true).getD j true) < (List.range ops.toList.length).countP (fun j => !listed.getD j true) := by
          have hgen : ∀ (l : List Nat), i ∈ l → (∀ j, j ∈ l → ((!(listed.setIfInBounds i true).getD j true) = true → (!listed.getD j true) = true)) →
              l.countP (fun j => !(listed.setIfInBounds i true).getD j true) < l.countP (fun j => !listed.getD j true) := by
            intro l
            induction l with
            | nil => intro h; cases h
            | cons x l ihl =>
              intro hm himp
              simp only [List.countP_cons]
              by_cases e : x = i
              · subst e
                have e1 : (listed.setIfInBounds x true).getD x true = true := by
                  have := congrFun hadd x
                  simp only [addD, if_true] at this
                  exact this
                have hle : l.countP (fun j => !(listed.setIfInBounds x true).getD j true) ≤ l.countP (fun j => !listed.getD j true) :=
                  List.countP_mono_left fun j hj => himp j (List.mem_cons_of_mem _ hj)
                have e3 : (if (!(listed.setIfInBounds x true).getD x true) = true then 1 else 0) = 0 := by rw [e1]; rfl
                have e4 : (if (!listed.getD x true) = true then 1 else 0) = 1 := by rw [h2]; rfl
                rw [e3, e4]
                omega
              · have := ihl (by simpa [Ne.symm e] using hm) (fun j hj => himp j (List.mem_cons_of_mem _ hj))
                have hx := himp x (by simp)
                cases hx1 : (listed.setIfInBounds i true).getD x true <;> cases hx2 : listed.getD x true <;> simp_all <;> omega
          refine hgen _ (by simpa using h1) fun j _ hj => ?_
          have := congrFun hadd j
          simp only [addD] at this
          by_cases e : j = i
          · subst e; simp [this] at hj
          · simp only [e, if_false] at this
            rw [this] at hj
            exact hj
        omega
      · rw [hadd]
        intro j o' e hj ho' he hb
        simp only [addD] at hj ⊢
        by_cases e1 : e.on = i
        · simp [e1]
        · simp only [e1, if_false]
          by_cases e2 : j = i
          · subst e2
            rw [ho] at ho'
            cases ho'
            exact hready e he hb
          · simp only [e2, if_false] at hj
            exact hdn j o' e hj ho' he hb
  obtain ⟨hq, x, hx⟩ := h0 (fun j => (Array.replicate ops.size false).getD j true) (fun j hj => by simp only [Array.length_toList] at hj; simp [Array.getD_eq_getD_getElem?, hj])
  have := main ops.size (Array.replicate ops.size false) a _ (by simp) ?_ ?_ ⟨hq, x, hx c a _ hs'⟩
  · simpa using this
  · refine Nat.le_trans List.countP_le_length ?_
    simp
  · intro j o e hj ho _ _
    have hlt := (List.getElem?_eq_some_iff.1 ho).1
    simp only [Array.length_toList] at hlt
    simp only [Array.getD_eq_getD_getElem?] at hj
    simp [hlt] at hj

end Tab
