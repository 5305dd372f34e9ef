/- Values of the abstract machine, and when a value of the model stands for one. -/
import Derived.Calls
import Derived.Laws.Sem
import Derived.Laws.World
set_option linter.unusedVariables false
set_option linter.unusedSimpArgs false
set_option linter.unusedSectionVars false
namespace Tab
open Go

/-- What is known of an immutable slice: it is nil · it may be nil · it isn't nil · it isn't nil, and has no spare room. -/
inductive SK where | nil | any | nn | full
  deriving DecidableEq

/-- Abstract values. 'ref', 'hs', 'mp' lie in the abstract heap (block, generation, offset); 'tref', 'sl' are memory that nobody writes any more, as its cells. -/
inductive AV where
  | bool (b : Bool)
  | int (k : IntKind) (n : Int)
  | str (s : List UInt8)
  | nilp
  | ref (b g o : Nat)
  | tref (cs : List AV)
  | sl (k : SK) (n : Nat) (cs : List AV)
  | hs (b g o n es : Nat)
  | nilm
  | mp (b : Nat)
  | nilf
  | fn (f : Fn) (first cap : List AV)
  | nili
  | ifc (t : TypeId) (v : AV)
  | agg (cs : List AV)
  | tup (vs : List AV)
  | junk

instance : Inhabited AV := ⟨.junk⟩

inductive Loc where | void | at (cb base : Nat)

abbrev Mp := Nat → Nat → Option Loc

def HsRel (w : World) (o n es : Nat) (v : Value) : Loc → Prop
  | .void => v = .slice none 0 0 ∧ n = 0 ∧ o = 0
  | .at cb base => ∃ cap, v = .slice (some ⟨cb, base + o, none⟩) n cap ∧ n ≤ cap ∧
      ∃ c t fr, w.heap[cb]? = some (.cells c t fr) ∧ base + o + cap * es ≤ c.size

mutual
def VRel (m : Mp) (ro : Nat → Prop) (w : World) : AV → Value → Prop
  | .bool b, v => v = .bool b
  | .int k n, v => v = .int k n
  | .str s, v => v = .string ⟨s.toArray⟩
  | .nilp, v => v = .pointer none
  | .ref b g o, v => ∃ cb base, m b g = some (.at cb base) ∧ v = .pointer (some ⟨cb, base + o, none⟩)
  | .tref cs, v => ∃ cb off, v = .pointer (some ⟨cb, off, none⟩) ∧ CsRel m ro w cs cb off
  | .sl k n cs, v => ((k = .nil ∨ k = .any) ∧ v = .slice none 0 0 ∧ n = 0 ∧ cs = []) ∨
      (k ≠ .nil ∧ ∃ (ad : Addr) (cap : Nat), v = .slice (some ad) n cap ∧ n ≤ cap ∧ (k = .full → cap = n) ∧ ((n = 0 ∧ cs = []) ∨ (ad.spot = none ∧ CsRel m ro w cs ad.block ad.off)))
  | .hs b g o n es, v => ∃ loc, m b g = some loc ∧ HsRel w o n es v loc
  | .nilm, v => v = .map none
  | .mp b, v => ∃ cb, m b 0 = some (.at cb 0) ∧ v = .map (some cb)
  | .nilf, v => v = .nilFunc
  | .fn f first cap, v => ∃ a b : Array Value, v = .func f a b ∧ VsRel m ro w first a.toList ∧ VsRel m ro w cap b.toList
  | .nili, v => v = .nilIface
  | .ifc t x, v => ∃ y, v = .iface t y ∧ VRel m ro w x y
  | .agg cs, v => ∃ a : Array Value, v = .agg a ∧ (∀ x ∈ a.toList, x.oneCell' = true) ∧ VsRel m ro w cs a.toList
  | .tup cs, v => ∃ a : Array Value, v = .tuple a ∧ VsRel m ro w cs a.toList
  | .junk, _ => True
def VsRel (m : Mp) (ro : Nat → Prop) (w : World) : List AV → List Value → Prop
  | [], vs => vs = []
  | a :: as, vs => ∃ v vs', vs = v :: vs' ∧ VRel m ro w a v ∧ VsRel m ro w as vs'
def CsRel (m : Mp) (ro : Nat → Prop) (w : World) : List AV → Nat → Nat → Prop
  | [], _, _ => True
  | a :: as, cb, off => ro cb ∧ (∃ v, w.cell? ⟨cb, off, none⟩ = some v ∧ v.oneCell' = true ∧ VRel m ro w a v) ∧ CsRel m ro w as cb (off + 1)
end

/-! ### Lists of values, cells -/

theorem VsRel.length {m ro w} : ∀ {as : List AV} {vs : List Value}, VsRel m ro w as vs → as.length = vs.length
  | [], vs, h => by simp only [VsRel] at h; subst h; rfl
  | a :: as, vs, h => by
    simp only [VsRel] at h
    obtain ⟨v, vs', rfl, _, h⟩ := h
    simp [VsRel.length h]

theorem VsRel.get {m ro w} : ∀ {as : List AV} {vs : List Value}, VsRel m ro w as vs → ∀ {i : Nat} {a : AV}, as[i]? = some a → ∃ v, vs[i]? = some v ∧ VRel m ro w a v
  | [], vs, h, i, a, hi => by simp at hi
  | x :: as, vs, h, i, a, hi => by
    simp only [VsRel] at h
    obtain ⟨v, vs', rfl, hx, h⟩ := h
    cases i with
    | zero => simp at hi; subst hi; exact ⟨v, rfl, hx⟩
    | succ i => simpa using VsRel.get h (by simpa using hi)

theorem VsRel.of_get {m ro w} : ∀ {as : List AV} {vs : List Value}, as.length = vs.length → (∀ (i : Nat) (a : AV) (v : Value), as[i]? = some a → vs[i]? = some v → VRel m ro w a v) → VsRel m ro w as vs
  | [], vs, hl, _ => by simp only [VsRel]; exact List.length_eq_zero_iff.1 hl.symm
  | a :: as, [], hl, _ => by simp at hl
  | a :: as, v :: vs, hl, h => by
    simp only [VsRel]
    exact ⟨v, vs, rfl, h 0 a v rfl rfl, VsRel.of_get (by simpa using hl) fun i a v ha hv => h (i + 1) a v (by simpa using ha) (by simpa using hv)⟩

theorem VsRel.append {m ro w} : ∀ {as bs : List AV} {vs us : List Value}, VsRel m ro w as vs → VsRel m ro w bs us → VsRel m ro w (as ++ bs) (vs ++ us)
  | [], bs, vs, us, h, h' => by simp only [VsRel] at h; subst h; exact h'
  | a :: as, bs, vs, us, h, h' => by
    simp only [VsRel] at h
    obtain ⟨v, vs', rfl, ha, h⟩ := h
    simp only [List.cons_append, VsRel]
    exact ⟨v, vs' ++ us, rfl, ha, h.append h'⟩

theorem VsRel.take {m ro w} : ∀ {as : List AV} {vs : List Value} (n : Nat), VsRel m ro w as vs → VsRel m ro w (as.take n) (vs.take n)
  | [], vs, n, h => by simp only [VsRel] at h; subst h; simp [VsRel]
  | a :: as, vs, n, h => by
    simp only [VsRel] at h
    obtain ⟨v, vs', rfl, ha, h⟩ := h
    cases n with
    | zero => simp [VsRel]
    | succ n => simp only [List.take_succ_cons, VsRel]; exact ⟨v, _, rfl, ha, h.take n⟩

theorem VsRel.drop {m ro w} : ∀ {as : List AV} {vs : List Value} (n : Nat), VsRel m ro w as vs → VsRel m ro w (as.drop n) (vs.drop n)
  | [], vs, n, h => by simp only [VsRel] at h; subst h; simp [VsRel]
  | a :: as, vs, n, h => by
    cases n with
    | zero => exact h
    | succ n =>
      simp only [VsRel] at h
      obtain ⟨v, vs', rfl, ha, h⟩ := h
      simpa using h.drop n

theorem CsRel_iff {m ro w} : ∀ {cs : List AV} {cb off : Nat}, CsRel m ro w cs cb off ↔ ∀ (i : Nat) (a : AV), cs[i]? = some a → ro cb ∧ ∃ v, w.cell? ⟨cb, off + i, none⟩ = some v ∧ v.oneCell' = true ∧ VRel m ro w a v
  | [], cb, off => by simp [CsRel]
  | a :: as, cb, off => by
    simp only [CsRel]
    rw [CsRel_iff]
    constructor
    · rintro ⟨h1, h2, h3⟩ i x hi
      cases i with
      | zero => simp at hi; subst hi; exact ⟨h1, h2⟩
      | succ i =>
        have := h3 i x (by simpa using hi)
        rw [show off + (i + 1) = off + 1 + i by omega]; exact this
    · intro h
      refine ⟨(h 0 a rfl).1, by simpa using (h 0 a rfl).2, fun i x hi => ?_⟩
      have := h (i + 1) x (by simpa using hi)
      rw [show off + (i + 1) = off + 1 + i by omega] at this; exact this

theorem CsRel.drop {m ro w cs cb off} (h : CsRel m ro w cs cb off) (n : Nat) : CsRel m ro w (cs.drop n) cb (off + n) := by
  rw [CsRel_iff] at *
  intro i a hi
  have := h (n + i) a (by simpa using hi)
  rw [show off + n + i = off + (n + i) by omega]; exact this

theorem CsRel.take {m ro w cs cb off} (h : CsRel m ro w cs cb off) (n : Nat) : CsRel m ro w (cs.take n) cb off := by
  rw [CsRel_iff] at *
  intro i a hi
  refine h i a ?_
  rw [List.getElem?_take] at hi
  split at hi <;> simp_all

/-! ### The abstract heap -/

inductive Blk where
  | cells (g : Nat) (cs : List AV)
  | fro (g : Nat) (cs : List AV)
  | siter (s : List UInt8) (pos : Nat)
  | dead

/-- The generation under which a block is its holder's own. -/
def Blk.own : Blk → Option Nat
  | .cells g _ => some g
  | .siter _ _ => some 0
  | _ => none

abbrev Hp := Nat → Option Blk

/-- Blocks of the model that the abstract heap may write. -/
def MW (m : Mp) (H : Hp) (cb : Nat) : Prop := ∃ b blk g base, H b = some blk ∧ blk.own = some g ∧ m b g = some (.at cb base)

/-- The cells of a block, from 'base' on, stand for these. -/
def Lay (m : Mp) (ro : Nat → Prop) (w : World) (cs : List AV) (c : Array Value) (base : Nat) : Prop :=
  ∀ (i : Nat) (a : AV), cs[i]? = some a → ∃ v, c[base + i]? = some v ∧ v.oneCell' = true ∧ VRel m ro w a v

def BlkRel (m : Mp) (ro : Nat → Prop) (w : World) (b : Nat) : Blk → Prop
  | .cells g cs => ∀ loc, m b g = some loc → match loc with
    | .void => cs = []
    | .at cb base => ∃ c t, w.heap[cb]? = some (.cells c t (0, 0)) ∧ Lay m ro w cs c base
  | .fro g cs => ∀ loc, m b g = some loc → match loc with
    | .void => cs = []
    | .at cb base => CsRel m ro w cs cb base
  | .siter s pos => ∀ loc, m b 0 = some loc → ∃ cb, loc = .at cb 0 ∧ w.heap[cb]? = some (.stringIter ⟨s.toArray⟩ pos)
  | .dead => True

/-- What is known of the package-level variables: they are never written. -/
class Globs where
  gv : Nat → AV
  keep : ∀ (g : Nat) (m m' : Mp) (ro : Nat → Prop) (w : World) (v : Value), VRel m ro w (gv g) v → VRel m' ro w (gv g) v
def GRel [Globs] (m : Mp) (ro : Nat → Prop) (w : World) : Prop := ∀ g, VRel m ro w (Globs.gv g) (.pointer (some ⟨g, 0, none⟩))

variable [Globs]

structure Inv (m : Mp) (ro : Nat → Prop) (H : Hp) (w : World) : Prop where
  ro_lt : ∀ cb, ro cb → cb < w.heap.size
  blk : ∀ b x, H b = some x → BlkRel m ro w b x
  inj : ∀ b b' x x' g g' cb base base', H b = some x → H b' = some x' → x.own = some g → x'.own = some g' → m b g = some (.at cb base) → m b' g' = some (.at cb base') → b = b'
  excl : ∀ cb, MW m H cb → ¬ ro cb
  gen : ∀ b x g, H b = some x → x.own = some g → ∀ g' loc, m b g' = some loc → g' ≤ g
  glob : GRel m ro w

structure Step (m : Mp) (ro : Nat → Prop) (H : Hp) (w : World) (m' : Mp) (ro' : Nat → Prop) (H' : Hp) (w' : World) : Prop where
  mle : ∀ b g loc, m b g = some loc → m' b g = some loc
  size : w.heap.size ≤ w'.heap.size
  os : w'.os = w.os
  out : w'.output = w.output
  tape : w'.tape = w.tape
  kept : ∀ cb, cb < w.heap.size → ¬ MW m H cb → w'.heap[cb]? = w.heap[cb]?
  shape : ∀ (cb : Nat) (c : Array Value) (t : TypeId) (fr : Nat × Nat), w.heap[cb]? = some (.cells c t fr) → ∃ c', w'.heap[cb]? = some (.cells c' t fr) ∧ c'.size = c.size
  mw : ∀ cb, MW m' H' cb → MW m H cb ∨ w.heap.size ≤ cb
  ro_le : ∀ cb, ro cb → ro' cb
  ro_new : ∀ cb, ro' cb → ro cb ∨ MW m H cb ∨ w.heap.size ≤ cb

theorem Step.refl (m ro H w) : Step m ro H w m ro H w :=
  ⟨fun _ _ _ h => h, Nat.le_refl _, rfl, rfl, rfl, fun _ _ _ => rfl, fun _ c _ _ h => ⟨c, h, rfl⟩, fun _ h => .inl h, fun _ h => h, fun _ h => .inl h⟩

theorem Step.trans {m ro H w m₁ ro₁ H₁ w₁ m₂ ro₂ H₂ w₂} (a : Step m ro H w m₁ ro₁ H₁ w₁) (b : Step m₁ ro₁ H₁ w₁ m₂ ro₂ H₂ w₂) : Step m ro H w m₂ ro₂ H₂ w₂ where
  mle := fun x g loc h => b.mle x g loc (a.mle x g loc h)
  size := Nat.le_trans a.size b.size
  os := b.os.trans a.os
  out := b.out.trans a.out
  tape := b.tape.trans a.tape
  kept := fun cb hlt hn => by
    rw [b.kept cb (Nat.lt_of_lt_of_le hlt a.size) ?_, a.kept cb hlt hn]
    intro h
    rcases a.mw cb h with h | h
    · exact hn h
    · omega
  shape := fun cb c t fr h => by
    obtain ⟨c₁, h₁, e₁⟩ := a.shape cb c t fr h
    obtain ⟨c₂, h₂, e₂⟩ := b.shape cb c₁ t fr h₁
    exact ⟨c₂, h₂, e₂.trans e₁⟩
  mw := fun cb h => by
    rcases b.mw cb h with h | h
    · exact a.mw cb h
    · exact .inr (Nat.le_trans a.size h)
  ro_le := fun cb h => b.ro_le cb (a.ro_le cb h)
  ro_new := fun cb h => by
    rcases b.ro_new cb h with h | h | h
    · exact a.ro_new cb h
    · rcases a.mw cb h with h | h
      · exact .inr (.inl h)
      · exact .inr (.inr h)
    · exact .inr (.inr (Nat.le_trans a.size h))

theorem HsRel.step {w w' : World} {o n es v} (hs : ∀ (cb : Nat) (c : Array Value) (t : TypeId) (fr : Nat × Nat), w.heap[cb]? = some (.cells c t fr) → ∃ c', w'.heap[cb]? = some (.cells c' t fr) ∧ c'.size = c.size) :
    ∀ {loc}, HsRel w o n es v loc → HsRel w' o n es v loc
  | .void, h => h
  | .at cb base, h => by
    obtain ⟨cap, hv, hle, c, t, fr, hc, hsz⟩ := h
    obtain ⟨c', hc', hs'⟩ := hs cb c t fr hc
    exact ⟨cap, hv, hle, c', t, fr, hc', by omega⟩

theorem cell?_of_heap {w w' : World} {cb off : Nat} (h : w'.heap[cb]? = w.heap[cb]?) : w'.cell? ⟨cb, off, none⟩ = w.cell? ⟨cb, off, none⟩ := by
  simp only [World.cell?, h]

set_option linter.unusedSectionVars false
section
variable {m m' : Mp} {ro ro' : Nat → Prop} {w w' : World}
  (hm : ∀ b g loc, m b g = some loc → m' b g = some loc)
  (hs : ∀ (cb : Nat) (c : Array Value) (t : TypeId) (fr : Nat × Nat), w.heap[cb]? = some (.cells c t fr) → ∃ c', w'.heap[cb]? = some (.cells c' t fr) ∧ c'.size = c.size)
  (hr : ∀ cb, ro cb → ro' cb) (hk : ∀ cb, ro cb → w'.heap[cb]? = w.heap[cb]?)
include hm hs hr hk

mutual
theorem VRel.keep : ∀ (a : AV) (v : Value), VRel m ro w a v → VRel m' ro' w' a v
  | .bool _, _, h | .int _ _, _, h | .str _, _, h | .nilp, _, h | .nilm, _, h | .nilf, _, h | .nili, _, h => by simpa only [VRel] using h
  | .junk, _, _ => by simp only [VRel]
  | .ref b g o, v, h => by
    simp only [VRel] at h ⊢
    obtain ⟨cb, base, h, e⟩ := h
    exact ⟨cb, base, hm _ _ _ h, e⟩
  | .tref cs, v, h => by
    simp only [VRel] at h ⊢
    obtain ⟨cb, off, e, h⟩ := h
    exact ⟨cb, off, e, CsRel.keep cs cb off h⟩
  | .sl k n cs, v, h => by
    simp only [VRel] at h ⊢
    rcases h with h | ⟨hk', ad, cap, e, hle, hf, h⟩
    · exact .inl h
    · exact .inr ⟨hk', ad, cap, e, hle, hf, h.imp id fun h => ⟨h.1, CsRel.keep cs _ _ h.2⟩⟩
  | .hs b g o n es, v, h => by
    simp only [VRel] at h ⊢
    obtain ⟨loc, h, e⟩ := h
    exact ⟨loc, hm _ _ _ h, e.step hs⟩
  | .mp b, v, h => by
    simp only [VRel] at h ⊢
    obtain ⟨cb, h, e⟩ := h
    exact ⟨cb, hm _ _ _ h, e⟩
  | .fn f first cap, v, h => by
    simp only [VRel] at h ⊢
    obtain ⟨a, b, e, h1, h2⟩ := h
    exact ⟨a, b, e, VsRel.keep first _ h1, VsRel.keep cap _ h2⟩
  | .ifc t x, v, h => by
    simp only [VRel] at h ⊢
    obtain ⟨y, e, h⟩ := h
    exact ⟨y, e, VRel.keep x y h⟩
  | .agg cs, v, h => by
    simp only [VRel] at h ⊢
    obtain ⟨a, e, ho, h⟩ := h
    exact ⟨a, e, ho, VsRel.keep cs _ h⟩
  | .tup cs, v, h => by
    simp only [VRel] at h ⊢
    obtain ⟨a, e, h⟩ := h
    exact ⟨a, e, VsRel.keep cs _ h⟩
theorem VsRel.keep : ∀ (as : List AV) (vs : List Value), VsRel m ro w as vs → VsRel m' ro' w' as vs
  | [], vs, h => by simpa only [VsRel] using h
  | a :: as, vs, h => by
    simp only [VsRel] at h ⊢
    obtain ⟨v, vs', e, h1, h2⟩ := h
    exact ⟨v, vs', e, VRel.keep a v h1, VsRel.keep as vs' h2⟩
theorem CsRel.keep : ∀ (cs : List AV) (cb off : Nat), CsRel m ro w cs cb off → CsRel m' ro' w' cs cb off
  | [], _, _, _ => by simp only [CsRel]
  | a :: as, cb, off, h => by
    simp only [CsRel] at h ⊢
    obtain ⟨h1, ⟨v, hv, ho, h2⟩, h3⟩ := h
    exact ⟨hr _ h1, ⟨v, by rw [cell?_of_heap (hk cb h1)]; exact hv, ho, VRel.keep a v h2⟩, CsRel.keep as cb (off + 1) h3⟩
end
end

theorem VRel.step {m ro H w m' ro' H' w'} (hi : Inv m ro H w) (hs : Step m ro H w m' ro' H' w') {a v} (h : VRel m ro w a v) : VRel m' ro' w' a v :=
  VRel.keep hs.mle hs.shape hs.ro_le (fun cb h => hs.kept cb (hi.ro_lt cb h) fun hw => hi.excl cb hw h) a v h
theorem VsRel.step {m ro H w m' ro' H' w'} (hi : Inv m ro H w) (hs : Step m ro H w m' ro' H' w') {a v} (h : VsRel m ro w a v) : VsRel m' ro' w' a v :=
  VsRel.keep hs.mle hs.shape hs.ro_le (fun cb h => hs.kept cb (hi.ro_lt cb h) fun hw => hi.excl cb hw h) a v h
theorem CsRel.step {m ro H w m' ro' H' w'} (hi : Inv m ro H w) (hs : Step m ro H w m' ro' H' w') {cs cb off} (h : CsRel m ro w cs cb off) : CsRel m' ro' w' cs cb off :=
  CsRel.keep hs.mle hs.shape hs.ro_le (fun cb h => hs.kept cb (hi.ro_lt cb h) fun hw => hi.excl cb hw h) cs cb off h

theorem GRel.any {m m' ro w} (h : GRel m ro w) : GRel m' ro w := fun g => Globs.keep g m m' ro w _ (h g)
theorem GRel.step {m ro H w m' ro' H' w'} (hi : Inv m ro H w) (hs : Step m ro H w m' ro' H' w') : GRel m' ro' w' := fun g => (hi.glob g).step hi hs
theorem GRel.more {m ro w} {ro' : Nat → Prop} (hr : ∀ cb, ro cb → ro' cb) (h : GRel m ro w) : GRel m ro' w := fun g =>
  VRel.keep (fun _ _ _ h => h) (fun cb c t fr h => ⟨c, h, rfl⟩) hr (fun _ _ => rfl) _ _ (h g)

end Tab
