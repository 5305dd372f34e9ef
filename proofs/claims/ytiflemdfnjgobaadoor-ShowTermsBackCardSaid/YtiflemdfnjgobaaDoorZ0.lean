/- Lemmas for this claim: part 0. No condition. -/
import Derived.Calls
import Derived.Laws.Sem
import Derived.Laws.World
set_option linter.unusedVariables false
set_option linter.unusedSimpArgs false
set_option linter.unusedSectionVars false
/- Values of the abstract machine, and when a value of the model stands for one. -/
namespace Tab
open Go

inductive SK where | nil | any | nn | full
  deriving DecidableEq

inductive AV where
  | bool (b : Bool)
  | int (k : IntKind) (n : Int)
  | str (s : List UInt8)
  | nilp
  | ref (b g o : Nat)
  | tref (cs : List AV)
  | sl (k : SK) (n : Nat) (cs : List AV)
  | hs (b g o n es : Nat)
  | nilm
  | mp (b : Nat)
  | nilf
  | fn (f : Fn) (first cap : List AV)
  | nili
  | ifc (t : TypeId) (v : AV)
  | agg (cs : List AV)
  | tup (vs : List AV)
  | junk

instance : Inhabited AV := ⟨.junk⟩

inductive Loc where | void | at (cb base : Nat)

abbrev Mp := Nat → Nat → Option Loc

def HsRel (w : World) (o n es : Nat) (v : Value) : Loc → Prop
  | .void => v = .slice none 0 0 ∧ n = 0 ∧ o = 0
  | .at cb base => ∃ cap, v = .slice (some ⟨cb, base + o, none⟩) n cap ∧ n ≤ cap ∧
      ∃ c t fr, w.heap[cb]? = some (.cells c t fr) ∧ base + o + cap * es ≤ c.size

mutual
def VRel (m : Mp) (ro : Nat → Prop) (w : World) : AV → Value → Prop
  | .bool b, v => v = .bool b
  | .int k n, v => v = .int k n
  | .str s, v => v = .string ⟨s.toArray⟩
  | .nilp, v => v = .pointer none
  | .ref b g o, v => ∃ cb base, m b g = some (.at cb base) ∧ v = .pointer (some ⟨cb, base + o, none⟩)
  | .tref cs, v => ∃ cb off, v = .pointer (some ⟨cb, off, none⟩) ∧ CsRel m ro w cs cb off
  | .sl k n cs, v => ((k = .nil ∨ k = .any) ∧ v = .slice none 0 0 ∧ n = 0 ∧ cs = []) ∨
      (k ≠ .nil ∧ ∃ (ad : Addr) (cap : Nat), v = .slice (some ad) n cap ∧ n ≤ cap ∧ (k = .full → cap = n) ∧ ((n = 0 ∧ cs = []) ∨ (ad.spot = none ∧ CsRel m ro w cs ad.block ad.off)))
  | .hs b g o n es, v => ∃ loc, m b g = some loc ∧ HsRel w o n es v loc
  | .nilm, v => v = .map none
  | .mp b, v => ∃ cb, m b 0 = some (.at cb 0) ∧ v = .map (some cb)
  | .nilf, v => v = .nilFunc
  | .fn f first cap, v => ∃ a b : Array Value, v = .func f a b ∧ VsRel m ro w first a.toList ∧ VsRel m ro w cap b.toList
  | .nili, v => v = .nilIface
  | .ifc t x, v => ∃ y, v = .iface t y ∧ VRel m ro w x y
  | .agg cs, v => ∃ a : Array Value, v = .agg a ∧ (∀ x ∈ a.toList, x.oneCell' = true) ∧ VsRel m ro w cs a.toList
  | .tup cs, v => ∃ a : Array Value, v = .tuple a ∧ VsRel m ro w cs a.toList
  | .junk, _ => True
def VsRel (m : Mp) (ro : Nat → Prop) (w : World) : List AV → List Value → Prop
  | [], vs => vs = []
  | a :: as, vs => ∃ v vs', vs = v :: vs' ∧ VRel m ro w a v ∧ VsRel m ro w as vs'
def CsRel (m : Mp) (ro : Nat → Prop) (w : World) : List AV → Nat → Nat → Prop
  | [], _, _ => True
  | a :: as, cb, off => ro cb ∧ (∃ v, w.cell? ⟨cb, off, none⟩ = some v ∧ v.oneCell' = true ∧ VRel m ro w a v) ∧ CsRel m ro w as cb (off + 1)
end


theorem VsRel.length {m ro w} : ∀ {as : List AV} {vs : List Value}, VsRel m ro w as vs → as.length = vs.length
  | [], vs, h => by simp only [VsRel] at h; subst h; rfl
  | a :: as, vs, h => by
    simp only [VsRel] at h
    obtain ⟨v, vs', rfl, _, h⟩ := h
    simp [VsRel.length h]

theorem VsRel.get {m ro w} : ∀ {as : List AV} {vs : List Value}, VsRel m ro w as vs → ∀ {i : Nat} {a : AV}, as[i]? = some a → ∃ v, vs[i]? = some v ∧ VRel m ro w a v
  | [], vs, h, i, a, hi => by simp at hi
  | x :: as, vs, h, i, a, hi => by
    simp only [VsRel] at h
    obtain ⟨v, vs', rfl, hx, h⟩ := h
    cases i with
    | zero => simp at hi; subst hi; exact ⟨v, rfl, hx⟩
    | succ i => simpa using VsRel.get h (by simpa using hi)

theorem VsRel.of_get {m ro w} : ∀ {as : List AV} {vs : List Value}, as.length = vs.length → (∀ (i : Nat) (a : AV) (v : Value), as[i]? = some a → vs[i]? = some v → VRel m ro w a v) → VsRel m ro w as vs
  | [], vs, hl, _ => by simp only [VsRel]; exact List.length_eq_zero_iff.1 hl.symm
  | a :: as, [], hl, _ => by simp at hl
  | a :: as, v :: vs, hl, h => by
    simp only [VsRel]
    exact ⟨v, vs, rfl, h 0 a v rfl rfl, VsRel.of_get (by simpa using hl) fun i a v ha hv => h (i + 1) a v (by simpa using ha) (by simpa using hv)⟩

theorem VsRel.append {m ro w} : ∀ {as bs : List AV} {vs us : List Value}, VsRel m ro w as vs → VsRel m ro w bs us → VsRel m ro w (as ++ bs) (vs ++ us)
  | [], bs, vs, us, h, h' => by simp only [VsRel] at h; subst h; exact h'
  | a :: as, bs, vs, us, h, h' => by
    simp only [VsRel] at h
    obtain ⟨v, vs', rfl, ha, h⟩ := h
    simp only [List.cons_append, VsRel]
    exact ⟨v, vs' ++ us, rfl, ha, h.append h'⟩

theorem VsRel.take {m ro w} : ∀ {as : List AV} {vs : List Value} (n : Nat), VsRel m ro w as vs → VsRel m ro w (as.take n) (vs.take n)
  | [], vs, n, h => by simp only [VsRel] at h; subst h; simp [VsRel]
  | a :: as, vs, n, h => by
    simp only [VsRel] at h
    obtain ⟨v, vs', rfl, ha, h⟩ := h
    cases n with
    | zero => simp [VsRel]
    | succ n => simp only [List.take_succ_cons, VsRel]; exact ⟨v, _, rfl, ha, h.take n⟩

theorem VsRel.drop {m ro w} : ∀ {as : List AV} {vs : List Value} (n : Nat), VsRel m ro w as vs → VsRel m ro w (as.drop n) (vs.drop n)
  | [], vs, n, h => by simp only [VsRel] at h; subst h; simp [VsRel]
  | a :: as, vs, n, h => by
    cases n with
    | zero => exact h
    | succ n =>
      simp only [VsRel] at h
      obtain ⟨v, vs', rfl, ha, h⟩ := h
      simpa using h.drop n

theorem CsRel_iff {m ro w} : ∀ {cs : List AV} {cb off : Nat}, CsRel m ro w cs cb off ↔ ∀ (i : Nat) (a : AV), cs[i]? = some a → ro cb ∧ ∃ v, w.cell? ⟨cb, off + i, none⟩ = some v ∧ v.oneCell' = true ∧ VRel m ro w a v
  | [], cb, off => by simp [CsRel]
  | a :: as, cb, off => by
    simp only [CsRel]
    rw [CsRel_iff]
    constructor
    · rintro ⟨h1, h2, h3⟩ i x hi
      cases i with
      | zero => simp at hi; subst hi; exact ⟨h1, h2⟩
      | succ i =>
        have := h3 i x (by simpa using hi)
        rw [show off + (i + 1) = off + 1 + i by omega]; exact this
    · intro h
      refine ⟨(h 0 a rfl).1, by simpa using (h 0 a rfl).2, fun i x hi => ?_⟩
      have := h (i + 1) x (by simpa using hi)
      rw [show off + (i + 1) = off + 1 + i by omega] at this; exact this

theorem CsRel.drop {m ro w cs cb off} (h : CsRel m ro w cs cb off) (n : Nat) : CsRel m ro w (cs.drop n) cb (off + n) := by
  rw [CsRel_iff] at *
  intro i a hi
  have := h (n + i) a (by simpa using hi)
  rw [show off + n + i = off + (n + i) by omega]; exact this

theorem CsRel.take {m ro w cs cb off} (h : CsRel m ro w cs cb off) (n : Nat) : CsRel m ro w (cs.take n) cb off := by
  rw [CsRel_iff] at *
  intro i a hi
  refine h i a ?_
  rw [List.getElem?_take] at hi
  split at hi <;> simp_all


inductive Blk where
  | cells (g : Nat) (cs : List AV)
  | fro (g : Nat) (cs : List AV)
  | siter (s : List UInt8) (pos : Nat)
  | dict (es : List (Value × Value))
  | dead

def Blk.own : Blk → Option Nat
  | .cells g _ => some g
  | .siter _ _ => some 0
  | .dict _ => some 0
  | _ => none

abbrev Hp := Nat → Option Blk

def MW (m : Mp) (H : Hp) (cb : Nat) : Prop := ∃ b blk g base, H b = some blk ∧ blk.own = some g ∧ m b g = some (.at cb base)

def Lay (m : Mp) (ro : Nat → Prop) (w : World) (cs : List AV) (c : Array Value) (base : Nat) : Prop :=
  ∀ (i : Nat) (a : AV), cs[i]? = some a → ∃ v, c[base + i]? = some v ∧ v.oneCell' = true ∧ VRel m ro w a v

def BlkRel (m : Mp) (ro : Nat → Prop) (w : World) (b : Nat) : Blk → Prop
  | .cells g cs => ∀ loc, m b g = some loc → match loc with
    | .void => cs = []
    | .at cb base => ∃ c t, w.heap[cb]? = some (.cells c t (0, 0)) ∧ Lay m ro w cs c base
  | .fro g cs => ∀ loc, m b g = some loc → match loc with
    | .void => cs = []
    | .at cb base => CsRel m ro w cs cb base
  | .siter s pos => ∀ loc, m b 0 = some loc → ∃ cb, loc = .at cb 0 ∧ w.heap[cb]? = some (.stringIter ⟨s.toArray⟩ pos)
  | .dict es => ∀ loc, m b 0 = some loc → ∃ cb, loc = .at cb 0 ∧ ∃ arr clock, w.heap[cb]? = some (.map arr clock) ∧ arr.toList.map (fun e => (e.key, e.val)) = es
  | .dead => True

class Globs where
  gv : Nat → AV
  keep : ∀ (g : Nat) (m m' : Mp) (ro : Nat → Prop) (w : World) (v : Value), VRel m ro w (gv g) v → VRel m' ro w (gv g) v
def GRel [Globs] (m : Mp) (ro : Nat → Prop) (w : World) : Prop := ∀ g, VRel m ro w (Globs.gv g) (.pointer (some ⟨g, 0, none⟩))

variable [Globs]

structure Inv (m : Mp) (ro : Nat → Prop) (H : Hp) (w : World) : Prop where
  ro_lt : ∀ cb, ro cb → cb < w.heap.size
  blk : ∀ b x, H b = some x → BlkRel m ro w b x
  inj : ∀ b b' x x' g g' cb base base', H b = some x → H b' = some x' → x.own = some g → x'.own = some g' → m b g = some (.at cb base) → m b' g' = some (.at cb base') → b = b'
  excl : ∀ cb, MW m H cb → ¬ ro cb
  gen : ∀ b x g, H b = some x → x.own = some g → ∀ g' loc, m b g' = some loc → g' ≤ g
  glob : GRel m ro w

structure Step (m : Mp) (ro : Nat → Prop) (H : Hp) (w : World) (m' : Mp) (ro' : Nat → Prop) (H' : Hp) (w' : World) : Prop where
  mle : ∀ b g loc, m b g = some loc → m' b g = some loc
  size : w.heap.size ≤ w'.heap.size
  os : w'.os = w.os
  out : w'.output = w.output
  tape : w'.tape = w.tape
  kept : ∀ cb, cb < w.heap.size → ¬ MW m H cb → w'.heap[cb]? = w.heap[cb]?
  shape : ∀ (cb : Nat) (c : Array Value) (t : TypeId) (fr : Nat × Nat), w.heap[cb]? = some (.cells c t fr) → ∃ c', w'.heap[cb]? = some (.cells c' t fr) ∧ c'.size = c.size
  mw : ∀ cb, MW m' H' cb → MW m H cb ∨ w.heap.size ≤ cb
  ro_le : ∀ cb, ro cb → ro' cb
  ro_new : ∀ cb, ro' cb → ro cb ∨ MW m H cb ∨ w.heap.size ≤ cb

theorem Step.refl (m ro H w) : Step m ro H w m ro H w :=
  ⟨fun _ _ _ h => h, Nat.le_refl _, rfl, rfl, rfl, fun _ _ _ => rfl, fun _ c _ _ h => ⟨c, h, rfl⟩, fun _ h => .inl h, fun _ h => h, fun _ h => .inl h⟩

theorem Step.trans {m ro H w m₁ ro₁ H₁ w₁ m₂ ro₂ H₂ w₂} (a : Step m ro H w m₁ ro₁ H₁ w₁) (b : Step m₁ ro₁ H₁ w₁ m₂ ro₂ H₂ w₂) : Step m ro H w m₂ ro₂ H₂ w₂ where
  mle := fun x g loc h => b.mle x g loc (a.mle x g loc h)
  size := Nat.le_trans a.size b.size
  os := b.os.trans a.os
  out := b.out.trans a.out
  tape := b.tape.trans a.tape
  kept := fun cb hlt hn => by
    rw [b.kept cb (Nat.lt_of_lt_of_le hlt a.size) ?_, a.kept cb hlt hn]
    intro h
    rcases a.mw cb h with h | h
    · exact hn h
    · omega
  shape := fun cb c t fr h => by
    obtain ⟨c₁, h₁, e₁⟩ := a.shape cb c t fr h
    obtain ⟨c₂, h₂, e₂⟩ := b.shape cb c₁ t fr h₁
    exact ⟨c₂, h₂, e₂.trans e₁⟩
  mw := fun cb h => by
    rcases b.mw cb h with h | h
    · exact a.mw cb h
    · exact .inr (Nat.le_trans a.size h)
  ro_le := fun cb h => b.ro_le cb (a.ro_le cb h)
  ro_new := fun cb h => by
    rcases b.ro_new cb h with h | h | h
    · exact a.ro_new cb h
    · rcases a.mw cb h with h | h
      · exact .inr (.inl h)
      · exact .inr (.inr h)
    · exact .inr (.inr (Nat.le_trans a.size h))

theorem HsRel.step {w w' : World} {o n es v} (hs : ∀ (cb : Nat) (c : Array Value) (t : TypeId) (fr : Nat × Nat), w.heap[cb]? = some (.cells c t fr) → ∃ c', w'.heap[cb]? = some (.cells c' t fr) ∧ c'.size = c.size) :
    ∀ {loc}, HsRel w o n es v loc → HsRel w' o n es v loc
  | .void, h => h
  | .at cb base, h => by
    obtain ⟨cap, hv, hle, c, t, fr, hc, hsz⟩ := h
    obtain ⟨c', hc', hs'⟩ := hs cb c t fr hc
    exact ⟨cap, hv, hle, c', t, fr, hc', by omega⟩

theorem cell?_of_heap {w w' : World} {cb off : Nat} (h : w'.heap[cb]? = w.heap[cb]?) : w'.cell? ⟨cb, off, none⟩ = w.cell? ⟨cb, off, none⟩ := by
  simp only [World.cell?, h]

set_option linter.unusedSectionVars false
section
variable {m m' : Mp} {ro ro' : Nat → Prop} {w w' : World}
  (hm : ∀ b g loc, m b g = some loc → m' b g = some loc)
  (hs : ∀ (cb : Nat) (c : Array Value) (t : TypeId) (fr : Nat × Nat), w.heap[cb]? = some (.cells c t fr) → ∃ c', w'.heap[cb]? = some (.cells c' t fr) ∧ c'.size = c.size)
  (hr : ∀ cb, ro cb → ro' cb) (hk : ∀ cb, ro cb → w'.heap[cb]? = w.heap[cb]?)
include hm hs hr hk

mutual
theorem VRel.keep : ∀ (a : AV) (v : Value), VRel m ro w a v → VRel m' ro' w' a v
  | .bool _, _, h | .int _ _, _, h | .str _, _, h | .nilp, _, h | .nilm, _, h | .nilf, _, h | .nili, _, h => by simpa only [VRel] using h
  | .junk, _, _ => by simp only [VRel]
  | .ref b g o, v, h => by
    simp only [VRel] at h ⊢
    obtain ⟨cb, base, h, e⟩ := h
    exact ⟨cb, base, hm _ _ _ h, e⟩
  | .tref cs, v, h => by
    simp only [VRel] at h ⊢
    obtain ⟨cb, off, e, h⟩ := h
    exact ⟨cb, off, e, CsRel.keep cs cb off h⟩
  | .sl k n cs, v, h => by
    simp only [VRel] at h ⊢
    rcases h with h | ⟨hk', ad, cap, e, hle, hf, h⟩
    · exact .inl h
    · exact .inr ⟨hk', ad, cap, e, hle, hf, h.imp id fun h => ⟨h.1, CsRel.keep cs _ _ h.2⟩⟩
  | .hs b g o n es, v, h => by
    simp only [VRel] at h ⊢
    obtain ⟨loc, h, e⟩ := h
    exact ⟨loc, hm _ _ _ h, e.step hs⟩
  | .mp b, v, h => by
    simp only [VRel] at h ⊢
    obtain ⟨cb, h, e⟩ := h
    exact ⟨cb, hm _ _ _ h, e⟩
  | .fn f first cap, v, h => by
    simp only [VRel] at h ⊢
    obtain ⟨a, b, e, h1, h2⟩ := h
    exact ⟨a, b, e, VsRel.keep first _ h1, VsRel.keep cap _ h2⟩
  | .ifc t x, v, h => by
    simp only [VRel] at h ⊢
    obtain ⟨y, e, h⟩ := h
    exact ⟨y, e, VRel.keep x y h⟩
  | .agg cs, v, h => by
    simp only [VRel] at h ⊢
    obtain ⟨a, e, ho, h⟩ := h
    exact ⟨a, e, ho, VsRel.keep cs _ h⟩
  | .tup cs, v, h => by
    simp only [VRel] at h ⊢
    obtain ⟨a, e, h⟩ := h
    exact ⟨a, e, VsRel.keep cs _ h⟩
theorem VsRel.keep : ∀ (as : List AV) (vs : List Value), VsRel m ro w as vs → VsRel m' ro' w' as vs
  | [], vs, h => by simpa only [VsRel] using h
  | a :: as, vs, h => by
    simp only [VsRel] at h ⊢
    obtain ⟨v, vs', e, h1, h2⟩ := h
    exact ⟨v, vs', e, VRel.keep a v h1, VsRel.keep as vs' h2⟩
theorem CsRel.keep : ∀ (cs : List AV) (cb off : Nat), CsRel m ro w cs cb off → CsRel m' ro' w' cs cb off
  | [], _, _, _ => by simp only [CsRel]
  | a :: as, cb, off, h => by
    simp only [CsRel] at h ⊢
    obtain ⟨h1, ⟨v, hv, ho, h2⟩, h3⟩ := h
    exact ⟨hr _ h1, ⟨v, by rw [cell?_of_heap (hk cb h1)]; exact hv, ho, VRel.keep a v h2⟩, CsRel.keep as cb (off + 1) h3⟩
end
end

theorem VRel.step {m ro H w m' ro' H' w'} (hi : Inv m ro H w) (hs : Step m ro H w m' ro' H' w') {a v} (h : VRel m ro w a v) : VRel m' ro' w' a v :=
  VRel.keep hs.mle hs.shape hs.ro_le (fun cb h => hs.kept cb (hi.ro_lt cb h) fun hw => hi.excl cb hw h) a v h
theorem VsRel.step {m ro H w m' ro' H' w'} (hi : Inv m ro H w) (hs : Step m ro H w m' ro' H' w') {a v} (h : VsRel m ro w a v) : VsRel m' ro' w' a v :=
  VsRel.keep hs.mle hs.shape hs.ro_le (fun cb h => hs.kept cb (hi.ro_lt cb h) fun hw => hi.excl cb hw h) a v h
theorem CsRel.step {m ro H w m' ro' H' w'} (hi : Inv m ro H w) (hs : Step m ro H w m' ro' H' w') {cs cb off} (h : CsRel m ro w cs cb off) : CsRel m' ro' w' cs cb off :=
  CsRel.keep hs.mle hs.shape hs.ro_le (fun cb h => hs.kept cb (hi.ro_lt cb h) fun hw => hi.excl cb hw h) cs cb off h

theorem GRel.any {m m' ro w} (h : GRel m ro w) : GRel m' ro w := fun g => Globs.keep g m m' ro w _ (h g)
theorem GRel.step {m ro H w m' ro' H' w'} (hi : Inv m ro H w) (hs : Step m ro H w m' ro' H' w') : GRel m' ro' w' := fun g => (hi.glob g).step hi hs
theorem GRel.more {m ro w} {ro' : Nat → Prop} (hr : ∀ cb, ro cb → ro' cb) (h : GRel m ro w) : GRel m ro' w := fun g =>
  VRel.keep (fun _ _ _ h => h) (fun cb c t fr h => ⟨c, h, rfl⟩) hr (fun _ _ => rfl) _ _ (h g)

end Tab

/- How the abstract heap's invariant goes over a change of one block. -/
namespace Tab
open Go
variable [Globs]

def Owns (m : Mp) (H : Hp) (b cb : Nat) : Prop := ∃ x g base, H b = some x ∧ x.own = some g ∧ m b g = some (.at cb base)

theorem Inv.own_lt {m ro H w} (hi : Inv m ro H w) {b x g cb base} (hb : H b = some x) (hg : x.own = some g) (hm : m b g = some (.at cb base)) : cb < w.heap.size := by
  have h := hi.blk b x hb
  cases x with
  | cells g' cs =>
    simp only [Blk.own, Option.some.injEq] at hg; subst hg
    obtain ⟨c, t, h, _⟩ := h _ hm
    rcases Nat.lt_or_ge cb w.heap.size with h' | h'
    · exact h'
    · simp [Array.getElem?_eq_none h'] at h
  | siter s pos =>
    simp only [Blk.own, Option.some.injEq] at hg; subst hg
    obtain ⟨cb', e, h⟩ := h _ hm
    simp only [Loc.at.injEq] at e
    obtain ⟨rfl, _⟩ := e
    rcases Nat.lt_or_ge cb w.heap.size with h' | h'
    · exact h'
    · simp [Array.getElem?_eq_none h'] at h
  | dict es =>
    simp only [Blk.own, Option.some.injEq] at hg; subst hg
    obtain ⟨cb', e, arr, ck, h, _⟩ := h _ hm
    simp only [Loc.at.injEq] at e
    obtain ⟨rfl, _⟩ := e
    rcases Nat.lt_or_ge cb w.heap.size with h' | h'
    · exact h'
    · simp [Array.getElem?_eq_none h'] at h
  | fro g' cs => simp [Blk.own] at hg
  | dead => simp [Blk.own] at hg

theorem Inv.mw_lt {m ro H w} (hi : Inv m ro H w) {cb} (h : MW m H cb) : cb < w.heap.size := by
  obtain ⟨b, x, g, base, hb, hg, hm⟩ := h
  exact hi.own_lt hb hg hm

theorem BlkRel.keep {m m' : Mp} {ro ro' : Nat → Prop} {w w' : World} {b : Nat}
    (hm : ∀ b g loc, m b g = some loc → m' b g = some loc)
    (hs : ∀ (cb : Nat) (c : Array Value) (t : TypeId) (fr : Nat × Nat), w.heap[cb]? = some (.cells c t fr) → ∃ c', w'.heap[cb]? = some (.cells c' t fr) ∧ c'.size = c.size)
    (hr : ∀ cb, ro cb → ro' cb) (hk : ∀ cb, ro cb → w'.heap[cb]? = w.heap[cb]?) {x : Blk}
    (hb : ∀ g, m' b g = m b g) (hown : ∀ g cb base, x.own = some g → m b g = some (.at cb base) → w'.heap[cb]? = w.heap[cb]?)
    (h : BlkRel m ro w b x) : BlkRel m' ro' w' b x := by
  cases x with
  | cells g cs =>
    intro loc hl
    rw [hb] at hl
    have h := h loc hl
    cases loc with
    | void => exact h
    | «at» cb base =>
      obtain ⟨c, t, hc, hlay⟩ := h
      refine ⟨c, t, by rw [hown g cb base rfl hl]; exact hc, fun i a hi => ?_⟩
      obtain ⟨v, hv, ho, hr'⟩ := hlay i a hi
      exact ⟨v, hv, ho, VRel.keep hm hs hr hk a v hr'⟩
  | fro g cs =>
    intro loc hl
    rw [hb] at hl
    have h := h loc hl
    cases loc with
    | void => exact h
    | «at» cb base => exact CsRel.keep hm hs hr hk cs cb base h
  | siter s pos =>
    intro loc hl
    rw [hb] at hl
    obtain ⟨cb, rfl, h⟩ := h loc hl
    exact ⟨cb, rfl, by rw [hown 0 cb 0 rfl hl]; exact h⟩
  | dict es =>
    intro loc hl
    rw [hb] at hl
    obtain ⟨cb, rfl, h⟩ := h loc hl
    exact ⟨cb, rfl, by rw [hown 0 cb 0 rfl hl]; exact h⟩
  | dead => trivial

theorem Inv.change {m : Mp} {ro : Nat → Prop} {H : Hp} {w : World} (hi : Inv m ro H w) {m' : Mp} {H' : Hp} {w' : World} (b : Nat) (x' : Blk) (g' cb base : Nat)
    (hown : x'.own = some g')
    (hm' : ∀ b₁ g₁, m' b₁ g₁ = if b₁ = b ∧ g₁ = g' then some (.at cb base) else m b₁ g₁)
    (hH' : ∀ b₁, H' b₁ = if b₁ = b then some x' else H b₁)
    (hg : ∀ g₁ l, m b g₁ = some l → g₁ ≤ g')
    (hmle : ∀ l, m b g' = some l → l = .at cb base)
    (hcb : w.heap.size ≤ cb ∨ Owns m H b cb)
    (hcb' : cb < w'.heap.size)
    (hsz : w.heap.size ≤ w'.heap.size) (hos : w'.os = w.os) (hout : w'.output = w.output) (htape : w'.tape = w.tape)
    (hkept : ∀ c, c < w.heap.size → c ≠ cb → w'.heap[c]? = w.heap[c]?)
    (hshape : ∀ (c : Array Value) (t : TypeId) (fr : Nat × Nat), w.heap[cb]? = some (.cells c t fr) → ∃ c', w'.heap[cb]? = some (.cells c' t fr) ∧ c'.size = c.size)
    (hblk : (∀ a v, VRel m ro w a v → VRel m' ro w' a v) → BlkRel m' ro w' b x') :
    Inv m' ro H' w' ∧ Step m ro H w m' ro H' w' := by
  have mle : ∀ b₁ g₁ loc, m b₁ g₁ = some loc → m' b₁ g₁ = some loc := by
    intro b₁ g₁ loc h
    rw [hm']
    split
    · rename_i hc; obtain ⟨rfl, rfl⟩ := hc; rw [hmle loc h]
    · exact h
  have mne : ∀ b₁, b₁ ≠ b → ∀ g, m' b₁ g = m b₁ g := by
    intro b₁ hne g; rw [hm', if_neg (fun h => hne h.1)]
  have shape : ∀ (c : Nat) (cs : Array Value) (t : TypeId) (fr : Nat × Nat), w.heap[c]? = some (.cells cs t fr) → ∃ c', w'.heap[c]? = some (.cells c' t fr) ∧ c'.size = cs.size := by
    intro c cs t fr h
    by_cases hc : c = cb
    · subst hc; exact hshape cs t fr h
    · have hlt : c < w.heap.size := by
        rcases Nat.lt_or_ge c w.heap.size with h' | h'
        · exact h'
        · simp [Array.getElem?_eq_none h'] at h
      exact ⟨cs, by rw [hkept c hlt hc]; exact h, rfl⟩
  have rone : ∀ c, ro c → c ≠ cb := by
    intro c hc e
    subst e
    rcases hcb with h | ⟨x, g, base, h1, h2, h3⟩
    · have := hi.ro_lt c hc; omega
    · exact hi.excl c ⟨b, x, g, base, h1, h2, h3⟩ hc
  have rok : ∀ c, ro c → w'.heap[c]? = w.heap[c]? := fun c hc => hkept c (hi.ro_lt c hc) (rone c hc)
  have other : ∀ b₁ x g₁ c base₁, b₁ ≠ b → H b₁ = some x → x.own = some g₁ → m b₁ g₁ = some (.at c base₁) → c ≠ cb := by
    intro b₁ x g₁ c base₁ hne h1 h2 h3 e
    subst e
    rcases hcb with h | ⟨y, g, base, k1, k2, k3⟩
    · have := hi.own_lt h1 h2 h3; omega
    · exact hne (hi.inj b₁ b x y g₁ g c base₁ base h1 k1 h2 k2 h3 k3)
  have mw : ∀ c, MW m' H' c → c = cb ∨ MW m H c := by
    rintro c ⟨b₁, x, g, base₁, h1, h2, h3⟩
    rw [hH'] at h1
    by_cases hb : b₁ = b
    · subst hb
      rw [if_pos rfl] at h1
      cases h1
      rw [hown] at h2; cases h2
      rw [hm', if_pos ⟨rfl, rfl⟩] at h3
      cases h3
      exact .inl rfl
    · rw [if_neg hb] at h1
      rw [mne b₁ hb] at h3
      exact .inr ⟨b₁, x, g, base₁, h1, h2, h3⟩
  refine ⟨⟨fun c hc => Nat.lt_of_lt_of_le (hi.ro_lt c hc) hsz, ?_, ?_, ?_, ?_, fun g => VRel.keep mle shape (fun _ h => h) rok _ _ (hi.glob g)⟩, ⟨mle, hsz, hos, hout, htape, ?_, shape, ?_, fun _ h => h, fun _ h => .inl h⟩⟩
  · intro b₁ x h
    rw [hH'] at h
    by_cases hb : b₁ = b
    · subst hb
      rw [if_pos rfl] at h
      cases h
      exact hblk fun a v h => VRel.keep mle shape (fun _ h => h) rok a v h
    · rw [if_neg hb] at h
      refine BlkRel.keep mle shape (fun _ h => h) rok (mne b₁ hb) (fun g c base₁ h2 h3 => ?_) (hi.blk b₁ x h)
      exact hkept c (hi.own_lt h h2 h3) (other b₁ x g c base₁ hb h h2 h3)
  · intro b₁ b₂ x₁ x₂ g₁ g₂ c base₁ base₂ h1 h2 k1 k2 l1 l2
    rw [hH'] at h1 h2
    by_cases e1 : b₁ = b
    · by_cases e2 : b₂ = b
      · rw [e1, e2]
      · exfalso
        rw [if_neg e2] at h2
        rw [mne b₂ e2] at l2
        subst e1
        rw [if_pos rfl] at h1
        cases h1
        rw [hown] at k1; cases k1
        rw [hm', if_pos ⟨rfl, rfl⟩] at l1
        cases l1
        exact other b₂ x₂ g₂ _ base₂ e2 h2 k2 l2 rfl
    · rw [if_neg e1] at h1
      rw [mne b₁ e1] at l1
      by_cases e2 : b₂ = b
      · exfalso
        subst e2
        rw [if_pos rfl] at h2
        cases h2
        rw [hown] at k2; cases k2
        rw [hm', if_pos ⟨rfl, rfl⟩] at l2
        cases l2
        exact other b₁ x₁ g₁ _ base₁ e1 h1 k1 l1 rfl
      · rw [if_neg e2] at h2
        rw [mne b₂ e2] at l2
        exact hi.inj b₁ b₂ x₁ x₂ g₁ g₂ c base₁ base₂ h1 h2 k1 k2 l1 l2
  · intro c hc
    rcases mw c hc with rfl | h
    · exact fun hr => rone _ hr rfl
    · exact hi.excl c h
  · intro b₁ x g h1 h2 g₁ loc h3
    rw [hH'] at h1
    by_cases e1 : b₁ = b
    · subst e1
      rw [if_pos rfl] at h1
      cases h1
      rw [hown] at h2; cases h2
      rw [hm'] at h3
      split at h3
      · rename_i hc; omega
      · exact hg _ _ h3
    · rw [if_neg e1] at h1
      rw [mne b₁ e1] at h3
      exact hi.gen b₁ x g h1 h2 g₁ loc h3
  · intro c hlt hn
    refine hkept c hlt fun e => ?_
    subst e
    rcases hcb with h | ⟨x, g, base, h1, h2, h3⟩
    · omega
    · exact hn ⟨b, x, g, base, h1, h2, h3⟩
  · intro c hc
    rcases mw c hc with rfl | h
    · rcases hcb with h | ⟨x, g, base, h1, h2, h3⟩
      · exact .inr h
      · exact .inl ⟨b, x, g, base, h1, h2, h3⟩
    · exact .inl h

theorem Inv.change₀ {m : Mp} {ro ro' : Nat → Prop} {H : Hp} {w : World} (hi : Inv m ro H w) {m' : Mp} {H' : Hp} (b : Nat) (x' : Blk)
    (mle : ∀ b₁ g₁ loc, m b₁ g₁ = some loc → m' b₁ g₁ = some loc)
    (hm' : ∀ b₁ g₁, m' b₁ g₁ = m b₁ g₁ ∨ (b₁ = b ∧ x'.own = some g₁ ∧ m' b₁ g₁ = some .void))
    (hH' : ∀ b₁, H' b₁ = if b₁ = b then some x' else H b₁)
    (hown : ∀ g cb base, x'.own = some g → m' b g ≠ some (.at cb base))
    (hg : ∀ g, x'.own = some g → ∀ g₁ l, m' b g₁ = some l → g₁ ≤ g)
    (hr : ∀ c, ro c → ro' c) (hr' : ∀ c, ro' c → ro c ∨ Owns m H b c)
    (hblk : (∀ a v, VRel m ro w a v → VRel m' ro' w a v) → BlkRel m' ro' w b x') :
    Inv m' ro' H' w ∧ Step m ro H w m' ro' H' w := by
  have mat : ∀ b₁ g₁ cb base, m' b₁ g₁ = some (.at cb base) → m b₁ g₁ = some (.at cb base) := by
    intro b₁ g₁ cb base h
    rcases hm' b₁ g₁ with e | ⟨_, _, e⟩
    · rw [← e]; exact h
    · rw [e] at h; simp at h
  have mne : ∀ b₁, b₁ ≠ b → ∀ g, m' b₁ g = m b₁ g := by
    intro b₁ hne g
    rcases hm' b₁ g with e | ⟨e, _⟩
    · exact e
    · exact (hne e).elim
  have mw : ∀ c, MW m' H' c → MW m H c ∧ ¬ Owns m H b c := by
    rintro c ⟨b₁, x, g, base, h1, h2, h3⟩
    rw [hH'] at h1
    by_cases e : b₁ = b
    · subst e
      rw [if_pos rfl] at h1
      cases h1
      exact (hown g c base h2 h3).elim
    · rw [if_neg e] at h1
      rw [mne b₁ e] at h3
      refine ⟨⟨b₁, x, g, base, h1, h2, h3⟩, ?_⟩
      rintro ⟨y, g', base', k1, k2, k3⟩
      exact e (hi.inj b₁ b x y g g' c base base' h1 k1 h2 k2 h3 k3)
  have shape : ∀ (c : Nat) (cs : Array Value) (t : TypeId) (fr : Nat × Nat), w.heap[c]? = some (.cells cs t fr) → ∃ c', w.heap[c]? = some (.cells c' t fr) ∧ c'.size = cs.size :=
    fun c cs t fr h => ⟨cs, h, rfl⟩
  refine ⟨⟨?_, ?_, ?_, ?_, ?_, fun g => VRel.keep mle shape hr (fun _ _ => rfl) _ _ (hi.glob g)⟩, ⟨mle, Nat.le_refl _, rfl, rfl, rfl, fun _ _ _ => rfl, shape, fun c h => .inl (mw c h).1, hr, ?_⟩⟩
  · intro c hc
    rcases hr' c hc with h | ⟨x, g, base, h1, h2, h3⟩
    · exact hi.ro_lt c h
    · exact hi.own_lt h1 h2 h3
  · intro b₁ x h
    rw [hH'] at h
    by_cases e : b₁ = b
    · subst e
      rw [if_pos rfl] at h
      cases h
      exact hblk fun a v h => VRel.keep mle shape hr (fun _ _ => rfl) a v h
    · rw [if_neg e] at h
      exact BlkRel.keep mle shape hr (fun _ _ => rfl) (mne b₁ e) (fun _ _ _ _ _ => rfl) (hi.blk b₁ x h)
  · intro b₁ b₂ x₁ x₂ g₁ g₂ c base₁ base₂ h1 h2 k1 k2 l1 l2
    rw [hH'] at h1 h2
    by_cases e1 : b₁ = b
    · subst e1
      rw [if_pos rfl] at h1
      cases h1
      exact (hown g₁ c base₁ k1 l1).elim
    · by_cases e2 : b₂ = b
      · subst e2
        rw [if_pos rfl] at h2
        cases h2
        exact (hown g₂ c base₂ k2 l2).elim
      · rw [if_neg e1] at h1
        rw [if_neg e2] at h2
        exact hi.inj b₁ b₂ x₁ x₂ g₁ g₂ c base₁ base₂ h1 h2 k1 k2 (mat _ _ _ _ l1) (mat _ _ _ _ l2)
  · intro c hc hro
    obtain ⟨h1, h2⟩ := mw c hc
    rcases hr' c hro with h | h
    · exact hi.excl c h1 h
    · exact h2 h
  · intro b₁ x g h1 h2 g₁ loc h3
    rw [hH'] at h1
    by_cases e : b₁ = b
    · subst e
      rw [if_pos rfl] at h1
      cases h1
      exact hg g h2 g₁ loc h3
    · rw [if_neg e] at h1
      rw [mne b₁ e] at h3
      exact hi.gen b₁ x g h1 h2 g₁ loc h3
  · intro c hc
    rcases hr' c hc with h | ⟨x, g, base, h1, h2, h3⟩
    · exact .inl h
    · exact .inr (.inl ⟨b, x, g, base, h1, h2, h3⟩)

theorem Inv.same {m ro H w} (hi : Inv m ro H w) {w' : World} (hh : w'.heap = w.heap) (hos : w'.os = w.os) (hout : w'.output = w.output) (htape : w'.tape = w.tape) :
    Inv m ro H w' ∧ Step m ro H w m ro H w' := by
  have hk : ∀ c : Nat, w'.heap[c]? = w.heap[c]? := fun c => by rw [hh]
  have shape : ∀ (c : Nat) (cs : Array Value) (t : TypeId) (fr : Nat × Nat), w.heap[c]? = some (.cells cs t fr) → ∃ c', w'.heap[c]? = some (.cells c' t fr) ∧ c'.size = cs.size :=
    fun c cs t fr h => ⟨cs, by rw [hk]; exact h, rfl⟩
  refine ⟨⟨fun c h => by rw [hh]; exact hi.ro_lt c h, fun b x h => BlkRel.keep (fun _ _ _ h => h) shape (fun _ h => h) (fun c _ => hk c) (fun _ => rfl) (fun _ _ _ _ _ => hk _) (hi.blk b x h), hi.inj, hi.excl, hi.gen, fun g => VRel.keep (fun _ _ _ h => h) shape (fun _ h => h) (fun c _ => hk c) _ _ (hi.glob g)⟩,
    ⟨fun _ _ _ h => h, by rw [hh]; exact Nat.le_refl _, hos, hout, htape, fun c _ _ => hk c, shape, fun _ h => .inl h, fun _ h => h, fun _ h => .inl h⟩⟩

end Tab
