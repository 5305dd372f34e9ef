/- How the abstract heap's invariant goes over a change of one block. -/
import Derived.Test.YthdpblbclgpnjaaAv
set_option linter.unusedVariables false
set_option linter.unusedSimpArgs false
set_option linter.unusedSectionVars false
namespace Tab
open Go
variable [Globs]

def Owns (m : Mp) (H : Hp) (b cb : Nat) : Prop := ∃ x g base, H b = some x ∧ x.own = some g ∧ m b g = some (.at cb base)

theorem Inv.own_lt {m ro H w} (hi : Inv m ro H w) {b x g cb base} (hb : H b = some x) (hg : x.own = some g) (hm : m b g = some (.at cb base)) : cb < w.heap.size := by
  have h := hi.blk b x hb
  cases x with
  | cells g' cs =>
    simp only [Blk.own, Option.some.injEq] at hg; subst hg
    obtain ⟨c, t, h, _⟩ := h _ hm
    rcases Nat.lt_or_ge cb w.heap.size with h' | h'
    · exact h'
    · simp [Array.getElem?_eq_none h'] at h
  | siter s pos =>
    simp only [Blk.own, Option.some.injEq] at hg; subst hg
    obtain ⟨cb', e, h⟩ := h _ hm
    simp only [Loc.at.injEq] at e
    obtain ⟨rfl, _⟩ := e
    rcases Nat.lt_or_ge cb w.heap.size with h' | h'
    · exact h'
    · simp [Array.getElem?_eq_none h'] at h
  | fro g' cs => simp [Blk.own] at hg
  | dead => simp [Blk.own] at hg

theorem Inv.mw_lt {m ro H w} (hi : Inv m ro H w) {cb} (h : MW m H cb) : cb < w.heap.size := by
  obtain ⟨b, x, g, base, hb, hg, hm⟩ := h
  exact hi.own_lt hb hg hm

theorem BlkRel.keep {m m' : Mp} {ro ro' : Nat → Prop} {w w' : World} {b : Nat}
    (hm : ∀ b g loc, m b g = some loc → m' b g = some loc)
    (hs : ∀ (cb : Nat) (c : Array Value) (t : TypeId) (fr : Nat × Nat), w.heap[cb]? = some (.cells c t fr) → ∃ c', w'.heap[cb]? = some (.cells c' t fr) ∧ c'.size = c.size)
    (hr : ∀ cb, ro cb → ro' cb) (hk : ∀ cb, ro cb → w'.heap[cb]? = w.heap[cb]?) {x : Blk}
    (hb : ∀ g, m' b g = m b g) (hown : ∀ g cb base, x.own = some g → m b g = some (.at cb base) → w'.heap[cb]? = w.heap[cb]?)
    (h : BlkRel m ro w b x) : BlkRel m' ro' w' b x := by
  cases x with
  | cells g cs =>
    intro loc hl
    rw [hb] at hl
    have h := h loc hl
    cases loc with
    | void => exact h
    | «at» cb base =>
      obtain ⟨c, t, hc, hlay⟩ := h
      refine ⟨c, t, by rw [hown g cb base rfl hl]; exact hc, fun i a hi => ?_⟩
      obtain ⟨v, hv, ho, hr'⟩ := hlay i a hi
      exact ⟨v, hv, ho, VRel.keep hm hs hr hk a v hr'⟩
  | fro g cs =>
    intro loc hl
    rw [hb] at hl
    have h := h loc hl
    cases loc with
    | void => exact h
    | «at» cb base => exact CsRel.keep hm hs hr hk cs cb base h
  | siter s pos =>
    intro loc hl
    rw [hb] at hl
    obtain ⟨cb, rfl, h⟩ := h loc hl
    exact ⟨cb, rfl, by rw [hown 0 cb 0 rfl hl]; exact h⟩
  | dead => trivial

/-- One abstract block changes (or comes), and with it one block of the model, its own or a new one. -/
theorem Inv.change {m : Mp} {ro : Nat → Prop} {H : Hp} {w : World} (hi : Inv m ro H w) {m' : Mp} {H' : Hp} {w' : World} (b : Nat) (x' : Blk) (g' cb base : Nat)
    (hown : x'.own = some g')
    (hm' : ∀ b₁ g₁, m' b₁ g₁ = if b₁ = b ∧ g₁ = g' then some (.at cb base) else m b₁ g₁)
    (hH' : ∀ b₁, H' b₁ = if b₁ = b then some x' else H b₁)
    (hg : ∀ g₁ l, m b g₁ = some l → g₁ ≤ g')
    (hmle : ∀ l, m b g' = some l → l = .at cb base)
    (hcb : w.heap.size ≤ cb ∨ Owns m H b cb)
    (hcb' : cb < w'.heap.size)
    (hsz : w.heap.size ≤ w'.heap.size) (hos : w'.os = w.os) (hout : w'.output = w.output) (htape : w'.tape = w.tape)
    (hkept : ∀ c, c < w.heap.size → c ≠ cb → w'.heap[c]? = w.heap[c]?)
    (hshape : ∀ (c : Array Value) (t : TypeId) (fr : Nat × Nat), w.heap[cb]? = some (.cells c t fr) → ∃ c', w'.heap[cb]? = some (.cells c' t fr) ∧ c'.size = c.size)
    (hblk : (∀ a v, VRel m ro w a v → VRel m' ro w' a v) → BlkRel m' ro w' b x') :
    Inv m' ro H' w' ∧ Step m ro H w m' ro H' w' := by
  have mle : ∀ b₁ g₁ loc, m b₁ g₁ = some loc → m' b₁ g₁ = some loc := by
    intro b₁ g₁ loc h
    rw [hm']
    split
    · rename_i hc; obtain ⟨rfl, rfl⟩ := hc; rw [hmle loc h]
    · exact h
  have mne : ∀ b₁, b₁ ≠ b → ∀ g, m' b₁ g = m b₁ g := by
    intro b₁ hne g; rw [hm', if_neg (fun h => hne h.1)]
  have shape : ∀ (c : Nat) (cs : Array Value) (t : TypeId) (fr : Nat × Nat), w.heap[c]? = some (.cells cs t fr) → ∃ c', w'.heap[c]? = some (.cells c' t fr) ∧ c'.size = cs.size := by
    intro c cs t fr h
    by_cases hc : c = cb
    · subst hc; exact hshape cs t fr h
    · have hlt : c < w.heap.size := by
        rcases Nat.lt_or_ge c w.heap.size with h' | h'
        · exact h'
        · simp [Array.getElem?_eq_none h'] at h
      exact ⟨cs, by rw [hkept c hlt hc]; exact h, rfl⟩
  have rone : ∀ c, ro c → c ≠ cb := by
    intro c hc e
    subst e
    rcases hcb with h | ⟨x, g, base, h1, h2, h3⟩
    · have := hi.ro_lt c hc; omega
    · exact hi.excl c ⟨b, x, g, base, h1, h2, h3⟩ hc
  have rok : ∀ c, ro c → w'.heap[c]? = w.heap[c]? := fun c hc => hkept c (hi.ro_lt c hc) (rone c hc)
  have other : ∀ b₁ x g₁ c base₁, b₁ ≠ b → H b₁ = some x → x.own = some g₁ → m b₁ g₁ = some (.at c base₁) → c ≠ cb := by
    intro b₁ x g₁ c base₁ hne h1 h2 h3 e
    subst e
    rcases hcb with h | ⟨y, g, base, k1, k2, k3⟩
    · have := hi.own_lt h1 h2 h3; omega
    · exact hne (hi.inj b₁ b x y g₁ g c base₁ base h1 k1 h2 k2 h3 k3)
  have mw : ∀ c, MW m' H' c → c = cb ∨ MW m H c := by
    rintro c ⟨b₁, x, g, base₁, h1, h2, h3⟩
    rw [hH'] at h1
    by_cases hb : b₁ = b
    · subst hb
      rw [if_pos rfl] at h1
      cases h1
      rw [hown] at h2; cases h2
      rw [hm', if_pos ⟨rfl, rfl⟩] at h3
      cases h3
      exact .inl rfl
    · rw [if_neg hb] at h1
      rw [mne b₁ hb] at h3
      exact .inr ⟨b₁, x, g, base₁, h1, h2, h3⟩
  refine ⟨⟨fun c hc => Nat.lt_of_lt_of_le (hi.ro_lt c hc) hsz, ?_, ?_, ?_, ?_, fun g => VRel.keep mle shape (fun _ h => h) rok _ _ (hi.glob g)⟩, ⟨mle, hsz, hos, hout, htape, ?_, shape, ?_, fun _ h => h, fun _ h => .inl h⟩⟩
  · intro b₁ x h
    rw [hH'] at h
    by_cases hb : b₁ = b
    · subst hb
      rw [if_pos rfl] at h
      cases h
      exact hblk fun a v h => VRel.keep mle shape (fun _ h => h) rok a v h
    · rw [if_neg hb] at h
      refine BlkRel.keep mle shape (fun _ h => h) rok (mne b₁ hb) (fun g c base₁ h2 h3 => ?_) (hi.blk b₁ x h)
      exact hkept c (hi.own_lt h h2 h3) (other b₁ x g c base₁ hb h h2 h3)
  · intro b₁ b₂ x₁ x₂ g₁ g₂ c base₁ base₂ h1 h2 k1 k2 l1 l2
    rw [hH'] at h1 h2
    by_cases e1 : b₁ = b
    · by_cases e2 : b₂ = b
      · rw [e1, e2]
      · exfalso
        rw [if_neg e2] at h2
        rw [mne b₂ e2] at l2
        subst e1
        rw [if_pos rfl] at h1
        cases h1
        rw [hown] at k1; cases k1
        rw [hm', if_pos ⟨rfl, rfl⟩] at l1
        cases l1
        exact other b₂ x₂ g₂ _ base₂ e2 h2 k2 l2 rfl
    · rw [if_neg e1] at h1
      rw [mne b₁ e1] at l1
      by_cases e2 : b₂ = b
      · exfalso
        subst e2
        rw [if_pos rfl] at h2
        cases h2
        rw [hown] at k2; cases k2
        rw [hm', if_pos ⟨rfl, rfl⟩] at l2
        cases l2
        exact other b₁ x₁ g₁ _ base₁ e1 h1 k1 l1 rfl
      · rw [if_neg e2] at h2
        rw [mne b₂ e2] at l2
        exact hi.inj b₁ b₂ x₁ x₂ g₁ g₂ c base₁ base₂ h1 h2 k1 k2 l1 l2
  · intro c hc
    rcases mw c hc with rfl | h
    · exact fun hr => rone _ hr rfl
    · exact hi.excl c h
  · intro b₁ x g h1 h2 g₁ loc h3
    rw [hH'] at h1
    by_cases e1 : b₁ = b
    · subst e1
      rw [if_pos rfl] at h1
      cases h1
      rw [hown] at h2; cases h2
      rw [hm'] at h3
      split at h3
      · rename_i hc; omega
      · exact hg _ _ h3
    · rw [if_neg e1] at h1
      rw [mne b₁ e1] at h3
      exact hi.gen b₁ x g h1 h2 g₁ loc h3
  · intro c hlt hn
    refine hkept c hlt fun e => ?_
    subst e
    rcases hcb with h | ⟨x, g, base, h1, h2, h3⟩
    · omega
    · exact hn ⟨b, x, g, base, h1, h2, h3⟩
  · intro c hc
    rcases mw c hc with rfl | h
    · rcases hcb with h | ⟨x, g, base, h1, h2, h3⟩
      · exact .inr h
      · exact .inl ⟨b, x, g, base, h1, h2, h3⟩
    · exact .inl h

/-- One abstract block changes (or comes) and lies nowhere (a nil slice that is being grown), or isn't owned any more; the model's memory stays. -/
theorem Inv.change₀ {m : Mp} {ro ro' : Nat → Prop} {H : Hp} {w : World} (hi : Inv m ro H w) {m' : Mp} {H' : Hp} (b : Nat) (x' : Blk)
    (mle : ∀ b₁ g₁ loc, m b₁ g₁ = some loc → m' b₁ g₁ = some loc)
    (hm' : ∀ b₁ g₁, m' b₁ g₁ = m b₁ g₁ ∨ (b₁ = b ∧ x'.own = some g₁ ∧ m' b₁ g₁ = some .void))
    (hH' : ∀ b₁, H' b₁ = if b₁ = b then some x' else H b₁)
    (hown : ∀ g cb base, x'.own = some g → m' b g ≠ some (.at cb base))
    (hg : ∀ g, x'.own = some g → ∀ g₁ l, m' b g₁ = some l → g₁ ≤ g)
    (hr : ∀ c, ro c → ro' c) (hr' : ∀ c, ro' c → ro c ∨ Owns m H b c)
    (hblk : (∀ a v, VRel m ro w a v → VRel m' ro' w a v) → BlkRel m' ro' w b x') :
    Inv m' ro' H' w ∧ Step m ro H w m' ro' H' w := by
  have mat : ∀ b₁ g₁ cb base, m' b₁ g₁ = some (.at cb base) → m b₁ g₁ = some (.at cb base) := by
    intro b₁ g₁ cb base h
    rcases hm' b₁ g₁ with e | ⟨_, _, e⟩
    · rw [← e]; exact h
    · rw [e] at h; simp at h
  have mne : ∀ b₁, b₁ ≠ b → ∀ g, m' b₁ g = m b₁ g := by
    intro b₁ hne g
    rcases hm' b₁ g with e | ⟨e, _⟩
    · exact e
    · exact (hne e).elim
  have mw : ∀ c, MW m' H' c → MW m H c ∧ ¬ Owns m H b c := by
    rintro c ⟨b₁, x, g, base, h1, h2, h3⟩
    rw [hH'] at h1
    by_cases e : b₁ = b
    · subst e
      rw [if_pos rfl] at h1
      cases h1
      exact (hown g c base h2 h3).elim
    · rw [if_neg e] at h1
      rw [mne b₁ e] at h3
      refine ⟨⟨b₁, x, g, base, h1, h2, h3⟩, ?_⟩
      rintro ⟨y, g', base', k1, k2, k3⟩
      exact e (hi.inj b₁ b x y g g' c base base' h1 k1 h2 k2 h3 k3)
  have shape : ∀ (c : Nat) (cs : Array Value) (t : TypeId) (fr : Nat × Nat), w.heap[c]? = some (.cells cs t fr) → ∃ c', w.heap[c]? = some (.cells c' t fr) ∧ c'.size = cs.size :=
    fun c cs t fr h => ⟨cs, h, rfl⟩
  refine ⟨⟨?_, ?_, ?_, ?_, ?_, fun g => VRel.keep mle shape hr (fun _ _ => rfl) _ _ (hi.glob g)⟩, ⟨mle, Nat.le_refl _, rfl, rfl, rfl, fun _ _ _ => rfl, shape, fun c h => .inl (mw c h).1, hr, ?_⟩⟩
  · intro c hc
    rcases hr' c hc with h | ⟨x, g, base, h1, h2, h3⟩
    · exact hi.ro_lt c h
    · exact hi.own_lt h1 h2 h3
  · intro b₁ x h
    rw [hH'] at h
    by_cases e : b₁ = b
    · subst e
      rw [if_pos rfl] at h
      cases h
      exact hblk fun a v h => VRel.keep mle shape hr (fun _ _ => rfl) a v h
    · rw [if_neg e] at h
      exact BlkRel.keep mle shape hr (fun _ _ => rfl) (mne b₁ e) (fun _ _ _ _ _ => rfl) (hi.blk b₁ x h)
  · intro b₁ b₂ x₁ x₂ g₁ g₂ c base₁ base₂ h1 h2 k1 k2 l1 l2
    rw [hH'] at h1 h2
    by_cases e1 : b₁ = b
    · subst e1
      rw [if_pos rfl] at h1
      cases h1
      exact (hown g₁ c base₁ k1 l1).elim
    · by_cases e2 : b₂ = b
      · subst e2
        rw [if_pos rfl] at h2
        cases h2
        exact (hown g₂ c base₂ k2 l2).elim
      · rw [if_neg e1] at h1
        rw [if_neg e2] at h2
        exact hi.inj b₁ b₂ x₁ x₂ g₁ g₂ c base₁ base₂ h1 h2 k1 k2 (mat _ _ _ _ l1) (mat _ _ _ _ l2)
  · intro c hc hro
    obtain ⟨h1, h2⟩ := mw c hc
    rcases hr' c hro with h | h
    · exact hi.excl c h1 h
    · exact h2 h
  · intro b₁ x g h1 h2 g₁ loc h3
    rw [hH'] at h1
    by_cases e : b₁ = b
    · subst e
      rw [if_pos rfl] at h1
      cases h1
      exact hg g h2 g₁ loc h3
    · rw [if_neg e] at h1
      rw [mne b₁ e] at h3
      exact hi.gen b₁ x g h1 h2 g₁ loc h3
  · intro c hc
    rcases hr' c hc with h | ⟨x, g, base, h1, h2, h3⟩
    · exact .inl h
    · exact .inr (.inl ⟨b, x, g, base, h1, h2, h3⟩)

/-- Another world with the same memory (a draw). -/
theorem Inv.same {m ro H w} (hi : Inv m ro H w) {w' : World} (hh : w'.heap = w.heap) (hos : w'.os = w.os) (hout : w'.output = w.output) (htape : w'.tape = w.tape) :
    Inv m ro H w' ∧ Step m ro H w m ro H w' := by
  have hk : ∀ c : Nat, w'.heap[c]? = w.heap[c]? := fun c => by rw [hh]
  have shape : ∀ (c : Nat) (cs : Array Value) (t : TypeId) (fr : Nat × Nat), w.heap[c]? = some (.cells cs t fr) → ∃ c', w'.heap[c]? = some (.cells c' t fr) ∧ c'.size = cs.size :=
    fun c cs t fr h => ⟨cs, by rw [hk]; exact h, rfl⟩
  refine ⟨⟨fun c h => by rw [hh]; exact hi.ro_lt c h, fun b x h => BlkRel.keep (fun _ _ _ h => h) shape (fun _ h => h) (fun c _ => hk c) (fun _ => rfl) (fun _ _ _ _ _ => hk _) (hi.blk b x h), hi.inj, hi.excl, hi.gen, fun g => VRel.keep (fun _ _ _ h => h) shape (fun _ h => h) (fun c _ => hk c) _ _ (hi.glob g)⟩,
    ⟨fun _ _ _ h => h, by rw [hh]; exact Nat.le_refl _, hos, hout, htape, fun c _ _ => hk c, shape, fun _ h => .inl h, fun _ h => h, fun _ h => .inl h⟩⟩

end Tab
