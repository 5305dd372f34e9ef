/- Changes from a state to one that says less: slots forgotten, slices frozen, a nil slice taken for a row that is still empty; and calls with arguments that are read. -/
import Derived.Test.YthdpblbclgpnjaaFun
set_option linter.unusedVariables false
set_option linter.unusedSimpArgs false
set_option linter.unusedSectionVars false
namespace Tab
open Go
variable [Globs]

/-- Slots of which these are known. -/
def fr : List (Nat × AV) → Slots
  | [] => fun _ => .junk
  | (t, v) :: l => upd (fr l) t v

def frOk (s : Slots) : List (Nat × AV) → Prop
  | [] => True
  | (t, v) :: l => s t = v ∧ frOk s l

theorem fr_le {s : Slots} : ∀ {l : List (Nat × AV)}, frOk s l → ∀ t, fr l t = .junk ∨ fr l t = s t
  | [], _, t => .inl rfl
  | (t', v) :: l, h, t => by
    simp only [fr, upd]
    by_cases e : t = t'
    · subst e
      simp only [Nat.beq_refl, cond_true]
      exact .inr h.1.symm
    · have : Nat.beq t t' = false := by rw [← Bool.not_eq_true]; intro h; exact e (Nat.eq_of_beq_eq_true h)
      rw [this]
      exact fr_le h.2 t

theorem Ent.weak {nt s H s'} (h : ∀ t, s' t = .junk ∨ s' t = s t) : Ent nt s H s' H := by
  rintro c a w ⟨m, ro, h1, h2, hsl, h3⟩
  refine ⟨m, ro, h1, h2, fun t => ?_, h3⟩
  rcases h t with e | e
  · rw [e]; simp only [VRel]
  · rw [e]; exact hsl t

theorem Ent.fr {nt s H l} (h : frOk s l) : Ent nt s H (fr l) H := Ent.weak (fr_le h)
theorem Ent.fr' {nt s H H' l} (h : frOk s l) (e : H = H') : Ent nt s H (Tab.fr l) H' := by subst e; exact Ent.fr h

theorem loopNext {ι : Type} {nt : Fr} {st : ι → Slots × List Blk} {μ : ι → Nat} {i : ι} {K : Post} {s : Slots} {H : List Blk} (j : ι) (hm : μ j < μ i) (h : Ent nt s H (st j).1 (st j).2) : loopK nt st μ i K .normal s H := ⟨j, hm, h⟩

theorem lk_set {H : List Blk} {b : Nat} {x : Blk} (h : b < H.length) : ∀ b₁, lk (H.set b x) b₁ = if b₁ = b then some x else lk H b₁ := by
  intro b₁
  simp only [lk, List.getElem?_set]
  by_cases e : b = b₁
  · simp [e, e ▸ h]
  · simp [e, Ne.symm e]

theorem lk_push {H : List Blk} {x : Blk} : ∀ b₁, lk (H ++ [x]) b₁ = if b₁ = H.length then some x else lk H b₁ := by
  intro b₁
  simp only [lk, List.getElem?_append]
  by_cases h : b₁ < H.length
  · simp [h, Nat.ne_of_lt h]
  · by_cases e : b₁ = H.length
    · simp [e]
    · simp only [h, if_false, e]
      rw [List.getElem?_eq_none (by simp; omega), List.getElem?_eq_none (by omega)]

/-- A block that nobody writes any more. -/
theorem Ent.froz {nt s H g cs} (b : Nat) (hb : H[b]? = some (.cells g cs)) : Ent nt s H s (H.set b (.fro g cs)) := by
  rintro c a w ⟨m, ro, hi, hst, hsl, hsz, hd⟩
  have hlt := (List.getElem?_eq_some_iff.1 hb).1
  obtain ⟨k1, k2⟩ := hi.inv.change₀ (m' := m) (ro' := fun cb => ro cb ∨ Owns m (lk H) b cb) (H' := lk (H.set b (.fro g cs))) b (.fro g cs) (fun _ _ _ h => h) (fun _ _ => .inl rfl) (lk_set hlt)
    (fun g cb base h => by simp [Blk.own] at h) (fun g h => by simp [Blk.own] at h) (fun _ h => .inl h) (fun _ h => h)
    (fun keep loc hl => by
      have h := hi.inv.blk b _ hb loc hl
      cases loc with
      | void => exact h
      | «at» cb base =>
        obtain ⟨c, t, hc, hlay⟩ := h
        refine CsRel_iff.2 ?_
        intro i x hix
        obtain ⟨v, hv, ho, hr⟩ := hlay i x hix
        exact ⟨.inr ⟨_, g, base, hb, rfl, hl⟩, v, by simp only [World.cell?, hc]; simpa using hv, ho, keep x v hr⟩)
  exact ⟨m, _, ⟨k1, fun b g loc h => by simpa using hi.bound b g loc h⟩, hst.trans k2, hsl.step hi.inv k2, hsz, hd⟩

theorem froz_val {m ro w H b g o n es cs} (hi : InvL m ro H w) (hb : H[b]? = some (.fro g cs)) (hfit : o + n * es ≤ cs.length) {v : Value} (h : VRel m ro w (.hs b g o n es) v) :
    VRel m ro w (.sl .any n ((cs.drop o).take (n * es))) v := by
  simp only [VRel] at h ⊢
  obtain ⟨loc, hm, hh⟩ := h
  have hbr := hi.inv.blk b _ hb loc hm
  cases loc with
  | void =>
    simp only [HsRel] at hh
    obtain ⟨rfl, rfl, rfl⟩ := hh
    exact .inl ⟨by simp, rfl, rfl, by simp⟩
  | «at» cb base =>
    simp only [HsRel] at hh
    obtain ⟨cap, rfl, hle, _⟩ := hh
    exact .inr ⟨by simp, _, cap, rfl, hle, by simp, .inr ⟨rfl, (CsRel.drop hbr o).take _⟩⟩

theorem Ent.slot {nt s H b g o n es cs} (t : Nat) (ht : s t = .hs b g o n es) (hb : H[b]? = some (.fro g cs)) (hfit : o + n * es ≤ cs.length) :
    Ent nt s H (upd s t (.sl .any n ((cs.drop o).take (n * es)))) H := by
  rintro c a w ⟨m, ro, hi, hst, hsl, hsz, hd⟩
  refine ⟨m, ro, hi, hst, fun t' => ?_, hsz, hd⟩
  simp only [upd]
  by_cases e : t' = t
  · subst e
    simp only [Nat.beq_refl, cond_true]
    have := hsl t'
    rw [ht] at this
    exact froz_val hi hb hfit this
  · have : Nat.beq t' t = false := by rw [← Bool.not_eq_true]; intro h; exact e (Nat.eq_of_beq_eq_true h)
    rw [this]
    exact hsl t'

/-- A slot's slice frozen, its block with it. -/
theorem Ent.freeze {nt s H b g n es cs} (t : Nat) (ht : s t = .hs b g 0 n es) (hb : H[b]? = some (.cells g cs)) (hfit : n * es = cs.length) :
    Ent nt s H (upd s t (.sl .any n cs)) (H.set b (.fro g cs)) := by
  have hlt := (List.getElem?_eq_some_iff.1 hb).1
  refine (Ent.froz b hb).trans ?_
  have := Ent.slot (nt := nt) (s := s) (H := H.set b (.fro g cs)) (cs := cs) t ht (by simp [hlt]) (by omega)
  rwa [List.drop_zero, hfit, List.take_length] at this

theorem InvL.cellTo {m ro w H gc ccs x y} (hi : InvL m ro H w) (c i : Nat) (hc : H[c]? = some (.cells gc ccs)) (hx : ccs[i]? = some x)
    (hxy : ∀ v, VRel m ro w x v → VRel m ro w y v) : InvL m ro (H.set c (.cells gc (ccs.set i y))) w ∧ Step m ro (lk H) w m ro (lk (H.set c (.cells gc (ccs.set i y)))) w := by
  have hlt := (List.getElem?_eq_some_iff.1 hc).1
  have hset := lk_set (x := .cells gc (ccs.set i y)) hlt
  have hmw : ∀ cb, MW m (lk (H.set c (.cells gc (ccs.set i y)))) cb → MW m (lk H) cb := by
    rintro cb ⟨b, x', g, base, h1, h2, h3⟩
    rw [hset] at h1
    by_cases e : b = c
    · subst e
      rw [if_pos rfl] at h1
      cases h1
      exact ⟨b, _, g, base, hc, h2, h3⟩
    · rw [if_neg e] at h1
      exact ⟨b, x', g, base, h1, h2, h3⟩
  have hown : ∀ b x' g, lk (H.set c (.cells gc (ccs.set i y))) b = some x' → x'.own = some g → ∃ x'', lk H b = some x'' ∧ x''.own = some g := by
    intro b x' g h1 h2
    rw [hset] at h1
    by_cases e : b = c
    · subst e
      rw [if_pos rfl] at h1
      cases h1
      exact ⟨_, hc, h2⟩
    · rw [if_neg e] at h1
      exact ⟨x', h1, h2⟩
  refine ⟨⟨⟨hi.inv.ro_lt, ?_, ?_, fun cb h => hi.inv.excl cb (hmw cb h), ?_, hi.inv.glob⟩, fun b g loc h => by simpa using hi.bound b g loc h⟩, ⟨fun _ _ _ h => h, Nat.le_refl _, rfl, rfl, rfl, fun _ _ _ => rfl, fun cb c t fr h => ⟨c, h, rfl⟩, fun cb h => .inl (hmw cb h), fun _ h => h, fun _ h => .inl h⟩⟩
  · intro b x' h
    rw [hset] at h
    by_cases e : b = c
    · subst e
      rw [if_pos rfl] at h
      cases h
      intro loc hl
      have hbr := hi.inv.blk b _ hc loc hl
      cases loc with
      | void =>
        simp only at hbr
        subst hbr
        simp at hx
      | «at» cb base =>
        obtain ⟨cc, t, h1, hlay⟩ := hbr
        refine ⟨cc, t, h1, fun j a' hj => ?_⟩
        rw [List.getElem?_set] at hj
        split at hj
        · rename_i e
          subst e
          split at hj
          · simp only [Option.some.injEq] at hj
            subst hj
            obtain ⟨v, hv, ho, hr⟩ := hlay i x hx
            exact ⟨v, hv, ho, hxy v hr⟩
          · simp at hj
        · exact hlay j a' hj
    · rw [if_neg e] at h
      exact hi.inv.blk b x' h
  · intro b b' x' x'' g g' cb base base' h1 h2 k1 k2 l1 l2
    obtain ⟨y1, h1', k1'⟩ := hown b x' g h1 k1
    obtain ⟨y2, h2', k2'⟩ := hown b' x'' g' h2 k2
    exact hi.inv.inj b b' y1 y2 g g' cb base base' h1' h2' k1' k2' l1 l2
  · intro b x' g h1 h2 g₁ loc h3
    obtain ⟨y1, h1', k1'⟩ := hown b x' g h1 h2
    exact hi.inv.gen b y1 g h1' k1' g₁ loc h3

/-- A cell of a block changes to what says less of the same value. -/
theorem Ent.cellTo {nt s H gc ccs x y} (c i : Nat) (hc : H[c]? = some (.cells gc ccs)) (hx : ccs[i]? = some x)
    (hxy : ∀ m ro w v, InvL m ro H w → VRel m ro w x v → VRel m ro w y v) : Ent nt s H s (H.set c (.cells gc (ccs.set i y))) := by
  rintro cx a w ⟨m, ro, hi, hst, hsl, hsz, hd⟩
  obtain ⟨k1, k2⟩ := hi.cellTo c i hc hx (fun v h => hxy m ro w v hi h)
  exact ⟨m, ro, k1, hst.trans k2, hsl, hsz, hd⟩

theorem Ent.cell {nt s H gc ccs b g o n es cs} (c i : Nat) (hc : H[c]? = some (.cells gc ccs)) (hx : ccs[i]? = some (.hs b g o n es)) (hb : H[b]? = some (.fro g cs)) (hfit : o + n * es ≤ cs.length) :
    Ent nt s H s (H.set c (.cells gc (ccs.set i (.sl .any n ((cs.drop o).take (n * es)))))) :=
  Ent.cellTo c i hc hx fun _ _ _ _ hi h => froz_val hi hb hfit h

/-- A cell's slice frozen, its block with it. -/
theorem Ent.freezeCell {nt s H gc ccs b g n es cs} (c i : Nat) (hc : H[c]? = some (.cells gc ccs)) (hx : ccs[i]? = some (.hs b g 0 n es)) (hb : H[b]? = some (.cells g cs)) (hne : c ≠ b) (hfit : n * es = cs.length) :
    Ent nt s H s ((H.set b (.fro g cs)).set c (.cells gc (ccs.set i (.sl .any n cs)))) := by
  have hlt := (List.getElem?_eq_some_iff.1 hb).1
  refine (Ent.froz b hb).trans ?_
  have := Ent.cell (nt := nt) (s := s) (H := H.set b (.fro g cs)) (gc := gc) (ccs := ccs) (cs := cs) c i (by rw [List.getElem?_set_ne (Ne.symm hne)]; exact hc) hx (by simp [hlt]) (by omega)
  rwa [List.drop_zero, hfit, List.take_length] at this

/-- A new name, for what is nil as yet. -/
theorem InvL.void {m ro w H} (hi : InvL m ro H w) : ∃ m', m' H.length 0 = some .void ∧ InvL m' ro (H ++ [.cells 0 []]) w ∧ Step m ro (lk H) w m' ro (lk (H ++ [.cells 0 []])) w := by
  have hn : ∀ g, m H.length g = none := fun g => by
    cases h : m H.length g with
    | none => rfl
    | some l => exact absurd (hi.bound _ _ _ h) (Nat.lt_irrefl _)
  obtain ⟨k1, k2⟩ := hi.inv.change₀ (ro' := ro) (m' := fun b₁ g₁ => if b₁ = H.length ∧ g₁ = 0 then some .void else m b₁ g₁) (H' := lk (H ++ [.cells 0 []])) H.length (.cells 0 [])
    (fun b₁ g₁ l h => by
      by_cases hcc : b₁ = H.length ∧ g₁ = 0
      · obtain ⟨rfl, rfl⟩ := hcc; rw [hn] at h; simp at h
      · simp only [hcc, if_false]; exact h)
    (fun b₁ g₁ => by
      by_cases hcc : b₁ = H.length ∧ g₁ = 0
      · exact .inr ⟨hcc.1, by rw [hcc.2]; rfl, by simp [hcc]⟩
      · exact .inl (by simp [hcc]))
    lk_push
    (fun g₁ cb base h => by simp only [Blk.own, Option.some.injEq] at h; subst h; simp)
    (fun g₁ h g₂ l h2 => by
      by_cases hcc : g₂ = 0
      · omega
      · simp only [hcc, and_false, if_false] at h2; rw [hn] at h2; simp at h2)
    (fun _ h => h) (fun _ h => .inl h)
    (fun _ loc h => by
      simp only [and_self, if_true, Option.some.injEq] at h
      subst h
      rfl)
  refine ⟨_, by simp, ⟨k1, fun b g loc h => ?_⟩, k2⟩
  simp only [List.length_append, List.length_singleton]
  split at h
  · rename_i hc; omega
  · have := hi.bound b g loc h; omega

theorem nil_void {m ro w n es v} (hm : m n 0 = some .void) (h : VRel m ro w (.sl .nil 0 []) v) : VRel m ro w (.hs n 0 0 0 es) v := by
  simp only [VRel] at h ⊢
  rcases h with ⟨_, h, _⟩ | ⟨h, _⟩
  · exact ⟨.void, hm, by simp [HsRel, h]⟩
  · exact absurd rfl h

/-- A nil slice as a row that is still empty. -/
theorem Ent.nil {nt s H} (t es : Nat) (ht : s t = .sl .nil 0 []) : Ent nt s H (upd s t (.hs H.length 0 0 0 es)) (H ++ [.cells 0 []]) := by
  rintro c a w ⟨m, ro, hi, hst, hsl, hsz, hd⟩
  obtain ⟨m', hm, k1, k2⟩ := hi.void
  refine ⟨_, ro, k1, hst.trans k2, fun t' => ?_, hsz, hd⟩
  have hold := (hsl t').step hi.inv k2
  simp only [upd]
  by_cases e : t' = t
  · subst e
    simp only [Nat.beq_refl, cond_true]
    rw [ht] at hold
    exact nil_void hm hold
  · have : Nat.beq t' t = false := by rw [← Bool.not_eq_true]; intro h; exact e (Nat.eq_of_beq_eq_true h)
    rw [this]
    exact hold

/-- The same, of a cell. -/
theorem Ent.nilCell {nt s} {H : List Blk} {gc ccs} (c i es : Nat) (hc : H[c]? = some (.cells gc ccs)) (hx : ccs[i]? = some (.sl .nil 0 [])) :
    Ent nt s H s ((H ++ [Blk.cells 0 []]).set c (.cells gc (ccs.set i (.hs H.length 0 0 0 es)))) := by
  rintro cx a w ⟨m, ro, hi, hst, hsl, hsz, hd⟩
  obtain ⟨m', hm, k1, k2⟩ := hi.void
  have hlt := (List.getElem?_eq_some_iff.1 hc).1
  obtain ⟨j1, j2⟩ := k1.cellTo (y := .hs H.length 0 0 0 es) c i (by rw [List.getElem?_append_left hlt]; exact hc) hx (fun v h => nil_void hm h)
  exact ⟨m', ro, j1, (hst.trans k2).trans j2, fun t => ((hsl t).step hi.inv k2), hsz, hd⟩

/-! ### Blocks forgotten -/

mutual
/-- A value whose blocks are among the first n. -/
def AV.bel (n : Nat) : AV → Prop
  | .ref b _ _ | .hs b _ _ _ _ | .mp b => b < n
  | .tref cs => bels n cs
  | .sl _ _ cs => bels n cs
  | .fn _ a b => bels n a ∧ bels n b
  | .ifc _ v => v.bel n
  | .agg cs => bels n cs
  | .tup cs => bels n cs
  | _ => True
def bels (n : Nat) : List AV → Prop
  | [] => True
  | a :: as => a.bel n ∧ bels n as
end

theorem bels_iff {n : Nat} : ∀ {as : List AV}, bels n as ↔ ∀ a ∈ as, a.bel n
  | [] => by simp [bels]
  | a :: as => by simp [bels, bels_iff (as := as)]

mutual
theorem AV.closed_bel {n : Nat} : ∀ (a : AV), a.closed → a.bel n
  | .ref _ _ _, h | .hs _ _ _ _ _, h | .mp _, h => by simp only [AV.closed] at h
  | .tref cs, h | .sl _ _ cs, h | .agg cs, h | .tup cs, h => by simp only [AV.closed, AV.bel] at h ⊢; exact closeds_bel cs h
  | .fn _ a b, h => by simp only [AV.closed, AV.bel] at h ⊢; exact ⟨closeds_bel a h.1, closeds_bel b h.2⟩
  | .ifc _ v, h => by simp only [AV.closed, AV.bel] at h ⊢; exact AV.closed_bel v h
  | .bool _, _ | .int _ _, _ | .str _, _ | .nilp, _ | .nilm, _ | .nilf, _ | .nili, _ | .junk, _ => by simp only [AV.bel]
theorem closeds_bel {n : Nat} : ∀ (as : List AV), closeds as → bels n as
  | [], _ => by simp only [bels]
  | a :: as, h => by simp only [closeds, bels] at h ⊢; exact ⟨AV.closed_bel a h.1, closeds_bel as h.2⟩
end

def belM (n : Nat) (m : Mp) : Mp := fun b g => if b < n then m b g else none
theorem belM_lt {n : Nat} {m : Mp} {b g : Nat} (h : b < n) : belM n m b g = m b g := if_pos h

mutual
theorem AV.bel_rel {n : Nat} {m : Mp} {ro : Nat → Prop} {w : World} : ∀ (a : AV) (v : Value), a.bel n → VRel m ro w a v → VRel (belM n m) ro w a v
  | .ref b g o, v, c, h => by
    simp only [VRel, AV.bel] at h c ⊢
    rw [belM_lt c]; exact h
  | .hs b g o k es, v, c, h => by
    simp only [VRel, AV.bel] at h c ⊢
    rw [belM_lt c]; exact h
  | .mp b, v, c, h => by
    simp only [VRel, AV.bel] at h c ⊢
    rw [belM_lt c]; exact h
  | .tref cs, v, c, h => by
    simp only [VRel, AV.bel] at h c ⊢
    obtain ⟨cb, off, e, h⟩ := h
    exact ⟨cb, off, e, bels_cells cs cb off c h⟩
  | .sl k _ cs, v, c, h => by
    simp only [VRel, AV.bel] at h c ⊢
    rcases h with h | ⟨hk', ad, cap, e, hle, hf, h⟩
    · exact .inl h
    · exact .inr ⟨hk', ad, cap, e, hle, hf, h.imp id fun h => ⟨h.1, bels_cells cs _ _ c h.2⟩⟩
  | .fn f first cap, v, c, h => by
    simp only [VRel, AV.bel] at h c ⊢
    obtain ⟨a, b, e, h1, h2⟩ := h
    exact ⟨a, b, e, bels_rel first _ c.1 h1, bels_rel cap _ c.2 h2⟩
  | .ifc t x, v, c, h => by
    simp only [VRel, AV.bel] at h c ⊢
    obtain ⟨y, e, h⟩ := h
    exact ⟨y, e, AV.bel_rel x y c h⟩
  | .agg cs, v, c, h => by
    simp only [VRel, AV.bel] at h c ⊢
    obtain ⟨a, e, ho, h⟩ := h
    exact ⟨a, e, ho, bels_rel cs _ c h⟩
  | .tup cs, v, c, h => by
    simp only [VRel, AV.bel] at h c ⊢
    obtain ⟨a, e, h⟩ := h
    exact ⟨a, e, bels_rel cs _ c h⟩
  | .bool _, _, _, h | .int _ _, _, _, h | .str _, _, _, h | .nilp, _, _, h | .nilm, _, _, h | .nilf, _, _, h | .nili, _, _, h => by simpa only [VRel] using h
  | .junk, _, _, _ => by simp only [VRel]
theorem bels_rel {n : Nat} {m : Mp} {ro : Nat → Prop} {w : World} : ∀ (as : List AV) (vs : List Value), bels n as → VsRel m ro w as vs → VsRel (belM n m) ro w as vs
  | [], vs, _, h => by simpa only [VsRel] using h
  | a :: as, vs, c, h => by
    simp only [VsRel, bels] at h c ⊢
    obtain ⟨v, vs', e, h1, h2⟩ := h
    exact ⟨v, vs', e, AV.bel_rel a v c.1 h1, bels_rel as vs' c.2 h2⟩
theorem bels_cells {n : Nat} {m : Mp} {ro : Nat → Prop} {w : World} : ∀ (cs : List AV) (cb off : Nat), bels n cs → CsRel m ro w cs cb off → CsRel (belM n m) ro w cs cb off
  | [], _, _, _, _ => by simp only [CsRel]
  | a :: as, cb, off, c, h => by
    simp only [CsRel, bels] at h c ⊢
    obtain ⟨h1, ⟨v, hv, ho, h2⟩, h3⟩ := h
    exact ⟨h1, ⟨v, hv, ho, AV.bel_rel a v c.1 h2⟩, bels_cells as cb (off + 1) c.2 h3⟩
end

def Blk.bel (n : Nat) : Blk → Prop
  | .cells _ cs => bels n cs
  | .fro _ cs => bels n cs
  | _ => True

def frBel (n : Nat) : List (Nat × AV) → Prop
  | [] => True
  | (_, v) :: l => v.bel n ∧ frBel n l
def blksBel (n : Nat) : List Blk → Prop
  | [] => True
  | x :: l => x.bel n ∧ blksBel n l

theorem blksBel_get {n : Nat} : ∀ {H : List Blk} {b : Nat} {x : Blk}, blksBel n H → H[b]? = some x → x.bel n
  | y :: H, 0, x, h, hb => by simp at hb; subst hb; exact h.1
  | y :: H, b + 1, x, h, hb => blksBel_get h.2 (by simpa using hb)

theorem fr_bel {n : Nat} : ∀ {l : List (Nat × AV)}, frBel n l → ∀ t, (fr l t).bel n
  | [], _, t => by simp only [fr, AV.bel]
  | (t', v) :: l, h, t => by
    simp only [fr, upd]
    cases Nat.beq t t'
    · exact fr_bel h.2 t
    · exact h.1

/-- Blocks at the heap's end that nothing speaks of are forgotten. -/
theorem Ent.drop {nt : Fr} {l : List (Nat × AV)} {H X : List Blk} (hk : nt.k ≤ H.length) (hl : frBel H.length l) (hH : blksBel H.length H) : Ent nt (Tab.fr l) (H ++ X) (Tab.fr l) H := by
  rintro c a w ⟨m, ro, hi, hst, hsl, hsz, hd⟩
  have hlk : ∀ b x, lk H b = some x → lk (H ++ X) b = some x ∧ b < H.length := fun b x h => by
    have hb := (List.getElem?_eq_some_iff.1 (show H[b]? = some x from h)).1
    exact ⟨by simp only [lk, List.getElem?_append_left hb]; exact h, hb⟩
  have hle : ∀ b g loc, belM H.length m b g = some loc → b < H.length ∧ m b g = some loc := fun b g loc h => by
    unfold belM at h
    split at h
    · exact ⟨by assumption, h⟩
    · simp at h
  have hmw : ∀ cb, MW (belM H.length m) (lk H) cb → MW m (lk (H ++ X)) cb := by
    rintro cb ⟨b, x, g, base, h1, h2, h3⟩
    exact ⟨b, x, g, base, (hlk b x h1).1, h2, (hle _ _ _ h3).2⟩
  refine ⟨belM H.length m, ro, ⟨⟨hi.inv.ro_lt, ?_, ?_, fun cb h => hi.inv.excl cb (hmw cb h), ?_, hi.inv.glob.any⟩, fun b g loc h => (hle b g loc h).1⟩,
    ⟨fun b g loc h => ?_, hst.size, hst.os, hst.out, hst.tape, hst.kept, hst.shape, fun cb h => hst.mw cb (hmw cb h), hst.ro_le, hst.ro_new⟩, fun t => AV.bel_rel _ _ (fr_bel hl t) (hsl t), hsz, hd⟩
  · intro b x h
    obtain ⟨h', hb⟩ := hlk b x h
    have hr := hi.inv.blk b x h'
    have hx := blksBel_get hH (show H[b]? = some x from h)
    cases x with
    | cells g cs =>
      intro loc hloc
      rw [belM_lt hb] at hloc
      have hr := hr loc hloc
      cases loc with
      | void => exact hr
      | «at» cb base =>
        obtain ⟨cc, t, h1, hlay⟩ := hr
        refine ⟨cc, t, h1, fun i a hia => ?_⟩
        obtain ⟨v, hv, ho, hrel⟩ := hlay i a hia
        exact ⟨v, hv, ho, AV.bel_rel a v (bels_iff.1 hx a (List.mem_of_getElem? hia)) hrel⟩
    | fro g cs =>
      intro loc hloc
      rw [belM_lt hb] at hloc
      have hr := hr loc hloc
      cases loc with
      | void => exact hr
      | «at» cb base => exact bels_cells cs cb base hx hr
    | siter s pos =>
      intro loc hloc
      rw [belM_lt hb] at hloc
      exact hr loc hloc
    | dead => trivial
  · intro b b' x x' g g' cb base base' h1 h2 k1 k2 l1 l2
    exact hi.inv.inj b b' x x' g g' cb base base' (hlk b x h1).1 (hlk b' x' h2).1 k1 k2 (hle _ _ _ l1).2 (hle _ _ _ l2).2
  · intro b x g h1 h2 g' loc h3
    exact hi.inv.gen b x g (hlk b x h1).1 h2 g' loc (hle _ _ _ h3).2
  · rw [belM_lt (Nat.lt_of_lt_of_le (c.kb b g loc h) hk)]
    exact hst.mle b g loc h

/-- A state's slots chosen, and blocks at the end forgotten. -/
theorem Ent.frD {nt : Fr} {s : Slots} {H : List Blk} {l : List (Nat × AV)} {H' X : List Blk} (h : frOk s l) (e : H = H' ++ X) (hk : nt.k ≤ H'.length) (hl : frBel H'.length l) (hH : blksBel H'.length H') : Ent nt s H (Tab.fr l) H' :=
  (Ent.fr' h e).trans (Ent.drop hk hl hH)

/-! ### Calls with arguments that are read -/

mutual
/-- What an argument reads as: a slice of a block as its cells, as deep as they go. -/
inductive Rd (H : List Blk) : AV → AV → Prop
  | refl (a : AV) : Rd H a a
  | hs {b g o n es blk cs cs'} (hb : H[b]? = some blk) (hr : blk.rd = some (g, cs)) (hfit : o + n * es ≤ cs.length) (h : Rds H ((cs.drop o).take (n * es)) cs') : Rd H (.hs b g o n es) (.sl .any n cs')
  | agg {cs cs'} (h : Rds H cs cs') : Rd H (.agg cs) (.agg cs')
  | tup {cs cs'} (h : Rds H cs cs') : Rd H (.tup cs) (.tup cs')
inductive Rds (H : List Blk) : List AV → List AV → Prop
  | nil : Rds H [] []
  | cons {a a' as as'} (h : Rd H a a') (t : Rds H as as') : Rds H (a :: as) (a' :: as')
end

theorem Rds.refl {H : List Blk} : ∀ (l : List AV), Rds H l l
  | [] => .nil
  | a :: l => .cons (.refl a) (.refl l)

theorem Rd.whole {H : List Blk} {b g n es : Nat} {cs : List AV} (hb : H[b]? = some (.cells g cs)) (hn : n * es = cs.length) : Rd H (.hs b g 0 n es) (.sl .any n cs) :=
  .hs hb rfl (by omega) (by rw [List.drop_zero, hn, List.take_length]; exact Rds.refl cs)
theorem Rd.frozen {H : List Blk} {b g n es : Nat} {cs : List AV} (hb : H[b]? = some (.fro g cs)) (hn : n * es = cs.length) : Rd H (.hs b g 0 n es) (.sl .any n cs) :=
  .hs hb rfl (by omega) (by rw [List.drop_zero, hn, List.take_length]; exact Rds.refl cs)

theorem Rds.of_get {H : List Blk} : ∀ {l l' : List AV}, l.length = l'.length → (∀ (i : Nat) (a a' : AV), l[i]? = some a → l'[i]? = some a' → Rd H a a') → Rds H l l'
  | [], [], _, _ => .nil
  | a :: l, a' :: l', hl, h => .cons (h 0 a a' rfl rfl) (.of_get (by simpa using hl) fun i x y hx hy => h (i + 1) x y (by simpa using hx) (by simpa using hy))
  | [], _ :: _, hl, _ => by simp at hl
  | _ :: _, [], hl, _ => by simp at hl

theorem Rds.length {H : List Blk} : ∀ {l l' : List AV}, Rds H l l' → l.length = l'.length
  | [], _, .nil => rfl
  | _ :: _, _, .cons _ t => by simp [t.length]

theorem Rds.get {H : List Blk} : ∀ {l l' : List AV}, Rds H l l' → ∀ {i : Nat} {a a' : AV}, l[i]? = some a → l'[i]? = some a' → Rd H a a'
  | _ :: _, _, .cons h t, 0, a, a', ha, ha' => by
    simp at ha ha'; subst ha; subst ha'; exact h
  | _ :: _, _, .cons h t, i + 1, a, a', ha, ha' => t.get (by simpa using ha) (by simpa using ha')
  | [], _, .nil, _, _, _, ha, _ => by simp at ha

/-- Values without memory. -/
def AV.scal : AV → Bool
  | .bool _ | .int _ _ | .str _ | .nilp => true
  | _ => false

def scalR : AV → Bool
  | .tup vs => vs.all AV.scal
  | a => a.scal

theorem scal_rel {m ro w m' ro' w'} {a : AV} {v : Value} (h : VRel m ro w a v) (hs : a.scal = true) : VRel m' ro' w' a v := by
  cases a <;> simp only [AV.scal, Bool.false_eq_true] at hs <;> simpa only [VRel] using h

theorem scalR_rel {m ro w m' ro' w'} {a : AV} {v : Value} (h : VRel m ro w a v) (hs : scalR a = true) : VRel m' ro' w' a v := by
  cases a with
  | tup vs =>
    simp only [scalR, List.all_eq_true] at hs
    simp only [VRel] at h ⊢
    obtain ⟨c, e, h⟩ := h
    exact ⟨c, e, VsRel.of_get h.length fun i a v ha hv => by
      obtain ⟨v', hv', hr⟩ := h.get ha
      rw [hv] at hv'
      cases hv'
      exact scal_rel hr (hs a (List.mem_of_getElem? ha))⟩
  | _ => exact scal_rel h hs

theorem keep_ro {H m ro w} (a : AV) (v : Value) (h : VRel m ro w a v) : VRel m (fun cb => ro cb ∨ MW m (lk H) cb) w a v :=
  VRel.keep (fun _ _ _ h => h) (fun cb c t fr h => ⟨c, h, rfl⟩) (fun _ h => .inl h) (fun _ _ => rfl) a v h

mutual
theorem Rd.rel {H m ro w} (hi : InvL m ro H w) : ∀ {a a' : AV}, Rd H a a' → ∀ {v : Value}, VRel m ro w a v → VRel m (fun cb => ro cb ∨ MW m (lk H) cb) w a' v
  | _, _, .refl a, v, h => keep_ro a v h
  | _, _, .hs (b := b) (g := g) (o := o) (n := n) (es := es) (blk := blk) (cs := cs) (cs' := cs') hb hr hfit hd, v, h1 => by
      have hlen := hd.length
      have hrel := fun (i : Nat) (a a' : AV) (ha : ((cs.drop o).take (n * es))[i]? = some a) (ha' : cs'[i]? = some a') (v : Value) (hv : VRel m ro w a v) => Rds.rel1 hi hd i a a' ha ha' v hv
      simp only [VRel] at h1 ⊢
      obtain ⟨loc, hm, hh⟩ := h1
      cases loc with
      | void =>
        simp only [HsRel] at hh
        obtain ⟨rfl, rfl, rfl⟩ := hh
        refine .inl ⟨by simp, rfl, rfl, List.length_eq_zero_iff.1 ?_⟩
        rw [← hlen]; simp
      | «at» cb base =>
        simp only [HsRel] at hh
        obtain ⟨cap, rfl, hle, _⟩ := hh
        refine .inr ⟨by simp, _, cap, rfl, hle, by simp, .inr ⟨rfl, ?_⟩⟩
        show CsRel _ _ _ _ cb (base + o)
        have hbr := hi.inv.blk b _ hb
        cases blk with
        | cells g' cs₁ =>
          simp only [Blk.rd, Option.some.injEq, Prod.mk.injEq] at hr
          obtain ⟨rfl, rfl⟩ := hr
          obtain ⟨c, t, hc, hlay⟩ := hbr _ hm
          rw [CsRel_iff]
          intro i a' hia'
          have hlt : i < ((cs₁.drop o).take (n * es)).length := by rw [hlen]; exact (List.getElem?_eq_some_iff.1 hia').1
          obtain ⟨v, hv, ho, hr⟩ := ((hlay.drop o).take (n * es)) i _ (List.getElem?_eq_getElem hlt)
          exact ⟨.inr ⟨b, _, g', base, hb, rfl, hm⟩, v, by simp only [World.cell?, hc]; simpa using hv, ho, hrel i _ a' (List.getElem?_eq_getElem hlt) hia' v hr⟩
        | fro g' cs₁ =>
          simp only [Blk.rd, Option.some.injEq, Prod.mk.injEq] at hr
          obtain ⟨rfl, rfl⟩ := hr
          have hcs := (CsRel.drop (hbr _ hm) o).take (n * es)
          rw [CsRel_iff] at hcs ⊢
          intro i a' hia'
          have hlt : i < ((cs₁.drop o).take (n * es)).length := by rw [hlen]; exact (List.getElem?_eq_some_iff.1 hia').1
          obtain ⟨hro, v, hv, ho, hr⟩ := hcs i _ (List.getElem?_eq_getElem hlt)
          exact ⟨.inl hro, v, hv, ho, hrel i _ a' (List.getElem?_eq_getElem hlt) hia' v hr⟩
        | siter _ _ => simp [Blk.rd] at hr
        | dead => simp [Blk.rd] at hr
  | _, _, .agg (cs := cs) (cs' := cs') hd, v, h1 => by
      have hlen := hd.length
      have hrel := fun (i : Nat) (a a' : AV) (ha : cs[i]? = some a) (ha' : cs'[i]? = some a') (v : Value) (hv : VRel m ro w a v) => Rds.rel1 hi hd i a a' ha ha' v hv
      simp only [VRel] at h1 ⊢
      obtain ⟨c, rfl, ho, hv⟩ := h1
      refine ⟨c, rfl, ho, VsRel.of_get (by rw [← hlen, hv.length]) fun i a' u ha' hu => ?_⟩
      have hlt : i < cs.length := by rw [hlen]; exact (List.getElem?_eq_some_iff.1 ha').1
      obtain ⟨u', hu', hr⟩ := hv.get (List.getElem?_eq_getElem hlt)
      rw [hu] at hu'
      cases hu'
      exact hrel i _ a' (List.getElem?_eq_getElem hlt) ha' u hr
  | _, _, .tup (cs := cs) (cs' := cs') hd, v, h1 => by
      have hlen := hd.length
      have hrel := fun (i : Nat) (a a' : AV) (ha : cs[i]? = some a) (ha' : cs'[i]? = some a') (v : Value) (hv : VRel m ro w a v) => Rds.rel1 hi hd i a a' ha ha' v hv
      simp only [VRel] at h1 ⊢
      obtain ⟨c, rfl, hv⟩ := h1
      refine ⟨c, rfl, VsRel.of_get (by rw [← hlen, hv.length]) fun i a' u ha' hu => ?_⟩
      have hlt : i < cs.length := by rw [hlen]; exact (List.getElem?_eq_some_iff.1 ha').1
      obtain ⟨u', hu', hr⟩ := hv.get (List.getElem?_eq_getElem hlt)
      rw [hu] at hu'
      cases hu'
      exact hrel i _ a' (List.getElem?_eq_getElem hlt) ha' u hr
theorem Rds.rel1 {H m ro w} (hi : InvL m ro H w) : ∀ {as as' : List AV}, Rds H as as' → ∀ (i : Nat) (a a' : AV), as[i]? = some a → as'[i]? = some a' → ∀ (v : Value), VRel m ro w a v → VRel m (fun cb => ro cb ∨ MW m (lk H) cb) w a' v
  | _, _, .nil, i, a, a', ha, _, _, _ => by simp at ha
  | _, _, .cons h t, 0, a, a', ha, ha', v, hv => by
    simp at ha ha'; subst ha; subst ha'
    exact Rd.rel hi h hv
  | _, _, .cons h t, i + 1, a, a', ha, ha', v, hv => Rds.rel1 hi t i a a' (by simpa using ha) (by simpa using ha') v hv
end

theorem Rds.rel {H m ro w} (hi : InvL m ro H w) {as as' : List AV} (h : Rds H as as') {vs : List Value} (hv : VsRel m ro w as vs) : VsRel m (fun cb => ro cb ∨ MW m (lk H) cb) w as' vs :=
  VsRel.of_get (by rw [← h.length, hv.length]) fun i a' u ha' hu => by
    have hlt : i < as.length := by rw [h.length]; exact (List.getElem?_eq_some_iff.1 ha').1
    obtain ⟨u', hu', hr⟩ := hv.get (List.getElem?_eq_getElem hlt)
    rw [hu] at hu'
    cases hu'
    exact Rds.rel1 hi h i _ a' (List.getElem?_eq_getElem hlt) ha' u hr

/-- A pure function, called with slices of blocks, whose value has no memory: the blocks stay the caller's. -/
theorem Pure.borrow {P f args v} (h : Pure P f args v) (hv : scalR v = true) {H : List Blk} {as : List AV} (hr : Rds H as args) : ACall P f as H fun o H' => o = .ret v ∧ H' = H := by
  refine ⟨h.call.1, fun m ro w cargs hi hx => ?_⟩
  have hro : ∀ cb, (ro cb ∨ MW m (lk H) cb) → cb < w.heap.size := fun cb h => h.elim (hi.inv.ro_lt cb) hi.inv.mw_lt
  refine (h.call.2 m₀ _ w cargs (Inv.empty hro (hi.inv.glob.more fun _ h => .inl h).any) (closeds_rel args _ h.cargs (hr.rel hi hx))).mono ?_
  rintro e w' ⟨m', ro', out, H', ⟨rfl, rfl⟩, hout, hi', hst⟩
  have hk : ∀ cb, cb < w.heap.size → w'.heap[cb]? = w.heap[cb]? := fun cb hlt => hst.kept cb hlt MW.empty
  have hst' : Step m ro (lk H) w m ro (lk H) w' :=
    ⟨fun _ _ _ h => h, hst.size, hst.os, hst.out, hst.tape, fun cb hlt _ => hk cb hlt, hst.shape, fun _ h => .inl h, fun _ h => h, fun cb h => .inl h⟩
  refine ⟨m, ro, .ret v, H, ⟨rfl, rfl⟩, ?_, ⟨⟨fun cb h => Nat.lt_of_lt_of_le (hi.inv.ro_lt cb h) hst.size, ?_, hi.inv.inj, hi.inv.excl, hi.inv.gen, fun g => VRel.keep (fun _ _ _ h => h) hst.shape (fun _ h => h) (fun cb h => hk cb (hi.inv.ro_lt cb h)) _ _ (hi.inv.glob g)⟩, hi.bound⟩, hst'⟩
  · cases e with
    | returned u => exact scalR_rel hout hv
    | panicked _ => exact hout.elim
    | outgrown => exact hout.elim
  · intro b x hx
    refine BlkRel.keep (fun _ _ _ h => h) hst.shape (fun _ h => h) (fun cb h => hk cb (hi.inv.ro_lt cb h)) (fun _ => rfl) (fun g cb base h1 h2 => hk cb (hi.inv.own_lt hx h1 h2)) (hi.inv.blk b x hx)

/-- All that is left of a state is a value that was read out of its heap; the heap is given away. -/
theorem Ent.give {nt : Fr} {s : Slots} {H : List Blk} (hk : nt.k = 0) (t : Nat) {v : AV} (cv : v.closed) (h : Rd H (s t) v) : Ent nt s H (Tab.fr [(t, v)]) [] := by
  rintro c a w ⟨m, ro, hi, hst, hsl, hsz, hd⟩
  have hro : ∀ cb, (ro cb ∨ MW m (lk H) cb) → cb < w.heap.size := fun cb h => h.elim (hi.inv.ro_lt cb) hi.inv.mw_lt
  refine ⟨m₀, _, Inv.empty hro (hi.inv.glob.more fun _ h => .inl h).any, ⟨fun b g loc hm => ?_, hst.size, hst.os, hst.out, hst.tape, hst.kept, hst.shape, fun cb h => (MW.empty h).elim, fun cb h => .inl (hst.ro_le cb h), fun cb h => ?_⟩, fun t' => ?_, hsz, hd⟩
  · have := c.kb b g loc hm
    omega
  · rcases h with h | h
    · exact hst.ro_new cb h
    · rcases hst.mw cb h with h | h
      · exact .inr (.inl h)
      · exact .inr (.inr h)
  · simp only [Tab.fr, upd]
    by_cases e : t' = t
    · subst e
      simp only [Nat.beq_refl, cond_true]
      exact AV.closed_rel v _ cv (h.rel hi (hsl t'))
    · have : Nat.beq t' t = false := by rw [← Bool.not_eq_true]; intro h; exact e (Nat.eq_of_beq_eq_true h)
      rw [this]
      simp only [cond_false, VRel]

end Tab
