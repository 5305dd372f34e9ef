/- Blocks numbered otherwise. -/
import Derived.Test.YthdpblbclgpnjaaDat
set_option linter.unusedVariables false
set_option linter.unusedSimpArgs false
set_option linter.unusedSectionVars false
namespace Tab
open Go
variable [Globs]
set_option linter.unusedSectionVars false

mutual
def AV.rn (f : Nat → Nat) : AV → AV
  | .ref b g o => .ref (f b) g o
  | .hs b g o n es => .hs (f b) g o n es
  | .mp b => .mp (f b)
  | .tref cs => .tref (rns f cs)
  | .sl s n cs => .sl s n (rns f cs)
  | .fn g a b => .fn g (rns f a) (rns f b)
  | .ifc t v => .ifc t (v.rn f)
  | .agg cs => .agg (rns f cs)
  | .tup cs => .tup (rns f cs)
  | .bool b => .bool b
  | .int i n => .int i n
  | .str s => .str s
  | .nilp => .nilp
  | .nilm => .nilm
  | .nilf => .nilf
  | .nili => .nili
  | .junk => .junk
def rns (f : Nat → Nat) : List AV → List AV
  | [] => []
  | a :: as => a.rn f :: rns f as
end

theorem rns_get {f : Nat → Nat} : ∀ {as : List AV} {i : Nat} {a : AV}, (rns f as)[i]? = some a → ∃ x, as[i]? = some x ∧ a = x.rn f
  | [], i, a, h => by simp [rns] at h
  | x :: as, 0, a, h => by simp [rns] at h; exact ⟨x, rfl, h.symm⟩
  | x :: as, i + 1, a, h => by simp only [rns, List.getElem?_cons_succ] at h; exact rns_get (as := as) h
theorem rns_map {f : Nat → Nat} : ∀ (as : List AV), rns f as = as.map (AV.rn f)
  | [] => rfl
  | a :: as => by simp [rns, rns_map as]

mutual
theorem AV.closed_rn {f : Nat → Nat} : ∀ (a : AV), a.closed → a.rn f = a
  | .ref _ _ _, h | .hs _ _ _ _ _, h | .mp _, h => by simp only [AV.closed] at h
  | .tref cs, h | .sl _ _ cs, h | .agg cs, h | .tup cs, h => by simp only [AV.closed, AV.rn] at h ⊢; rw [closeds_rn cs h]
  | .fn _ a b, h => by simp only [AV.closed, AV.rn] at h ⊢; rw [closeds_rn a h.1, closeds_rn b h.2]
  | .ifc _ v, h => by simp only [AV.closed, AV.rn] at h ⊢; rw [AV.closed_rn v h]
  | .bool _, _ | .int _ _, _ | .str _, _ | .nilp, _ | .nilm, _ | .nilf, _ | .nili, _ | .junk, _ => by simp only [AV.rn]
theorem closeds_rn {f : Nat → Nat} : ∀ (as : List AV), closeds as → rns f as = as
  | [], _ => rfl
  | a :: as, h => by simp only [closeds, rns] at h ⊢; rw [AV.closed_rn a h.1, closeds_rn as h.2]
end

section
variable {m M : Mp} {ro : Nat → Prop} {w : World} {f : Nat → Nat} (hM : ∀ b g loc, m b g = some loc → M (f b) g = some loc)
include hM
mutual
theorem AV.rn_rel : ∀ (a : AV) (v : Value), VRel m ro w a v → VRel M ro w (a.rn f) v
  | .bool _, _, h | .int _ _, _, h | .str _, _, h | .nilp, _, h | .nilm, _, h | .nilf, _, h | .nili, _, h => by simpa only [VRel, AV.rn] using h
  | .junk, _, _ => by simp only [VRel, AV.rn]
  | .ref b g o, v, h => by
    simp only [VRel, AV.rn] at h ⊢
    obtain ⟨cb, base, h, e⟩ := h
    exact ⟨cb, base, hM _ _ _ h, e⟩
  | .hs b g o n es, v, h => by
    simp only [VRel, AV.rn] at h ⊢
    obtain ⟨loc, h, e⟩ := h
    exact ⟨loc, hM _ _ _ h, e⟩
  | .mp b, v, h => by
    simp only [VRel, AV.rn] at h ⊢
    obtain ⟨cb, h, e⟩ := h
    exact ⟨cb, hM _ _ _ h, e⟩
  | .tref cs, v, h => by
    simp only [VRel, AV.rn] at h ⊢
    obtain ⟨cb, off, e, h⟩ := h
    exact ⟨cb, off, e, rns_cells cs cb off h⟩
  | .sl s n cs, v, h => by
    simp only [VRel, AV.rn] at h ⊢
    rcases h with ⟨h1, h2, h3, h4⟩ | ⟨hk', ad, cap, e, hle, hf, h⟩
    · exact .inl ⟨h1, h2, h3, by rw [h4]; rfl⟩
    · exact .inr ⟨hk', ad, cap, e, hle, hf, h.imp (fun h => ⟨h.1, by rw [h.2]; rfl⟩) fun h => ⟨h.1, rns_cells cs _ _ h.2⟩⟩
  | .fn g first cap, v, h => by
    simp only [VRel, AV.rn] at h ⊢
    obtain ⟨a, b, e, h1, h2⟩ := h
    exact ⟨a, b, e, rns_rel first _ h1, rns_rel cap _ h2⟩
  | .ifc t x, v, h => by
    simp only [VRel, AV.rn] at h ⊢
    obtain ⟨y, e, h⟩ := h
    exact ⟨y, e, AV.rn_rel x y h⟩
  | .agg cs, v, h => by
    simp only [VRel, AV.rn] at h ⊢
    obtain ⟨a, e, ho, h⟩ := h
    exact ⟨a, e, ho, rns_rel cs _ h⟩
  | .tup cs, v, h => by
    simp only [VRel, AV.rn] at h ⊢
    obtain ⟨a, e, h⟩ := h
    exact ⟨a, e, rns_rel cs _ h⟩
theorem rns_rel : ∀ (as : List AV) (vs : List Value), VsRel m ro w as vs → VsRel M ro w (rns f as) vs
  | [], vs, h => by simpa only [VsRel, rns] using h
  | a :: as, vs, h => by
    simp only [VsRel, rns] at h ⊢
    obtain ⟨v, vs', e, h1, h2⟩ := h
    exact ⟨v, vs', e, AV.rn_rel a v h1, rns_rel as vs' h2⟩
theorem rns_cells : ∀ (cs : List AV) (cb off : Nat), CsRel m ro w cs cb off → CsRel M ro w (rns f cs) cb off
  | [], _, _, _ => by simp only [CsRel, rns]
  | a :: as, cb, off, h => by
    simp only [CsRel, rns] at h ⊢
    obtain ⟨h1, ⟨v, hv, ho, h2⟩, h3⟩ := h
    exact ⟨h1, ⟨v, hv, ho, AV.rn_rel a v h2⟩, rns_cells as cb (off + 1) h3⟩
end
end


def Blk.rn (f : Nat → Nat) : Blk → Blk
  | .cells g cs => .cells g (rns f cs)
  | .fro g cs => .fro g (rns f cs)
  | .siter s p => .siter s p
  | .dead => .dead

theorem Blk.rn_own (f : Nat → Nat) (x : Blk) : (x.rn f).own = x.own := by cases x <;> rfl

theorem BlkRel.rn {m M : Mp} {ro : Nat → Prop} {w : World} {f : Nat → Nat} {b : Nat} (hM : ∀ b g loc, m b g = some loc → M (f b) g = some loc) (he : ∀ g, M (f b) g = m b g) {x : Blk} (h : BlkRel m ro w b x) : BlkRel M ro w (f b) (x.rn f) := by
  cases x with
  | cells g cs =>
    intro loc hl
    rw [he] at hl
    have h := h loc hl
    cases loc with
    | void => simp only at h ⊢; rw [h]; rfl
    | «at» cb base =>
      obtain ⟨c, t, hc, hlay⟩ := h
      refine ⟨c, t, hc, fun i a hia => ?_⟩
      obtain ⟨x, hx, rfl⟩ := rns_get hia
      obtain ⟨v, hv, ho, hr⟩ := hlay i x hx
      exact ⟨v, hv, ho, AV.rn_rel hM x v hr⟩
  | fro g cs =>
    intro loc hl
    rw [he] at hl
    have h := h loc hl
    cases loc with
    | void => simp only at h ⊢; rw [h]; rfl
    | «at» cb base => exact rns_cells hM cs cb base h
  | siter s p =>
    intro loc hl
    rw [he] at hl
    exact h loc hl
  | dead => trivial

/-- Blocks that are numbered otherwise. -/
theorem Ent.rename {nt : Fr} {s : Slots} {H H' : List Blk} (hk : nt.k = 0) (f : Nat → Nat) (fi : Nat → Option Nat) (h1 : ∀ b, b < H.length → fi (f b) = some b) (h2 : ∀ b' b, fi b' = some b → b' = f b ∧ b < H.length ∧ b' < H'.length)
    (h3 : ∀ b' x', H'[b']? = some x' → ∃ b x, fi b' = some b ∧ H[b]? = some x ∧ x' = x.rn f) : Ent nt s H (fun t => (s t).rn f) H' := by
  rintro c a w ⟨m, ro, hi, hst, hsl, hsz, hd⟩
  let M : Mp := fun b' g => match fi b' with | some b => m b g | none => none
  have hMe : ∀ b, b < H.length → ∀ g, M (f b) g = m b g := fun b hb g => by
    show (match fi (f b) with | some b => m b g | none => none) = _
    rw [h1 b hb]
  have hM : ∀ b g loc, m b g = some loc → M (f b) g = some loc := fun b g loc h => by rw [hMe b (hi.bound b g loc h)]; exact h
  have hMs : ∀ b' g loc, M b' g = some loc → ∃ b, fi b' = some b ∧ m b g = some loc := fun b' g loc h => by
    have h : (match fi b' with | some b => m b g | none => none) = some loc := h
    split at h
    · rename_i b hb; exact ⟨b, hb, h⟩
    · simp at h
  have hmw : ∀ cb, MW M (lk H') cb → MW m (lk H) cb := by
    rintro cb ⟨b', x', g, base, k1, k2, k3⟩
    obtain ⟨b, x, e1, e2, rfl⟩ := h3 b' x' k1
    obtain ⟨b₂, e3, e4⟩ := hMs _ _ _ k3
    rw [e1] at e3
    cases e3
    rw [Blk.rn_own] at k2
    exact ⟨b, x, g, base, e2, k2, e4⟩
  refine ⟨M, ro, ⟨⟨hi.inv.ro_lt, ?_, ?_, fun cb h => hi.inv.excl cb (hmw cb h), ?_, hi.inv.glob.any⟩, ?_⟩, ⟨fun b g loc h => ?_, hst.size, hst.os, hst.out, hst.tape, hst.kept, hst.shape, fun cb h => hst.mw cb (hmw cb h), hst.ro_le, hst.ro_new⟩, fun t => AV.rn_rel hM _ _ (hsl t), hsz, hd⟩
  · intro b' x' k
    obtain ⟨b, x, e1, e2, rfl⟩ := h3 b' x' k
    obtain ⟨rfl, hb, _⟩ := h2 _ _ e1
    exact BlkRel.rn hM (hMe b hb) (hi.inv.blk b x e2)
  · intro b b' x x' g g' cb base base' k1 k2 o1 o2 l1 l2
    obtain ⟨c1, y1, e1, e2, rfl⟩ := h3 _ _ k1
    obtain ⟨c2, y2, e3, e4, rfl⟩ := h3 _ _ k2
    obtain ⟨d1, e5, e6⟩ := hMs _ _ _ l1
    obtain ⟨d2, e7, e8⟩ := hMs _ _ _ l2
    rw [e1] at e5; cases e5
    rw [e3] at e7; cases e7
    rw [Blk.rn_own] at o1 o2
    have := hi.inv.inj c1 c2 y1 y2 g g' cb base base' e2 e4 o1 o2 e6 e8
    subst this
    rw [(h2 _ _ e1).1, (h2 _ _ e3).1]
  · intro b x g k1 k2 g' loc k3
    obtain ⟨c1, y1, e1, e2, rfl⟩ := h3 _ _ k1
    obtain ⟨d1, e5, e6⟩ := hMs _ _ _ k3
    rw [e1] at e5; cases e5
    rw [Blk.rn_own] at k2
    exact hi.inv.gen c1 y1 g e2 k2 g' loc e6
  · intro b g loc h
    obtain ⟨d1, e5, _⟩ := hMs _ _ _ h
    exact (h2 _ _ e5).2.2
  · have := c.kb b g loc h
    omega

/-- What a call from an empty heap answers, of which less is said. -/
theorem ACall.weak {P : Program} {f : FuncId} {args : List AV} {R R' : Out → List Blk → Prop} (h : ACall P f args [] R) (hp : ∀ H', ¬ R .pan H')
    (hw : ∀ v H', R (.ret v) H' → ∃ v' H'', Ent ⟨1, 0⟩ (fr [(0, v)]) H' (fr [(0, v')]) H'' ∧ R' (.ret v') H'') : ACall P f args [] R' := by
  refine ⟨h.1, fun m ro w cargs hi hx => ?_⟩
  refine (h.2 m ro w cargs hi hx).mono ?_
  rintro e w' ⟨m', ro', out, H', hRo, hout, hi', hst⟩
  cases out with
  | pan => exact (hp _ hRo).elim
  | ret u =>
    obtain ⟨v', H'', hent, hR'⟩ := hw u H' hRo
    cases e with
    | returned x =>
      obtain ⟨m₂, ro₂, hi₂, hst₂, hsl, _, _⟩ := hent ⟨⟨m, ro, [], w⟩, fun b g loc hm => by have := hi.bound b g loc hm; simp at this⟩ { tmps := #[x], defers := [] } w'
        ⟨m', ro', hi', hst, fun t => by
          cases t with
          | zero => exact hout
          | succ t => simp only [fr, upd, Nat.beq, cond_false, VRel], rfl, rfl⟩
      exact ⟨m₂, ro₂, .ret v', H'', hR', hsl 0, hi₂, hst₂⟩
    | panicked _ => exact hout.elim
    | outgrown => exact hout.elim

theorem callSZ {P : Program} {f : FuncId} {args as : List AV} {H : List Blk} {R Y : Out → List Blk → Prop} {g : Nat} {cs : List AV} (b : Nat) (hb : H[b]? = some (.cells g cs)) (hc : closeds args) (h : ACall P f args [] R) (hz : FzN (H.set b (.fro g cs)) as args) (hp : ∀ X, ¬ R .pan X)
    (k : ∀ v X, R (.ret v) X → Y (.ret (v.sh (H.set b (.fro g cs)).length)) (H.set b (.fro g cs) ++ X.map (Blk.sh (H.set b (.fro g cs)).length))) : ∃ R : Out → List Blk → Prop, ACall P f as H R ∧ ∀ o H', R o H' → Y o H' := by
  obtain ⟨R₁, h1, h2⟩ := callS (H := H.set b (.fro g cs)) hc h hp k
  exact ⟨R₁, (ACall.fz hz h1).froz b hb, h2⟩

/-! ### The last block moved -/

def mvF (p q b : Nat) : Nat := if b < p then b else if b < p + q then b + 1 else p
def mvI (p q b : Nat) : Option Nat := if b < p then some b else if b = p then some (p + q) else if b ≤ p + q then some (b - 1) else none
theorem mvF_lo {p q b : Nat} (h : b < p) : mvF p q b = b := if_pos h
theorem mvF_mid {p q b : Nat} (h : p ≤ b) (h2 : b < p + q) : mvF p q b = b + 1 := by rw [mvF, if_neg (by omega), if_pos h2]
theorem mvF_last {p q : Nat} : mvF p q (p + q) = p := by rw [mvF, if_neg (by omega), if_neg (by omega)]

theorem Ent.lastTo {nt : Fr} {s : Slots} (hk : nt.k = 0) (pre post : List Blk) (x : Blk) :
    Ent nt s (pre ++ post ++ [x]) (fun t => (s t).rn (mvF pre.length post.length)) ((pre ++ x :: post).map (Blk.rn (mvF pre.length post.length))) := by
  refine Ent.rename hk (mvF pre.length post.length) (mvI pre.length post.length) ?_ ?_ ?_
  · intro b hb
    simp only [List.length_append, List.length_singleton] at hb
    unfold mvF
    split
    · rename_i h; rw [mvI, if_pos h]
    · rename_i h
      split
      · rename_i h2; rw [mvI, if_neg (by omega), if_neg (by omega), if_pos (by omega)]; simp
      · rename_i h2; rw [mvI, if_neg (by omega), if_pos rfl]; congr 1; omega
  · intro b' b h
    simp only [List.length_append, List.length_singleton, List.length_map, List.length_cons]
    unfold mvI at h
    split at h
    · rename_i hb; cases h; exact ⟨(mvF_lo hb).symm, by omega, by omega⟩
    · split at h
      · rename_i hb; cases h; exact ⟨by rw [mvF_last]; exact hb, by omega, by omega⟩
      · split at h
        · cases h; exact ⟨by rw [mvF_mid (by omega) (by omega)]; omega, by omega, by omega⟩
        · simp at h
  · intro b' x' h
    rw [List.getElem?_map, Option.map_eq_some_iff] at h
    obtain ⟨y, hy, rfl⟩ := h
    by_cases h1 : b' < pre.length
    · rw [List.getElem?_append_left h1] at hy
      exact ⟨b', y, by rw [mvI, if_pos h1], by rw [List.append_assoc, List.getElem?_append_left h1]; exact hy, rfl⟩
    · rw [List.getElem?_append_right (by omega)] at hy
      by_cases h2 : b' = pre.length
      · subst h2
        rw [Nat.sub_self, List.getElem?_cons_zero] at hy
        cases hy
        exact ⟨pre.length + post.length, x, by rw [mvI, if_neg (by omega), if_pos rfl], by rw [List.getElem?_append_right (by simp)]; simp, rfl⟩
      · obtain ⟨c, hc⟩ : ∃ c, b' - pre.length = c + 1 := ⟨b' - pre.length - 1, by omega⟩
        rw [hc, List.getElem?_cons_succ] at hy
        have hlt := (List.getElem?_eq_some_iff.1 hy).1
        exact ⟨b' - 1, y, by rw [mvI, if_neg h1, if_neg h2, if_pos (by omega)], by
          rw [List.getElem?_append_left (by simp; omega), List.getElem?_append_right (by omega), show b' - 1 - pre.length = c by omega]; exact hy, rfl⟩

theorem strs_rn (f : Nat → Nat) (l : List (List UInt8)) : rns f (l.map .str) = l.map .str := closeds_rn _ (closeds_iff.2 fun a ha => by obtain ⟨x, _, rfl⟩ := List.mem_map.1 ha; simp only [AV.closed])
theorem bools_rn (f : Nat → Nat) (l : List Bool) : rns f (l.map .bool) = l.map .bool := closeds_rn _ (closeds_iff.2 fun a ha => by obtain ⟨x, _, rfl⟩ := List.mem_map.1 ha; simp only [AV.closed])
theorem ints_rn (f : Nat → Nat) (k : IntKind) (l : List Int) : rns f (l.map (.int k)) = l.map (.int k) := closeds_rn _ (closeds_iff.2 fun a ha => by obtain ⟨x, _, rfl⟩ := List.mem_map.1 ha; simp only [AV.closed])
theorem den_rn (f : Nat → Nat) (d : Den) : rns f d.cells = d.cells := closeds_rn _ (by have := aDen_closed d; simpa [aDen, AV.closed] using this)

end Tab
