/- Lemmas for this claim: part 8. No condition. -/
import Derived.Test.YtiflemdfnjgobaaDoorZ6
import Derived.Test.YtiflemdfnjgobaaDoorZ7
import Derived.KernelRfl
import Derived.IntWalk
set_option linter.unusedVariables false
set_option linter.unusedSimpArgs false
set_option linter.unusedSectionVars false
/- Lists as slices; small laws for slots. -/
namespace Tab
open Go
variable [Globs]

def aSs (k : SK) (l : List (List UInt8)) : AV := .sl k l.length (l.map .str)
def aIs (k : SK) (l : List Int) : AV := .sl k l.length (l.map (.int .i64))
def aBs (k : SK) (l : List Bool) : AV := .sl k l.length (l.map .bool)
def aRs (k : SK) (l : List (SK × List Int)) : AV := .sl k l.length (l.map fun r => aIs r.1 r.2)

theorem aSs_closed (k l) : (aSs k l).closed := by simp [aSs, AV.closed, closeds_iff]
theorem aIs_closed (k l) : (aIs k l).closed := by simp [aIs, AV.closed, closeds_iff]
theorem aBs_closed (k l) : (aBs k l).closed := by
  simp only [aBs, AV.closed, closeds_iff, List.mem_map]
  rintro a ⟨r, _, rfl⟩
  simp [AV.closed]
theorem aRs_closed (k l) : (aRs k l).closed := by
  simp only [aRs, AV.closed, closeds_iff, List.mem_map]
  rintro a ⟨r, _, rfl⟩
  exact aIs_closed _ _

structure Den where
  tk : SK
  tracks : List (List UInt8)
  ak : SK
  accept : List Bool
  nk : SK
  next : List (SK × List Int)

def Den.cells (d : Den) : List AV := [aSs d.tk d.tracks, aBs d.ak d.accept, aRs d.nk d.next]
def aDen (d : Den) : AV := .agg d.cells
theorem aDen_closed (d : Den) : (aDen d).closed := by
  simp [aDen, Den.cells, AV.closed, closeds, aSs_closed, aBs_closed, aRs_closed]

theorem finV {P : Program} {nt : Fr} {rs : List ResultVar} {v v' : AV} {s : Slots} {H : List Blk} (h : resA P rs s H = some v') (e : v' = v) : finE P nt rs v s H := finE_of (h.trans (congrArg some e))
def cSnd : Code → Code | .seq _ y => y | c => c

theorem callP {P : Program} {f : FuncId} {args : List AV} {v : AV} {H : List Blk} {X : Out → List Blk → Prop} (h : Pure P f args v) (k : X (.ret v) H) :
    ∃ R : Out → List Blk → Prop, ACall P f args H R ∧ ∀ o H', R o H' → X o H' := ⟨_, h.acall H, by rintro _ _ ⟨rfl, rfl⟩; exact k⟩
theorem callH {P : Program} {f : FuncId} {args : List AV} {v : AV} {H H₁ : List Blk} {X : Out → List Blk → Prop} (h : ACall P f args H fun o H' => o = .ret v ∧ H' = H₁) (k : X (.ret v) H₁) :
    ∃ R : Out → List Blk → Prop, ACall P f args H R ∧ ∀ o H', R o H' → X o H' := ⟨_, h, by rintro _ _ ⟨rfl, rfl⟩; exact k⟩
theorem callB {P : Program} {f : FuncId} {args as : List AV} {v : AV} {H : List Blk} {X : Out → List Blk → Prop} (h : Pure P f args v) (hv : scalR v = true) (hr : Rds H as args) (k : X (.ret v) H) :
    ∃ R : Out → List Blk → Prop, ACall P f as H R ∧ ∀ o H', R o H' → X o H' := ⟨_, h.borrow hv hr, by rintro _ _ ⟨rfl, rfl⟩; exact k⟩

theorem RdsN_refl : ∀ (l : List AV), RdsN [] l l
  | [] => .nil
  | a :: l => .same (RdsN_refl l)
theorem none_need {H : List Blk} : ∀ p ∈ ([] : List (Nat × Blk)), H[p.1]? = some p.2 := fun _ h => by simp at h

theorem decB_dec {p : Prop} [Decidable p] {A B : Prop} (h : p → A) (k : ¬ p → B) : decB (decide p) A B := by
  by_cases hp : p
  · rw [decide_eq_true hp]; exact h hp
  · rw [decide_eq_false hp]; exact k hp

theorem finFrz {P : Program} {nt : Fr} {rs : List ResultVar} {cs : List AV} {n : Nat} {s : Slots} {H : List Blk} (t : Nat) {b g es : Nat} (ht : s t = .hs b g 0 n es) (hb : H[b]? = some (.cells g cs)) (hfit : n * es = cs.length) (hrs : rs = [.tmp t]) : finE P nt rs (.sl .any n cs) s H := by
  subst hrs
  exact ⟨_, _, Ent.freeze t ht hb hfit, by simp [resA, resAll, resOne, upd]⟩

theorem Ent.to {nt : Fr} {s s' : Slots} {H H₁ H' : List Blk} (h : Ent nt s H s' H₁) (e : H₁ = H') : Ent nt s H s' H' := by subst e; exact h

theorem Ent.slotTo {nt : Fr} {s : Slots} {H : List Blk} {x y : AV} (t : Nat) (ht : s t = x) (hxy : ∀ m ro w v, VRel m ro w x v → VRel m ro w y v) : Ent nt s H (upd s t y) H := by
  rintro c a w ⟨m, ro, hi, hst, hsl, hsz, hd⟩
  refine ⟨m, ro, hi, hst, fun t' => ?_, hsz, hd⟩
  simp only [upd]
  by_cases e : t' = t
  · subst e
    simp only [Nat.beq_refl, cond_true]
    have := hsl t'
    rw [ht] at this
    exact hxy _ _ _ _ this
  · have : Nat.beq t' t = false := by rw [← Bool.not_eq_true]; intro h; exact e (Nat.eq_of_beq_eq_true h)
    rw [this]
    exact hsl t'

theorem sl_any {m : Mp} {ro : Nat → Prop} {w : World} {k : SK} {n : Nat} {cs : List AV} {v : Value} (h : VRel m ro w (.sl k n cs) v) : VRel m ro w (.sl .any n cs) v := by
  simp only [VRel] at h ⊢
  rcases h with ⟨_, h⟩ | ⟨_, ad, cap, h1, h2, _, h4⟩
  · exact .inl ⟨.inr trivial, h⟩
  · exact .inr ⟨by simp, ad, cap, h1, h2, by simp, h4⟩

theorem inc_slot {i : Nat} (h : i < 9223372036854775807) : AV.int .i64 (IntKind.wrap .i64 ((i : Int) + 1)) = AV.int .i64 ((i + 1 : Nat) : Int) := by
  rw [IntWalk.i64_in _ (by omega)]; simp
theorem bels_append {n : Nat} {a b : List AV} : bels n (a ++ b) ↔ bels n a ∧ bels n b := by
  simp only [bels_iff, List.mem_append]
  exact ⟨fun h => ⟨fun x hx => h x (.inl hx), fun x hx => h x (.inr hx)⟩, fun h x hx => hx.elim (h.1 x) (h.2 x)⟩
theorem finR {P : Program} {nt : Fr} {rs : List ResultVar} {v : AV} {s s' : Slots} {H H₁ H' : List Blk} {l : List (Nat × AV)} {R : Out → List Blk → Prop} (hf : frOk s l) (hH : H = H₁) (e : Ent nt (Tab.fr l) H₁ s' H') (r : resA P rs s' H' = some v) (k : R (.ret v) H') :
    RetE P nt rs R s H := ⟨s', H', v, (Ent.fr' hf hH).trans e, r, k⟩

theorem over_one {cs : List AV} {i : Nat} {x : AV} (h : i < cs.length) : over cs i [x] = cs.set i x := by
  rw [over, List.set_eq_take_append_cons_drop, if_pos h]; simp
inductive FzN (H : List Blk) : List AV → List AV → Prop
  | nil : FzN H [] []
  | same {a as as'} (t : FzN H as as') : FzN H (a :: as) (a :: as')
  | hs {b g n es cs as as'} (hb : H[b]? = some (.fro g cs)) (hfit : n * es = cs.length) (t : FzN H as as') : FzN H (.hs b g 0 n es :: as) (.sl .any n cs :: as')

theorem FzN.rel {H : List Blk} {m : Mp} {ro : Nat → Prop} {w : World} (hi : InvL m ro H w) {as as' : List AV} (h : FzN H as as') : ∀ {vs : List Value}, VsRel m ro w as vs → VsRel m ro w as' vs := by
  induction h with
  | nil => intro vs h; exact h
  | same t ih =>
    intro vs hv
    simp only [VsRel] at hv ⊢
    obtain ⟨v, vs', rfl, h1, h2⟩ := hv
    exact ⟨v, vs', rfl, h1, ih h2⟩
  | @hs b g n es cs as as' hb hfit t ih =>
    intro vs hv
    simp only [VsRel] at hv ⊢
    obtain ⟨v, vs', rfl, h1, h2⟩ := hv
    refine ⟨v, vs', rfl, ?_, ih h2⟩
    have := froz_val hi hb (by omega) h1
    rwa [List.drop_zero, hfit, List.take_length] at this

theorem InvL.froz {m ro w} {H : List Blk} {g : Nat} {cs : List AV} (hi : InvL m ro H w) (b : Nat) (hb : H[b]? = some (.cells g cs)) :
    ∃ ro', InvL m ro' (H.set b (.fro g cs)) w ∧ Step m ro (lk H) w m ro' (lk (H.set b (.fro g cs))) w := by
  have hlt := (List.getElem?_eq_some_iff.1 hb).1
  obtain ⟨k1, k2⟩ := hi.inv.change₀ (m' := m) (ro' := fun cb => ro cb ∨ Owns m (lk H) b cb) (H' := lk (H.set b (.fro g cs))) b (.fro g cs) (fun _ _ _ h => h) (fun _ _ => .inl rfl) (lk_set hlt)
    (fun g cb base h => by simp [Blk.own] at h) (fun g h => by simp [Blk.own] at h) (fun _ h => .inl h) (fun _ h => h)
    (fun keep loc hl => by
      have h := hi.inv.blk b _ hb loc hl
      cases loc with
      | void => exact h
      | «at» cb base =>
        obtain ⟨c, t, hc, hlay⟩ := h
        refine CsRel_iff.2 ?_
        intro i x hix
        obtain ⟨v, hv, ho, hr⟩ := hlay i x hix
        exact ⟨.inr ⟨_, g, base, hb, rfl, hl⟩, v, by simp only [World.cell?, hc]; simpa using hv, ho, keep x v hr⟩)
  exact ⟨_, ⟨k1, fun b g loc h => by simpa using hi.bound b g loc h⟩, k2⟩

theorem ACall.froz {P : Program} {f : FuncId} {as : List AV} {H : List Blk} {R : Out → List Blk → Prop} {g : Nat} {cs : List AV} (b : Nat) (hb : H[b]? = some (.cells g cs)) (h : ACall P f as (H.set b (.fro g cs)) R) : ACall P f as H R := by
  refine ⟨h.1, fun m ro w cargs hi hx => ?_⟩
  obtain ⟨ro', hi', hst⟩ := hi.froz b hb
  refine (h.2 m ro' w cargs hi' (hx.step hi.inv hst)).mono ?_
  rintro e w' ⟨m', ro₂, out, H', h1, h2, h3, h4⟩
  exact ⟨m', ro₂, out, H', h1, h2, h3, hst.trans h4⟩

def joinK (nt : Fr) (s' : Slots) (H' : List Blk) (K : Post) : Post := fun e s H => match e with
  | .normal => Ent nt s H s' H'
  | e => K e s H
theorem VCode.join {P : Program} {nt : Fr} {c : Operand} {x y : Code} {s : Slots} {H : List Blk} {K : Post} {b : Bool} (s' : Slots) (H' : List Blk) (hc : ev s c = .bool b) (hx : b = true → VCode P nt x s H (joinK nt s' H' K)) (hy : b = false → VCode P nt y s H (joinK nt s' H' K))
    (hz : ∀ s₁ H₁, Ent nt s₁ H₁ s' H' → K .normal s₁ H₁) : VCode P nt (.cond c x y) s H K := by
  refine ⟨SW.mono (SW.cond hc (fun h => (hx h).out) (fun h => (hy h).out)) fun e s₁ H₁ h => ?_⟩
  cases e with
  | normal => exact hz s₁ H₁ h
  | _ => exact h

end Tab

/- Blocks numbered otherwise. -/
namespace Tab
open Go
variable [Globs]
set_option linter.unusedSectionVars false

mutual
def AV.rn (f : Nat → Nat) : AV → AV
  | .ref b g o => .ref (f b) g o
  | .hs b g o n es => .hs (f b) g o n es
  | .mp b => .mp (f b)
  | .tref cs => .tref (rns f cs)
  | .sl s n cs => .sl s n (rns f cs)
  | .fn g a b => .fn g (rns f a) (rns f b)
  | .ifc t v => .ifc t (v.rn f)
  | .agg cs => .agg (rns f cs)
  | .tup cs => .tup (rns f cs)
  | .bool b => .bool b
  | .int i n => .int i n
  | .str s => .str s
  | .nilp => .nilp
  | .nilm => .nilm
  | .nilf => .nilf
  | .nili => .nili
  | .junk => .junk
def rns (f : Nat → Nat) : List AV → List AV
  | [] => []
  | a :: as => a.rn f :: rns f as
end

theorem rns_get {f : Nat → Nat} : ∀ {as : List AV} {i : Nat} {a : AV}, (rns f as)[i]? = some a → ∃ x, as[i]? = some x ∧ a = x.rn f
  | [], i, a, h => by simp [rns] at h
  | x :: as, 0, a, h => by simp [rns] at h; exact ⟨x, rfl, h.symm⟩
  | x :: as, i + 1, a, h => by simp only [rns, List.getElem?_cons_succ] at h; exact rns_get (as := as) h
theorem rns_map {f : Nat → Nat} : ∀ (as : List AV), rns f as = as.map (AV.rn f)
  | [] => rfl
  | a :: as => by simp [rns, rns_map as]

mutual
theorem AV.closed_rn {f : Nat → Nat} : ∀ (a : AV), a.closed → a.rn f = a
  | .ref _ _ _, h | .hs _ _ _ _ _, h | .mp _, h => by simp only [AV.closed] at h
  | .tref cs, h | .sl _ _ cs, h | .agg cs, h | .tup cs, h => by simp only [AV.closed, AV.rn] at h ⊢; rw [closeds_rn cs h]
  | .fn _ a b, h => by simp only [AV.closed, AV.rn] at h ⊢; rw [closeds_rn a h.1, closeds_rn b h.2]
  | .ifc _ v, h => by simp only [AV.closed, AV.rn] at h ⊢; rw [AV.closed_rn v h]
  | .bool _, _ | .int _ _, _ | .str _, _ | .nilp, _ | .nilm, _ | .nilf, _ | .nili, _ | .junk, _ => by simp only [AV.rn]
theorem closeds_rn {f : Nat → Nat} : ∀ (as : List AV), closeds as → rns f as = as
  | [], _ => rfl
  | a :: as, h => by simp only [closeds, rns] at h ⊢; rw [AV.closed_rn a h.1, closeds_rn as h.2]
end

section
variable {m M : Mp} {ro : Nat → Prop} {w : World} {f : Nat → Nat} (hM : ∀ b g loc, m b g = some loc → M (f b) g = some loc)
include hM
mutual
theorem AV.rn_rel : ∀ (a : AV) (v : Value), VRel m ro w a v → VRel M ro w (a.rn f) v
  | .bool _, _, h | .int _ _, _, h | .str _, _, h | .nilp, _, h | .nilm, _, h | .nilf, _, h | .nili, _, h => by simpa only [VRel, AV.rn] using h
  | .junk, _, _ => by simp only [VRel, AV.rn]
  | .ref b g o, v, h => by
    simp only [VRel, AV.rn] at h ⊢
    obtain ⟨cb, base, h, e⟩ := h
    exact ⟨cb, base, hM _ _ _ h, e⟩
  | .hs b g o n es, v, h => by
    simp only [VRel, AV.rn] at h ⊢
    obtain ⟨loc, h, e⟩ := h
    exact ⟨loc, hM _ _ _ h, e⟩
  | .mp b, v, h => by
    simp only [VRel, AV.rn] at h ⊢
    obtain ⟨cb, h, e⟩ := h
    exact ⟨cb, hM _ _ _ h, e⟩
  | .tref cs, v, h => by
    simp only [VRel, AV.rn] at h ⊢
    obtain ⟨cb, off, e, h⟩ := h
    exact ⟨cb, off, e, rns_cells cs cb off h⟩
  | .sl s n cs, v, h => by
    simp only [VRel, AV.rn] at h ⊢
    rcases h with ⟨h1, h2, h3, h4⟩ | ⟨hk', ad, cap, e, hle, hf, h⟩
    · exact .inl ⟨h1, h2, h3, by rw [h4]; rfl⟩
    · exact .inr ⟨hk', ad, cap, e, hle, hf, h.imp (fun h => ⟨h.1, by rw [h.2]; rfl⟩) fun h => ⟨h.1, rns_cells cs _ _ h.2⟩⟩
  | .fn g first cap, v, h => by
    simp only [VRel, AV.rn] at h ⊢
    obtain ⟨a, b, e, h1, h2⟩ := h
    exact ⟨a, b, e, rns_rel first _ h1, rns_rel cap _ h2⟩
  | .ifc t x, v, h => by
    simp only [VRel, AV.rn] at h ⊢
    obtain ⟨y, e, h⟩ := h
    exact ⟨y, e, AV.rn_rel x y h⟩
  | .agg cs, v, h => by
    simp only [VRel, AV.rn] at h ⊢
    obtain ⟨a, e, ho, h⟩ := h
    exact ⟨a, e, ho, rns_rel cs _ h⟩
  | .tup cs, v, h => by
    simp only [VRel, AV.rn] at h ⊢
    obtain ⟨a, e, h⟩ := h
    exact ⟨a, e, rns_rel cs _ h⟩
theorem rns_rel : ∀ (as : List AV) (vs : List Value), VsRel m ro w as vs → VsRel M ro w (rns f as) vs
  | [], vs, h => by simpa only [VsRel, rns] using h
  | a :: as, vs, h => by
    simp only [VsRel, rns] at h ⊢
    obtain ⟨v, vs', e, h1, h2⟩ := h
    exact ⟨v, vs', e, AV.rn_rel a v h1, rns_rel as vs' h2⟩
theorem rns_cells : ∀ (cs : List AV) (cb off : Nat), CsRel m ro w cs cb off → CsRel M ro w (rns f cs) cb off
  | [], _, _, _ => by simp only [CsRel, rns]
  | a :: as, cb, off, h => by
    simp only [CsRel, rns] at h ⊢
    obtain ⟨h1, ⟨v, hv, ho, h2⟩, h3⟩ := h
    exact ⟨h1, ⟨v, hv, ho, AV.rn_rel a v h2⟩, rns_cells as cb (off + 1) h3⟩
end
end


def Blk.rn (f : Nat → Nat) : Blk → Blk
  | .cells g cs => .cells g (rns f cs)
  | .fro g cs => .fro g (rns f cs)
  | .siter s p => .siter s p
  | .dict es => .dict es
  | .dead => .dead

theorem Blk.rn_own (f : Nat → Nat) (x : Blk) : (x.rn f).own = x.own := by cases x <;> rfl

theorem BlkRel.rn {m M : Mp} {ro : Nat → Prop} {w : World} {f : Nat → Nat} {b : Nat} (hM : ∀ b g loc, m b g = some loc → M (f b) g = some loc) (he : ∀ g, M (f b) g = m b g) {x : Blk} (h : BlkRel m ro w b x) : BlkRel M ro w (f b) (x.rn f) := by
  cases x with
  | cells g cs =>
    intro loc hl
    rw [he] at hl
    have h := h loc hl
    cases loc with
    | void => simp only at h ⊢; rw [h]; rfl
    | «at» cb base =>
      obtain ⟨c, t, hc, hlay⟩ := h
      refine ⟨c, t, hc, fun i a hia => ?_⟩
      obtain ⟨x, hx, rfl⟩ := rns_get hia
      obtain ⟨v, hv, ho, hr⟩ := hlay i x hx
      exact ⟨v, hv, ho, AV.rn_rel hM x v hr⟩
  | fro g cs =>
    intro loc hl
    rw [he] at hl
    have h := h loc hl
    cases loc with
    | void => simp only at h ⊢; rw [h]; rfl
    | «at» cb base => exact rns_cells hM cs cb base h
  | siter s p =>
    intro loc hl
    rw [he] at hl
    exact h loc hl
  | dict es =>
    intro loc hl
    rw [he] at hl
    exact h loc hl
  | dead => trivial

theorem ACall.weak {P : Program} {f : FuncId} {args : List AV} {R R' : Out → List Blk → Prop} (h : ACall P f args [] R) (hp : ∀ H', ¬ R .pan H')
    (hw : ∀ v H', R (.ret v) H' → ∃ v' H'', Ent ⟨1, 0⟩ (fr [(0, v)]) H' (fr [(0, v')]) H'' ∧ R' (.ret v') H'') : ACall P f args [] R' := by
  refine ⟨h.1, fun m ro w cargs hi hx => ?_⟩
  refine (h.2 m ro w cargs hi hx).mono ?_
  rintro e w' ⟨m', ro', out, H', hRo, hout, hi', hst⟩
  cases out with
  | pan => exact (hp _ hRo).elim
  | ret u =>
    obtain ⟨v', H'', hent, hR'⟩ := hw u H' hRo
    cases e with
    | returned x =>
      obtain ⟨m₂, ro₂, hi₂, hst₂, hsl, _, _⟩ := hent ⟨⟨m, ro, [], w, []⟩, fun b g loc hm => by have := hi.bound b g loc hm; simp at this⟩ { tmps := #[x], defers := [] } w'
        ⟨m', ro', hi', hst, fun t => by
          cases t with
          | zero => exact hout
          | succ t => simp only [fr, upd, Nat.beq, cond_false, VRel], rfl, rfl⟩
      exact ⟨m₂, ro₂, .ret v', H'', hR', hsl 0, hi₂, hst₂⟩
    | panicked _ => exact hout.elim
    | outgrown => exact hout.elim

end Tab

/- A contract over some blocks, used among others: the blocks are named, the rest stays. -/
namespace Tab
open Go
variable [Globs]
set_option linter.unusedSectionVars false

def rnB (φ : List Nat) (n i : Nat) : Nat := match φ[i]? with | some b => b | none => n + (i - φ.length)
theorem rnB_lt {φ n i b} (h : φ[i]? = some b) : rnB φ n i = b := by rw [rnB, h]
theorem rnB_ge {φ : List Nat} {n i} (h : φ.length ≤ i) : rnB φ n i = n + (i - φ.length) := by rw [rnB, List.getElem?_eq_none h]
theorem rnB_inj {φ : List Nat} {n : Nat} (hφ : φ.Nodup) (hlt : ∀ b ∈ φ, b < n) {i j : Nat} (h : rnB φ n i = rnB φ n j) : i = j := by
  by_cases hi : i < φ.length
  · have ei := rnB_lt (n := n) (List.getElem?_eq_getElem hi)
    have li := hlt _ (List.getElem_mem hi)
    by_cases hj : j < φ.length
    · have ej := rnB_lt (n := n) (List.getElem?_eq_getElem hj)
      rw [ei, ej] at h
      rcases Nat.lt_trichotomy i j with k | k | k
      · exact absurd h (List.pairwise_iff_getElem.1 hφ i j hi hj k)
      · exact k
      · exact absurd h.symm (List.pairwise_iff_getElem.1 hφ j i hj hi k)
    · rw [ei, rnB_ge (by omega)] at h; omega
  · by_cases hj : j < φ.length
    · have ej := rnB_lt (n := n) (List.getElem?_eq_getElem hj)
      have lj := hlt _ (List.getElem_mem hj)
      rw [ej, rnB_ge (by omega)] at h; omega
    · rw [rnB_ge (by omega), rnB_ge (by omega)] at h; omega

def place (f : Nat → Nat) : List Nat → List Blk → List Blk → List Blk
  | [], H, H₁ => H ++ H₁.map (Blk.rn f)
  | b :: φ, H, x :: H₁ => place f φ (H.set b (x.rn f)) H₁
  | b :: φ, H, [] => place f φ (H.set b .dead) []

theorem place_length (f) : ∀ (φ : List Nat) (H H₁ : List Blk), (place f φ H H₁).length = H.length + (H₁.length - φ.length)
  | [], H, H₁ => by simp [place]
  | b :: φ, H, x :: H₁ => by rw [place, place_length f φ]; simp
  | b :: φ, H, [] => by rw [place, place_length f φ]; simp
theorem place_out {f} {b : Nat} : ∀ {φ : List Nat} {H H₁ : List Blk}, b < H.length → b ∉ φ → (place f φ H H₁)[b]? = H[b]?
  | [], H, H₁, h, _ => by rw [place, List.getElem?_append_left h]
  | c :: φ, H, x :: H₁, h, hb => by
    rw [place, place_out (by simpa using h) (fun k => hb (by simp [k])), List.getElem?_set_ne (fun e => hb (by simp [e]))]
  | c :: φ, H, [], h, hb => by
    rw [place, place_out (by simpa using h) (fun k => hb (by simp [k])), List.getElem?_set_ne (fun e => hb (by simp [e]))]
theorem place_in {f} : ∀ {φ : List Nat} {H H₁ : List Blk} {i b : Nat}, φ.Nodup → (∀ b ∈ φ, b < H.length) → φ[i]? = some b →
    (place f φ H H₁)[b]? = some (match H₁[i]? with | some x => x.rn f | none => .dead)
  | c :: φ, H, x :: H₁, 0, b, hn, hl, h => by
    simp at h; subst h
    obtain ⟨h1, h2⟩ := List.nodup_cons.1 hn
    have := hl c (by simp)
    rw [place, place_out (by simpa using this) h1]
    simp [this]
  | c :: φ, H, [], 0, b, hn, hl, h => by
    simp at h; subst h
    obtain ⟨h1, h2⟩ := List.nodup_cons.1 hn
    have := hl c (by simp)
    rw [place, place_out (by simpa using this) h1]
    simp [this]
  | c :: φ, H, x :: H₁, i + 1, b, hn, hl, h => by
    rw [place]
    have := place_in (f := f) (φ := φ) (H := H.set c (x.rn f)) (H₁ := H₁) (i := i) (b := b) (List.nodup_cons.1 hn).2 (fun y hy => by simpa using hl y (by simp [hy])) (by simpa using h)
    rw [this]; simp
  | c :: φ, H, [], i + 1, b, hn, hl, h => by
    rw [place]
    have := place_in (f := f) (φ := φ) (H := H.set c .dead) (H₁ := []) (i := i) (b := b) (List.nodup_cons.1 hn).2 (fun y hy => by simpa using hl y (by simp [hy])) (by simpa using h)
    rw [this]; simp
theorem place_new {f} : ∀ {φ : List Nat} {H H₁ : List Blk} {j : Nat}, (place f φ H H₁)[H.length + j]? = (H₁[φ.length + j]?).map (Blk.rn f)
  | [], H, H₁, j => by rw [place, List.getElem?_append_right (by omega)]; simp
  | c :: φ, H, x :: H₁, j => by
    rw [place]
    have := place_new (f := f) (φ := φ) (H := H.set c (x.rn f)) (H₁ := H₁) (j := j)
    rw [List.length_set] at this
    rw [this, show (c :: φ).length + j = (φ.length + j) + 1 by simp; omega]
    rfl
  | c :: φ, H, [], j => by
    rw [place]
    have := place_new (f := f) (φ := φ) (H := H.set c .dead) (H₁ := []) (j := j)
    rw [List.length_set] at this
    rw [this]; simp

section
variable {m mc : Mp} {ro : Nat → Prop} {w : World} {f : Nat → Nat} {p : Nat} (hM : ∀ b g, b < p → mc b g = m (f b) g)
include hM
mutual
theorem AV.rn_back : ∀ (a : AV) (v : Value), a.bel p → VRel m ro w (a.rn f) v → VRel mc ro w a v
  | .bool _, _, _, h | .int _ _, _, _, h | .str _, _, _, h | .nilp, _, _, h | .nilm, _, _, h | .nilf, _, _, h | .nili, _, _, h => by simpa only [VRel, AV.rn] using h
  | .junk, _, _, _ => by simp only [VRel]
  | .ref b g o, v, c, h => by simp only [VRel, AV.rn, AV.bel] at h c ⊢; rw [hM b g c]; exact h
  | .hs b g o n es, v, c, h => by simp only [VRel, AV.rn, AV.bel] at h c ⊢; rw [hM b g c]; exact h
  | .mp b, v, c, h => by simp only [VRel, AV.rn, AV.bel] at h c ⊢; rw [hM b 0 c]; exact h
  | .tref cs, v, c, h => by
    simp only [VRel, AV.rn, AV.bel] at h c ⊢
    obtain ⟨cb, off, e, h⟩ := h
    exact ⟨cb, off, e, rns_backc cs cb off c h⟩
  | .sl s n cs, v, c, h => by
    simp only [VRel, AV.rn, AV.bel] at h c ⊢
    rcases h with ⟨h1, h2, h3, h4⟩ | ⟨hk', ad, cap, e, hle, hf, h⟩
    · exact .inl ⟨h1, h2, h3, by cases cs with | nil => rfl | cons a l => simp [rns] at h4⟩
    · exact .inr ⟨hk', ad, cap, e, hle, hf, h.imp (fun h => ⟨h.1, by cases cs with | nil => rfl | cons a l => have := h.2; simp [rns] at this⟩) fun h => ⟨h.1, rns_backc cs _ _ c h.2⟩⟩
  | .fn g first cap, v, c, h => by
    simp only [VRel, AV.rn, AV.bel] at h c ⊢
    obtain ⟨a, b, e, h1, h2⟩ := h
    exact ⟨a, b, e, rns_back first _ c.1 h1, rns_back cap _ c.2 h2⟩
  | .ifc t x, v, c, h => by
    simp only [VRel, AV.rn, AV.bel] at h c ⊢
    obtain ⟨y, e, h⟩ := h
    exact ⟨y, e, AV.rn_back x y c h⟩
  | .agg cs, v, c, h => by
    simp only [VRel, AV.rn, AV.bel] at h c ⊢
    obtain ⟨a, e, ho, h⟩ := h
    exact ⟨a, e, ho, rns_back cs _ c h⟩
  | .tup cs, v, c, h => by
    simp only [VRel, AV.rn, AV.bel] at h c ⊢
    obtain ⟨a, e, h⟩ := h
    exact ⟨a, e, rns_back cs _ c h⟩
theorem rns_back : ∀ (as : List AV) (vs : List Value), bels p as → VsRel m ro w (rns f as) vs → VsRel mc ro w as vs
  | [], vs, _, h => by simpa only [VsRel, rns] using h
  | a :: as, vs, c, h => by
    simp only [VsRel, rns, bels] at h c ⊢
    obtain ⟨v, vs', e, h1, h2⟩ := h
    exact ⟨v, vs', e, AV.rn_back a v c.1 h1, rns_back as vs' c.2 h2⟩
theorem rns_backc : ∀ (cs : List AV) (cb off : Nat), bels p cs → CsRel m ro w (rns f cs) cb off → CsRel mc ro w cs cb off
  | [], _, _, _, _ => by simp only [CsRel]
  | a :: as, cb, off, c, h => by
    simp only [CsRel, rns, bels] at h c ⊢
    obtain ⟨h1, ⟨v, hv, ho, h2⟩, h3⟩ := h
    exact ⟨h1, ⟨v, hv, ho, AV.rn_back a v c.1 h2⟩, rns_backc as cb (off + 1) c.2 h3⟩
end

theorem BlkRel.back {i : Nat} (hi : i < p) {x : Blk} (hx : x.bel p) (h : BlkRel m ro w (f i) (x.rn f)) : BlkRel mc ro w i x := by
  cases x with
  | cells g cs =>
    intro loc hl
    rw [hM i g hi] at hl
    have h := h loc hl
    cases loc with
    | void => cases cs with | nil => rfl | cons a l => simp [rns] at h
    | «at» cb base =>
      obtain ⟨c, t, hc, hlay⟩ := h
      refine ⟨c, t, hc, fun j a hja => ?_⟩
      obtain ⟨v, hv, ho, hr⟩ := hlay j (a.rn f) (by rw [rns_map, List.getElem?_map, hja]; rfl)
      exact ⟨v, hv, ho, AV.rn_back hM a v (bels_iff.1 hx a (List.mem_of_getElem? hja)) hr⟩
  | fro g cs =>
    intro loc hl
    rw [hM i g hi] at hl
    have h := h loc hl
    cases loc with
    | void => cases cs with | nil => rfl | cons a l => simp [rns] at h
    | «at» cb base => exact rns_backc hM cs cb base hx h
  | siter s q =>
    intro loc hl
    rw [hM i 0 hi] at hl
    exact h loc hl
  | dict es =>
    intro loc hl
    rw [hM i 0 hi] at hl
    exact h loc hl
  | dead => trivial
end

def Out.rn (f : Nat → Nat) : Out → Out
  | .ret v => .ret (v.rn f)
  | .pan => .pan

theorem ACall.frame {P : Program} {f : FuncId} {args : List AV} {H₀ : List Blk} {R : Out → List Blk → Prop} (h : ACall P f args H₀ R) {H : List Blk} (φ : List Nat) (hφ : φ.Nodup) (hlt : ∀ b ∈ φ, b < H.length) (hlen : H₀.length = φ.length)
    (hH : ∀ (i : Nat) (x : Blk) (b : Nat), H₀[i]? = some x → φ[i]? = some b → H[b]? = some (x.rn (rnB φ H.length))) (ba : bels φ.length args) (bh : blksBel φ.length H₀) :
    ACall P f (rns (rnB φ H.length) args) H fun o H' => ∃ (o₀ : Out) (H₁ : List Blk), R o₀ H₁ ∧ o = o₀.rn (rnB φ H.length) ∧ H' = place (rnB φ H.length) φ H H₁ := by
  refine ⟨h.1, fun m ro w cargs hi hx => ?_⟩
  generalize hfe : rnB φ H.length = F at *
  have hFlt : ∀ i b, φ[i]? = some b → F i = b := fun i b hb => by rw [← hfe]; exact rnB_lt hb
  have hFge : ∀ i, φ.length ≤ i → F i = H.length + (i - φ.length) := fun i hb => by rw [← hfe]; exact rnB_ge hb
  have hFinj : ∀ i j, F i = F j → i = j := fun i j e => by rw [← hfe] at e; exact rnB_inj hφ hlt e
  let mc : Mp := fun i g => if i < φ.length then m (F i) g else none
  have hmc : ∀ i g, i < φ.length → mc i g = m (F i) g := fun i g hb => if_pos hb
  have hmcs : ∀ i g loc, mc i g = some loc → i < φ.length ∧ m (F i) g = some loc := fun i g loc hb => by
    have hb : (if i < φ.length then m (F i) g else none) = some loc := hb
    split at hb
    · exact ⟨by assumption, hb⟩
    · simp at hb
  have hget : ∀ i x, H₀[i]? = some x → i < φ.length ∧ H[F i]? = some (x.rn F) := fun i x hb => by
    have hl := (List.getElem?_eq_some_iff.1 hb).1
    have hl : i < φ.length := by omega
    have e := List.getElem?_eq_getElem hl
    refine ⟨hl, ?_⟩
    rw [hFlt _ _ e]
    exact hH i x _ hb e
  have hmw : ∀ cb, MW mc (lk H₀) cb → ∃ i, i < φ.length ∧ Owns m (lk H) (F i) cb := by
    rintro cb ⟨i, x, g, base, k1, k2, k3⟩
    obtain ⟨hl, e⟩ := hget i x k1
    exact ⟨i, hl, _, g, base, e, by rw [Blk.rn_own]; exact k2, (hmcs _ _ _ k3).2⟩
  have hmw' : ∀ cb, MW mc (lk H₀) cb → MW m (lk H) cb := fun cb hb => by
    obtain ⟨i, _, x, g, base, k1, k2, k3⟩ := hmw cb hb
    exact ⟨F i, x, g, base, k1, k2, k3⟩
  have hi₀ : InvL mc ro H₀ w := by
    refine ⟨⟨hi.inv.ro_lt, ?_, ?_, fun cb hb => hi.inv.excl cb (hmw' cb hb), ?_, hi.inv.glob.any⟩, fun b g loc hb => by have := (hmcs _ _ _ hb).1; omega⟩
    · intro i x hb
      obtain ⟨hl, e⟩ := hget i x hb
      exact BlkRel.back hmc hl (blksBel_get bh hb) (hi.inv.blk _ _ e)
    · intro i j x y g g' cb base base' h1 h2 k1 k2 l1 l2
      obtain ⟨_, e1⟩ := hget i x h1
      obtain ⟨_, e2⟩ := hget j y h2
      exact hFinj _ _ (hi.inv.inj _ _ _ _ g g' cb base base' e1 e2 (by rw [Blk.rn_own]; exact k1) (by rw [Blk.rn_own]; exact k2) (hmcs _ _ _ l1).2 (hmcs _ _ _ l2).2)
    · intro i x g h1 h2 g' loc h3
      obtain ⟨_, e1⟩ := hget i x h1
      exact hi.inv.gen _ _ g e1 (by rw [Blk.rn_own]; exact h2) g' loc (hmcs _ _ _ h3).2
  refine (h.2 mc ro w cargs hi₀ (rns_back hmc args _ ba hx)).mono ?_
  rintro e w' ⟨m', ro', out, H₁, hR, hout, hi', hst⟩
  -- the callee's number of a block
  let fi : Nat → Option Nat := fun b => if b < H.length then (if b ∈ φ then some (φ.idxOf b) else none) else some (φ.length + (b - H.length))
  have hidx : ∀ b, b ∈ φ → φ[φ.idxOf b]? = some b := fun b hb => by
    rw [List.getElem?_eq_getElem (List.idxOf_lt_length_of_mem hb), List.getElem_idxOf]
  have hfi : ∀ b i, fi b = some i → F i = b := by
    intro b i hb
    have hb : (if b < H.length then (if b ∈ φ then some (φ.idxOf b) else none) else some (φ.length + (b - H.length))) = some i := hb
    split at hb
    · split at hb
      · rename_i hm
        cases hb
        exact hFlt _ _ (hidx b hm)
      · simp at hb
    · cases hb
      rw [hFge _ (by omega)]; omega
  have hFi : ∀ i, fi (F i) = some i := by
    intro i
    show (if F i < H.length then (if F i ∈ φ then some (φ.idxOf (F i)) else none) else some (φ.length + (F i - H.length))) = some i
    by_cases hl : i < φ.length
    · have e := hFlt i _ (List.getElem?_eq_getElem hl)
      have hm := List.getElem_mem hl
      rw [e, if_pos (hlt _ hm), if_pos hm]
      congr 1
      refine hFinj _ _ ?_
      rw [hFlt _ _ (hidx _ hm), e]
    · rw [hFge i (by omega), if_neg (by omega)]
      congr 1; omega
  have hfn : ∀ b, fi b = none → b < H.length ∧ b ∉ φ := by
    intro b hb
    have hb : (if b < H.length then (if b ∈ φ then some (φ.idxOf b) else none) else some (φ.length + (b - H.length))) = none := hb
    split at hb
    · split at hb
      · simp at hb
      · exact ⟨by assumption, by assumption⟩
    · simp at hb
  let M : Mp := fun b g => match fi b with | some i => m' i g | none => m b g
  have hMF : ∀ i g, M (F i) g = m' i g := fun i g => by
    show (match fi (F i) with | some i => m' i g | none => m (F i) g) = _
    rw [hFi]
  have hMn : ∀ b g, fi b = none → M b g = m b g := fun b g hb => by
    show (match fi b with | some i => m' i g | none => m b g) = _
    rw [hb]
  have hMs : ∀ b i g, fi b = some i → M b g = m' i g := fun b i g hb => by
    show (match fi b with | some i => m' i g | none => m b g) = _
    rw [hb]
  have mle : ∀ b g loc, m b g = some loc → M b g = some loc := fun b g loc hb => by
    cases hf : fi b with
    | none => rw [hMn b g hf]; exact hb
    | some i =>
      have hl := hi.bound b g loc hb
      rw [hMs b i g hf]
      have e := hfi b i hf
      refine hst.mle i g loc ?_
      rw [hmc i g ?_, e]
      · exact hb
      · refine Classical.byContradiction fun hge => ?_
        rw [hFge i (by omega)] at e
        omega
  have hM : ∀ i g loc, m' i g = some loc → M (F i) g = some loc := fun i g loc hb => by rw [hMF]; exact hb
  have hH'n : ∀ b, fi b = none → (place F φ H H₁)[b]? = H[b]? := fun b hb => by
    obtain ⟨h1, h2⟩ := hfn b hb
    exact place_out h1 h2
  have hH's : ∀ b i y, fi b = some i → (place F φ H H₁)[b]? = some y → y = .dead ∨ ∃ x, H₁[i]? = some x ∧ y = x.rn F := fun b i y hb hy => by
    have e := hfi b i hb
    by_cases hl : i < φ.length
    · have e1 := hFlt i _ (List.getElem?_eq_getElem hl)
      rw [← e, e1, place_in hφ hlt (List.getElem?_eq_getElem hl)] at hy
      cases hy
      cases hc : H₁[i]? with
      | none => exact .inl rfl
      | some x => exact .inr ⟨x, rfl, rfl⟩
    · rw [← e, hFge i (by omega), place_new, Option.map_eq_some_iff] at hy
      obtain ⟨x, hx, rfl⟩ := hy
      rw [show φ.length + (i - φ.length) = i by omega] at hx
      exact .inr ⟨x, hx, rfl⟩
  -- what a block outside owns, the callee doesn't
  have hother : ∀ b x g cb base, fi b = none → H[b]? = some x → x.own = some g → m b g = some (.at cb base) → ¬ MW mc (lk H₀) cb := fun b x g cb base hf h1 h2 h3 hm => by
    obtain ⟨i, hl, y, g', base', k1, k2, k3⟩ := hmw cb hm
    have := hi.inv.inj b (F i) x y g g' cb base base' h1 k1 h2 k2 h3 k3
    rw [this, hFi] at hf
    simp at hf
  have hcal : ∀ cb, MW M (lk (place F φ H H₁)) cb → (∃ b x g base, fi b = none ∧ H[b]? = some x ∧ x.own = some g ∧ m b g = some (.at cb base)) ∨ MW m' (lk H₁) cb := by
    rintro cb ⟨b, y, g, base, k1, k2, k3⟩
    cases hf : fi b with
    | none =>
      rw [hMn b g hf] at k3
      have k1 : (place F φ H H₁)[b]? = some y := k1
      rw [hH'n b hf] at k1
      exact .inl ⟨b, y, g, base, hf, k1, k2, k3⟩
    | some i =>
      rw [hMs b i g hf] at k3
      rcases hH's b i y hf k1 with rfl | ⟨x, hx, rfl⟩
      · simp [Blk.own] at k2
      · rw [Blk.rn_own] at k2
        exact .inr ⟨i, x, g, base, hx, k2, k3⟩
  have hmwM : ∀ cb, MW M (lk (place F φ H H₁)) cb → MW m (lk H) cb ∨ w.heap.size ≤ cb := fun cb hb => by
    rcases hcal cb hb with ⟨b, x, g, base, _, k1, k2, k3⟩ | hb
    · exact .inl ⟨b, x, g, base, k1, k2, k3⟩
    · rcases hst.mw cb hb with hb | hb
      · exact .inl (hmw' cb hb)
      · exact .inr hb
  refine ⟨M, ro', out.rn F, place F φ H H₁, ⟨out, H₁, hR, rfl, rfl⟩, ?_, ⟨⟨hi'.inv.ro_lt, ?_, ?_, ?_, ?_, hi'.inv.glob.any⟩, ?_⟩,
    ⟨mle, hst.size, hst.os, hst.out, hst.tape, fun cb hlt hn => hst.kept cb hlt fun k => hn (hmw' cb k), hst.shape, hmwM, hst.ro_le, fun cb hb => by
      rcases hst.ro_new cb hb with k | k | k
      · exact .inl k
      · exact .inr (.inl (hmw' cb k))
      · exact .inr (.inr k)⟩⟩
  · cases out with
    | ret a =>
      cases e with
      | returned v => exact AV.rn_rel hM a v hout
      | panicked _ => exact hout.elim
      | outgrown => exact hout.elim
    | pan =>
      cases e with
      | returned v => exact hout.elim
      | panicked _ => exact hout
      | outgrown => exact hout.elim
  · intro b y hb
    cases hf : fi b with
    | none =>
      have hb : (place F φ H H₁)[b]? = some y := hb
      rw [hH'n b hf] at hb
      exact BlkRel.keep mle hst.shape hst.ro_le (fun cb hc => hst.kept cb (hi.inv.ro_lt cb hc) fun k => hi.inv.excl cb (hmw' cb k) hc) (hMn b · hf)
        (fun g cb base k1 k2 => hst.kept cb (hi.inv.own_lt hb k1 k2) (hother b y g cb base hf hb k1 k2)) (hi.inv.blk b y hb)
    | some i =>
      rcases hH's b i y hf hb with rfl | ⟨x, hx, rfl⟩
      · trivial
      · have := BlkRel.rn hM (hMF i) (hi'.inv.blk i x hx)
        rw [hfi b i hf] at this
        exact this
  · intro b b' y y' g g' cb base base' h1 h2 k1 k2 l1 l2
    have lt1 : ∀ b x g cb base, fi b = none → H[b]? = some x → x.own = some g → m b g = some (.at cb base) → ∀ j y' g' base', H₁[j]? = some y' → y'.own = some g' → m' j g' = some (.at cb base') → False := by
      intro b x g cb base hf q1 q2 q3 j y' g' base' q4 q5 q6
      rcases hst.mw cb ⟨j, y', g', base', q4, q5, q6⟩ with q | q
      · exact hother b x g cb base hf q1 q2 q3 q
      · have := hi.inv.own_lt q1 q2 q3; omega
    cases hf : fi b with
    | none =>
      have h1 : (place F φ H H₁)[b]? = some y := h1
      rw [hH'n b hf] at h1
      rw [hMn b g hf] at l1
      cases hf' : fi b' with
      | none =>
        have h2 : (place F φ H H₁)[b']? = some y' := h2
        rw [hH'n b' hf'] at h2
        rw [hMn b' g' hf'] at l2
        exact hi.inv.inj b b' y y' g g' cb base base' h1 h2 k1 k2 l1 l2
      | some j =>
        rw [hMs b' j g' hf'] at l2
        rcases hH's b' j y' hf' h2 with rfl | ⟨x, hx, rfl⟩
        · simp [Blk.own] at k2
        · rw [Blk.rn_own] at k2
          exact (lt1 b y g cb base hf h1 k1 l1 j x g' base' hx k2 l2).elim
    | some i =>
      rw [hMs b i g hf] at l1
      rcases hH's b i y hf h1 with rfl | ⟨x, hx, rfl⟩
      · simp [Blk.own] at k1
      · rw [Blk.rn_own] at k1
        cases hf' : fi b' with
        | none =>
          have h2 : (place F φ H H₁)[b']? = some y' := h2
          rw [hH'n b' hf'] at h2
          rw [hMn b' g' hf'] at l2
          exact (lt1 b' y' g' cb base' hf' h2 k2 l2 i x g base hx k1 l1).elim
        | some j =>
          rw [hMs b' j g' hf'] at l2
          rcases hH's b' j y' hf' h2 with rfl | ⟨x', hx', rfl⟩
          · simp [Blk.own] at k2
          · rw [Blk.rn_own] at k2
            have := hi'.inv.inj i j x x' g g' cb base base' hx hx' k1 k2 l1 l2
            rw [← hfi b i hf, ← hfi b' j hf', this]
  · intro cb hm hr
    rcases hcal cb hm with ⟨b, x, g, base, hf, k1, k2, k3⟩ | hm
    · rcases hst.ro_new cb hr with k | k | k
      · exact hi.inv.excl cb ⟨b, x, g, base, k1, k2, k3⟩ k
      · exact hother b x g cb base hf k1 k2 k3 k
      · have := hi.inv.own_lt k1 k2 k3; omega
    · exact hi'.inv.excl cb hm hr
  · intro b y g h1 h2 g' loc h3
    cases hf : fi b with
    | none =>
      have h1 : (place F φ H H₁)[b]? = some y := h1
      rw [hH'n b hf] at h1
      rw [hMn b g' hf] at h3
      exact hi.inv.gen b y g h1 h2 g' loc h3
    | some i =>
      rw [hMs b i g' hf] at h3
      rcases hH's b i y hf h1 with rfl | ⟨x, hx, rfl⟩
      · simp [Blk.own] at h2
      · rw [Blk.rn_own] at h2
        exact hi'.inv.gen i x g hx h2 g' loc h3
  · intro b g loc hb
    rw [place_length]
    cases hf : fi b with
    | none => have := (hfn b hf).1; omega
    | some i =>
      rw [hMs b i g hf] at hb
      have hl := hi'.bound i g loc hb
      have e := hfi b i hf
      by_cases hip : i < φ.length
      · have e1 := hFlt i _ (List.getElem?_eq_getElem hip)
        have := hlt _ (List.getElem_mem hip)
        omega
      · rw [hFge i (by omega)] at e; omega

theorem callF {P : Program} {f : FuncId} {args as : List AV} {H H₀ : List Blk} {R X : Out → List Blk → Prop} (φ : List Nat) (h : ACall P f args H₀ R) (hφ : φ.Nodup) (hlt : ∀ b ∈ φ, b < H.length) (hlen : H₀.length = φ.length)
    (hH : φ.map (H[·]?) = H₀.map fun x => some (x.rn (rnB φ H.length))) (ba : bels φ.length args) (bh : blksBel φ.length H₀) (has : as = rns (rnB φ H.length) args)
    (k : ∀ (o₀ : Out) (H₁ : List Blk), R o₀ H₁ → X (o₀.rn (rnB φ H.length)) (place (rnB φ H.length) φ H H₁)) : ∃ R : Out → List Blk → Prop, ACall P f as H R ∧ ∀ o H', R o H' → X o H' := by
  subst has
  refine ⟨_, ACall.frame h φ hφ hlt hlen (fun i x b hx hb => ?_) ba bh, ?_⟩
  · have e : (φ.map (H[·]?))[i]? = (H₀.map fun x => some (x.rn (rnB φ H.length)))[i]? := by rw [hH]
    rw [List.getElem?_map, List.getElem?_map, hx, hb] at e
    simpa using e
  · rintro o H' ⟨o₀, H₁, hR, rfl, rfl⟩
    exact k o₀ H₁ hR

theorem Ent.pick {nt : Fr} {s : Slots} {H : List Blk} (φ : List Nat) (hφ : φ.Nodup) (hlt : ∀ b ∈ φ, b < H.length) (hk : ∀ b, b < nt.k → φ[b]? = some b) (l : List (Nat × AV)) (H' : List Blk) (hlen : H'.length = φ.length)
    (hs : ∀ t, ((Tab.fr l) t).rn (rnB φ H.length) = .junk ∨ ((Tab.fr l) t).rn (rnB φ H.length) = s t) (hH : ∀ (i : Nat) (x : Blk) (b : Nat), H'[i]? = some x → φ[i]? = some b → H[b]? = some (x.rn (rnB φ H.length))) (bl : frBel φ.length l) (bh : blksBel φ.length H') :
    Ent nt s H (Tab.fr l) H' := by
  rintro c a w ⟨m, ro, hi, hst, hsl, hsz, hd⟩
  generalize hfe : rnB φ H.length = F at *
  have hFlt : ∀ i b, φ[i]? = some b → F i = b := fun i b hb => by rw [← hfe]; exact rnB_lt hb
  have hFinj : ∀ i j, F i = F j → i = j := fun i j e => by rw [← hfe] at e; exact rnB_inj hφ hlt e
  let mc : Mp := fun i g => if i < φ.length then m (F i) g else none
  have hmc : ∀ i g, i < φ.length → mc i g = m (F i) g := fun i g hb => if_pos hb
  have hmcs : ∀ i g loc, mc i g = some loc → i < φ.length ∧ m (F i) g = some loc := fun i g loc hb => by
    have hb : (if i < φ.length then m (F i) g else none) = some loc := hb
    split at hb
    · exact ⟨by assumption, hb⟩
    · simp at hb
  have hget : ∀ i x, H'[i]? = some x → i < φ.length ∧ H[F i]? = some (x.rn F) := fun i x hb => by
    have hl := (List.getElem?_eq_some_iff.1 hb).1
    have hl : i < φ.length := by omega
    have e := List.getElem?_eq_getElem hl
    refine ⟨hl, ?_⟩
    rw [hFlt _ _ e]
    exact hH i x _ hb e
  have hmw' : ∀ cb, MW mc (lk H') cb → MW m (lk H) cb := by
    rintro cb ⟨i, x, g, base, k1, k2, k3⟩
    obtain ⟨hl, e⟩ := hget i x k1
    exact ⟨F i, _, g, base, e, by rw [Blk.rn_own]; exact k2, (hmcs _ _ _ k3).2⟩
  refine ⟨mc, ro, ⟨⟨hi.inv.ro_lt, ?_, ?_, fun cb hb => hi.inv.excl cb (hmw' cb hb), ?_, hi.inv.glob.any⟩, fun b g loc hb => by have := (hmcs _ _ _ hb).1; omega⟩,
    ⟨fun b g loc h => ?_, hst.size, hst.os, hst.out, hst.tape, hst.kept, hst.shape, fun cb h => hst.mw cb (hmw' cb h), hst.ro_le, hst.ro_new⟩, fun t => ?_, hsz, hd⟩
  · intro i x hb
    obtain ⟨hl, e⟩ := hget i x hb
    exact BlkRel.back hmc hl (blksBel_get bh hb) (hi.inv.blk _ _ e)
  · intro i j x y g g' cb base base' h1 h2 k1 k2 l1 l2
    obtain ⟨_, e1⟩ := hget i x h1
    obtain ⟨_, e2⟩ := hget j y h2
    exact hFinj _ _ (hi.inv.inj _ _ _ _ g g' cb base base' e1 e2 (by rw [Blk.rn_own]; exact k1) (by rw [Blk.rn_own]; exact k2) (hmcs _ _ _ l1).2 (hmcs _ _ _ l2).2)
  · intro i x g h1 h2 g' loc h3
    obtain ⟨_, e1⟩ := hget i x h1
    exact hi.inv.gen _ _ g e1 (by rw [Blk.rn_own]; exact h2) g' loc (hmcs _ _ _ h3).2
  · have hb := hk b (c.kb b g loc h)
    have hl := (List.getElem?_eq_some_iff.1 hb).1
    rw [hmc b g hl, hFlt b b hb]
    exact hst.mle b g loc h
  · have hb := fr_bel bl t
    refine AV.rn_back hmc _ _ hb ?_
    rcases hs t with e | e
    · rw [e]; simp only [VRel]
    · rw [e]; exact hsl t

mutual
theorem AV.rn_id {f : Nat → Nat} {n : Nat} (hf : ∀ b, b < n → f b = b) : ∀ (a : AV), a.bel n → a.rn f = a
  | .ref b _ _, h | .hs b _ _ _ _, h | .mp b, h => by simp only [AV.bel, AV.rn] at h ⊢; rw [hf b h]
  | .tref cs, h | .sl _ _ cs, h | .agg cs, h | .tup cs, h => by simp only [AV.bel, AV.rn] at h ⊢; rw [rns_id hf cs h]
  | .fn _ a b, h => by simp only [AV.bel, AV.rn] at h ⊢; rw [rns_id hf a h.1, rns_id hf b h.2]
  | .ifc _ v, h => by simp only [AV.bel, AV.rn] at h ⊢; rw [AV.rn_id hf v h]
  | .bool _, _ | .int _ _, _ | .str _, _ | .nilp, _ | .nilm, _ | .nilf, _ | .nili, _ | .junk, _ => by simp only [AV.rn]
theorem rns_id {f : Nat → Nat} {n : Nat} (hf : ∀ b, b < n → f b = b) : ∀ (as : List AV), bels n as → rns f as = as
  | [], _ => rfl
  | a :: as, h => by simp only [bels, rns] at h ⊢; rw [AV.rn_id hf a h.1, rns_id hf as h.2]
end
theorem Blk.rn_id {f : Nat → Nat} {n : Nat} (hf : ∀ b, b < n → f b = b) (x : Blk) (h : x.bel n) : x.rn f = x := by
  cases x with
  | cells g cs => simp only [Blk.bel, Blk.rn] at h ⊢; rw [rns_id hf cs h]
  | fro g cs => simp only [Blk.bel, Blk.rn] at h ⊢; rw [rns_id hf cs h]
  | _ => rfl

mutual
theorem AV.bel_le {n k : Nat} (hk : n ≤ k) : ∀ (a : AV), a.bel n → a.bel k
  | .ref b _ _, h | .hs b _ _ _ _, h | .mp b, h => by simp only [AV.bel] at h ⊢; omega
  | .tref cs, h | .sl _ _ cs, h | .agg cs, h | .tup cs, h => by simp only [AV.bel] at h ⊢; exact bels_le hk cs h
  | .fn _ a b, h => by simp only [AV.bel] at h ⊢; exact ⟨bels_le hk a h.1, bels_le hk b h.2⟩
  | .ifc _ v, h => by simp only [AV.bel] at h ⊢; exact AV.bel_le hk v h
  | .bool _, _ | .int _ _, _ | .str _, _ | .nilp, _ | .nilm, _ | .nilf, _ | .nili, _ | .junk, _ => by simp only [AV.bel]
theorem bels_le {n k : Nat} (hk : n ≤ k) : ∀ (as : List AV), bels n as → bels k as
  | [], _ => by simp only [bels]
  | a :: as, h => by simp only [bels] at h ⊢; exact ⟨AV.bel_le hk a h.1, bels_le hk as h.2⟩
end
theorem Blk.bel_le {n k : Nat} (hk : n ≤ k) (x : Blk) (h : x.bel n) : x.bel k := by
  cases x with
  | cells g cs => exact bels_le hk cs h
  | fro g cs => exact bels_le hk cs h
  | _ => trivial
theorem fr_rn (f : Nat → Nat) : ∀ (l : List (Nat × AV)) (t : Nat), ((Tab.fr l) t).rn f = Tab.fr (l.map fun p => (p.1, p.2.rn f)) t
  | [], _ => rfl
  | (t', v) :: l, t => by
    simp only [List.map_cons, Tab.fr, upd]
    cases Nat.beq t t'
    · simp only [cond_false]; exact fr_rn f l t
    · rfl
theorem frOk_rn {s : Slots} {f : Nat → Nat} {l : List (Nat × AV)} (h : frOk s (l.map fun p => (p.1, p.2.rn f))) (t : Nat) : ((Tab.fr l) t).rn f = .junk ∨ ((Tab.fr l) t).rn f = s t := by
  rw [fr_rn]; exact fr_le h t

mutual
inductive RdK (H : List Blk) (b : Nat) : AV → AV → Prop
  | keep (g o n es) : RdK H b (.hs b g o n es) (.hs 0 g o n es)
  | rd {a a'} (h : Rd (H.set b .dead) a a') (c : a'.closed) : RdK H b a a'
  | agg {cs cs'} (h : RdKs H b cs cs') : RdK H b (.agg cs) (.agg cs')
  | tup {cs cs'} (h : RdKs H b cs cs') : RdK H b (.tup cs) (.tup cs')
inductive RdKs (H : List Blk) (b : Nat) : List AV → List AV → Prop
  | nil : RdKs H b [] []
  | cons {a a' as as'} (h : RdK H b a a') (t : RdKs H b as as') : RdKs H b (a :: as) (a' :: as')
end

theorem InvL.without {m ro H w} (hi : InvL m ro H w) (b : Nat) : InvL m ro (H.set b .dead) w := by
  have hget : ∀ (b' : Nat) (x : Blk), (H.set b .dead)[b']? = some x → x = .dead ∨ H[b']? = some x := fun b' x h => by
    rw [List.getElem?_set] at h
    split at h
    · split at h
      · cases h; exact .inl rfl
      · simp at h
    · exact .inr h
  have hown : ∀ (b' : Nat) (x : Blk) (g : Nat), (H.set b .dead)[b']? = some x → x.own = some g → H[b']? = some x := fun b' x g h ho => by
    rcases hget b' x h with rfl | h
    · simp [Blk.own] at ho
    · exact h
  refine ⟨⟨hi.inv.ro_lt, ?_, ?_, ?_, ?_, hi.inv.glob⟩, fun b' g loc h => by simpa using hi.bound b' g loc h⟩
  · intro b' x h
    rcases hget b' x h with rfl | h
    · trivial
    · exact hi.inv.blk b' x h
  · intro b₁ b₂ x x' g g' cb base base' h1 h2 k1 k2 l1 l2
    exact hi.inv.inj b₁ b₂ x x' g g' cb base base' (hown _ _ _ h1 k1) (hown _ _ _ h2 k2) k1 k2 l1 l2
  · rintro cb ⟨b', x, g, base, h1, h2, h3⟩
    exact hi.inv.excl cb ⟨b', x, g, base, hown _ _ _ h1 h2, h2, h3⟩
  · intro b' x g h1 h2 g' loc h3
    exact hi.inv.gen b' x g (hown _ _ _ h1 h2) h2 g' loc h3

section
variable {H : List Blk} {b : Nat} {m M : Mp} {ro : Nat → Prop} {w : World} (hi : InvL m ro H w) (hM : ∀ g loc, m b g = some loc → M 0 g = some loc)
include hi hM
mutual
theorem RdK.rel : ∀ {a a' : AV}, RdK H b a a' → ∀ {v : Value}, VRel m ro w a v → VRel M (fun cb => ro cb ∨ MW m (lk (H.set b .dead)) cb) w a' v
  | _, _, .keep g o n es, v, h => by
    simp only [VRel] at h ⊢
    obtain ⟨loc, h1, h2⟩ := h
    exact ⟨loc, hM g loc h1, h2⟩
  | _, _, .rd h c, v, hv => AV.closed_rel _ v c (h.rel (hi.without b) hv)
  | _, _, .agg h, v, hv => by
    simp only [VRel] at hv ⊢
    obtain ⟨c, e, ho, hv⟩ := hv
    exact ⟨c, e, ho, RdKs.rel h hv⟩
  | _, _, .tup h, v, hv => by
    simp only [VRel] at hv ⊢
    obtain ⟨c, e, hv⟩ := hv
    exact ⟨c, e, RdKs.rel h hv⟩
theorem RdKs.rel : ∀ {as as' : List AV}, RdKs H b as as' → ∀ {vs : List Value}, VsRel m ro w as vs → VsRel M (fun cb => ro cb ∨ MW m (lk (H.set b .dead)) cb) w as' vs
  | _, _, .nil, vs, hv => by simpa only [VsRel] using hv
  | _, _, .cons h t, vs, hv => by
    simp only [VsRel] at hv ⊢
    obtain ⟨v, vs', e, h1, h2⟩ := hv
    exact ⟨v, vs', e, RdK.rel h h1, RdKs.rel t h2⟩
end
end

end Tab

/- Contracts over the first blocks of a heap. -/
namespace Tab
open Go
variable [Globs]
set_option linter.unusedSectionVars false

theorem place_range (f : Nat → Nat) (n : Nat) (hf : ∀ b, b < n → f b = b) : ∀ (H₁ X : List Blk) (k : Nat) (pre : List Blk) (Y : List Blk), pre.length = k → Y.length = H₁.length → (∀ x ∈ H₁, x.bel n) →
    place f ((List.range H₁.length).map (k + ·)) (pre ++ Y ++ X) H₁ = pre ++ H₁ ++ X
  | [], X, k, pre, Y, _, hY, _ => by
    have : Y = [] := List.length_eq_zero_iff.1 (by simpa using hY)
    subst this
    simp [place]
  | x :: H₁, X, k, pre, Y, hk, hY, hb => by
    cases Y with
    | nil => simp at hY
    | cons y Y =>
      have e : (List.range (x :: H₁).length).map (k + ·) = k :: (List.range H₁.length).map ((k + 1) + ·) := by
        rw [List.length_cons, List.range_succ_eq_map, List.map_cons, List.map_map, Nat.add_zero]
        congr 1
        refine List.map_congr_left fun j _ => ?_
        simp only [Function.comp]; omega
      rw [e, place, Blk.rn_id hf x (hb x (by simp))]
      have e2 : (pre ++ y :: Y ++ X).set k x = (pre ++ [x]) ++ Y ++ X := by
        subst hk; simp
      rw [e2, place_range f n hf H₁ X (k + 1) (pre ++ [x]) Y (by simp [hk]) (by simpa using hY) fun z hz => hb z (by simp [hz])]
      simp
theorem blksBel_mem {n : Nat} {H : List Blk} (h : blksBel n H) : ∀ x ∈ H, x.bel n := fun x hx => by
  obtain ⟨i, hi, rfl⟩ := List.getElem_of_mem hx
  exact blksBel_get h (List.getElem?_eq_getElem hi)
theorem ACall.tail {P : Program} {f : FuncId} {args : List AV} {H₀ H₁ : List Blk} {v : AV} (h : ACall P f args H₀ fun o H' => o = .ret v ∧ H' = H₁) (X : List Blk) (hl : H₁.length = H₀.length) (ba : bels H₀.length args) (bh : blksBel H₀.length H₀) (bh' : blksBel H₀.length H₁) (hv : v.bel H₀.length) :
    ACall P f args (H₀ ++ X) fun o H' => o = .ret v ∧ H' = H₁ ++ X := by
  have hF : ∀ b, b < H₀.length → rnB (List.range H₀.length) (H₀ ++ X).length b = b := fun b hb => rnB_lt (by rw [List.getElem?_range hb])
  have k := ACall.frame h (H := H₀ ++ X) (List.range H₀.length) List.nodup_range (fun b hb => by have := List.mem_range.1 hb; rw [List.length_append]; omega) (by simp)
    (fun i x b hx hb => by
      have hi := (List.getElem?_eq_some_iff.1 hx).1
      rw [List.getElem?_range hi] at hb
      cases hb
      rw [List.getElem?_append_left hi, hx, Blk.rn_id hF x (blksBel_get bh hx)]) (by simpa using ba) (by simpa using bh)
  rw [rns_id hF args ba] at k
  refine ⟨k.1, fun m ro w cargs hi hx => (k.2 m ro w cargs hi hx).mono ?_⟩
  rintro e w' ⟨m', ro', out, H', ⟨o₀, H₂, ⟨rfl, rfl⟩, rfl, rfl⟩, k2⟩
  refine ⟨m', ro', _, _, ⟨?_, ?_⟩, k2⟩
  · rw [Out.rn, AV.rn_id hF v hv]
  · have e := place_range (rnB (List.range H₀.length) (H₀ ++ X).length) H₀.length hF H₂ X 0 [] H₀ rfl hl.symm (blksBel_mem bh')
    rw [hl] at e
    simpa using e
theorem callT {P : Program} {f : FuncId} {args : List AV} {H H₀ H₁ : List Blk} {v : AV} {Y : Out → List Blk → Prop} (h : ACall P f args H₀ fun o H' => o = .ret v ∧ H' = H₁) (X : List Blk) (hH : H = H₀ ++ X) (hl : H₁.length = H₀.length) (ba : bels H₀.length args) (bh : blksBel H₀.length H₀) (bh' : blksBel H₀.length H₁) (hv : v.bel H₀.length)
    (k : Y (.ret v) (H₁ ++ X)) : ∃ R : Out → List Blk → Prop, ACall P f args H R ∧ ∀ o H', R o H' → Y o H' := by
  subst hH
  exact ⟨_, h.tail X hl ba bh bh' hv, by rintro _ _ ⟨rfl, rfl⟩; exact k⟩
end Tab

/- A function that leaves memory behind which nothing speaks of. -/
namespace Tab
open Go
variable [Globs]
set_option linter.unusedSectionVars false

theorem ACall.drop {P : Program} {f : FuncId} {args : List AV} {H₀ H₁ : List Blk} {v : AV} (h : ACall P f args H₀ fun o H' => ∃ X, o = .ret v ∧ H' = H₁ ++ X) (hl : H₀.length ≤ H₁.length) (cv : v.bel H₁.length) (hb : blksBel H₁.length H₁) :
    ACall P f args H₀ fun o H' => o = .ret v ∧ H' = H₁ := by
  refine ⟨h.1, fun m ro w cargs hi hx => ?_⟩
  refine (h.2 m ro w cargs hi hx).mono ?_
  rintro e w' ⟨m', ro', out, H', ⟨X, rfl, rfl⟩, hout, hi', hst⟩
  have hent := Ent.drop (nt := ⟨1, H₀.length⟩) (l := [(0, v)]) (H := H₁) (X := X) hl ⟨cv, trivial⟩ hb
  cases e with
  | returned x =>
    obtain ⟨m₂, ro₂, hi₂, hst₂, hsl, _, _⟩ := hent ⟨⟨m, ro, H₀, w, []⟩, fun b g loc hm => hi.bound b g loc hm⟩ { tmps := #[x], defers := [] } w'
      ⟨m', ro', hi', hst, fun t => by
        cases t with
        | zero => exact hout
        | succ t => simp only [fr, upd, Nat.beq, cond_false, VRel], rfl, rfl⟩
    exact ⟨m₂, ro₂, .ret v, H₁, ⟨rfl, rfl⟩, hsl 0, hi₂, hst₂⟩
  | panicked _ => exact hout.elim
  | outgrown => exact hout.elim

theorem finC {P : Program} {nt : Fr} {rs : List ResultVar} {v v' : AV} {s : Slots} {H H₁ : List Blk} (X : List Blk) (r : resA P rs s H = some v') (e : v' = v) (eH : H = H₁ ++ X) : RetE P nt rs (fun o H' => ∃ X, o = .ret v ∧ H' = H₁ ++ X) s H :=
  ⟨s, H, v, Ent.refl _ _ _, r.trans (congrArg some e), X, rfl, eH⟩

end Tab

/- What an operation does, for regions: a call that writes one block; a slice given away at once. -/
namespace Tab
open Go
variable [Globs]
set_option linter.unusedSectionVars false

theorem sem_callW {P : Program} {o : Oper} {ρ : Operand → AV} {n b : Nat} {c : Call} {f : Operand} {fid : FuncId} {args : List AV} {v : AV} {blk blk' : Blk} (ho : o.op = .call c) (hc : c.callee = .value f) (hf : ρ f = .fn (.func fid) [] [])
    (hp : ACall P fid args [blk] fun o H' => o = .ret v ∧ H' = [blk']) (ha : c.args.toList.map ρ = rns (fun _ => b) args) (ba : bels 1 args) (bb : blk.bel 0) (bb' : blk'.bel 0) (hv : v.closed) :
    OpSem P o ρ n { v := v, need := [(b, blk)], upd := some (b, blk') } := by
  intro m ro H w a hi hx hn _ next Q kk
  have hb : H b = some blk := hn (b, blk) (by simp)
  have hid : ∀ (x : Blk), x.bel 0 → ∀ F : Nat → Nat, x.rn F = x := fun x hx F => Blk.rn_id (n := 0) (fun b hb => absurd hb (by omega)) x hx
  have hfe : a.eval f = .func (.func fid) #[] #[] := by
    have := hx f (by simp [ho, Op.operands, Call.operands, hc])
    rw [hf] at this
    simp only [VRel, VsRel] at this
    obtain ⟨va, vb, h1, h2, h3⟩ := this
    rw [h1]
    congr 1
    · exact Array.ext' h2
    · exact Array.ext' h3
  have hargs : VsRel m ro w (c.args.toList.map ρ) (c.args.map a.eval).toList := by
    rw [Array.toList_map]
    exact map_rel _ fun x hxm => hx x (by simp only [ho, Op.operands, Call.operands, Array.mem_append]; exact .inr (by simpa using hxm))
  have hrun : (execOp a.eval o).run P w = .ok (.enter fid (c.args.map a.eval)) w := by
    simp [execOp, ho, resolve, hc, hfe, Deferred.ofValue, invoke, callFunc_run hp.1]
  unfold Oper.wp
  rw [hrun]
  let mc : Mp := fun i g => if i = 0 then m b g else none
  have hmc : ∀ i g, i < 1 → mc i g = m b g := fun i g h => if_pos (by omega)
  have hmcs : ∀ i g loc, mc i g = some loc → i = 0 ∧ m b g = some loc := fun i g loc h => by
    have h : (if i = 0 then m b g else none) = some loc := h
    split at h
    · exact ⟨by assumption, h⟩
    · simp at h
  have hget : ∀ i x, lk [blk] i = some x → i = 0 ∧ x = blk := fun i x h => by
    match i, h with
    | 0, h => exact ⟨rfl, (Option.some.inj h).symm⟩
    | _ + 1, h => simp [lk] at h
  have hmw : ∀ cb, MW mc (lk [blk]) cb → ∃ g base, blk.own = some g ∧ m b g = some (.at cb base) := by
    rintro cb ⟨i, x, g, base, k1, k2, k3⟩
    obtain ⟨rfl, rfl⟩ := hget i x k1
    exact ⟨g, base, k2, (hmcs _ _ _ k3).2⟩
  have hmw' : ∀ cb, MW mc (lk [blk]) cb → MW m H cb := fun cb h => by
    obtain ⟨g, base, k2, k3⟩ := hmw cb h
    exact ⟨b, blk, g, base, hb, k2, k3⟩
  have hi₀ : InvL mc ro [blk] w := by
    refine ⟨⟨hi.ro_lt, ?_, ?_, fun cb h => hi.excl cb (hmw' cb h), ?_, hi.glob.any⟩, fun b' g loc h => by have := (hmcs _ _ _ h).1; simp; omega⟩
    · intro i x h
      obtain ⟨rfl, rfl⟩ := hget i x h
      refine BlkRel.back (m := m) (f := fun _ => b) (p := 1) hmc (by omega) (Blk.bel_le (by omega) _ bb) ?_
      rw [hid _ bb]
      exact hi.blk b _ hb
    · intro i j x y g g' cb base base' h1 h2 _ _ _ _
      rw [(hget i x h1).1, (hget j y h2).1]
    · intro i x g h1 h2 g' loc h3
      obtain ⟨rfl, rfl⟩ := hget i x h1
      exact hi.gen b _ g hb h2 g' loc (hmcs _ _ _ h3).2
  refine (hp.2 mc ro w (c.args.map a.eval) hi₀ (rns_back (m := m) (f := fun _ => b) (p := 1) hmc args _ ba (by rw [← ha]; exact hargs))).mono ?_
  rintro e w' ⟨m', ro', out, H₁, ⟨rfl, rfl⟩, hout, hi', hst⟩
  cases e with
  | panicked _ => exact hout.elim
  | outgrown => exact hout.elim
  | returned u =>
    let M : Mp := fun b' g => if b' = b then m' 0 g else m b' g
    have hMb : ∀ g, M b g = m' 0 g := fun g => if_pos rfl
    have hMo : ∀ b' g, b' ≠ b → M b' g = m b' g := fun b' g h => if_neg h
    have mle : ∀ b' g loc, m b' g = some loc → M b' g = some loc := fun b' g loc h => by
      by_cases e : b' = b
      · subst e; rw [hMb]; exact hst.mle 0 g loc ((hmc 0 g (by omega)).trans h)
      · rw [hMo b' g e]; exact h
    have hb' : ∀ b₁ x, app H n { v := v, need := [(b, blk)], upd := some (b, blk') } b₁ = some x → (b₁ = b ∧ x = blk') ∨ (b₁ ≠ b ∧ H b₁ = some x) := fun b₁ x h => by
      simp only [app] at h
      by_cases e : b₁ = b
      · rw [if_pos e] at h; exact .inl ⟨e, (Option.some.inj h).symm⟩
      · rw [if_neg e] at h; exact .inr ⟨e, h⟩
    have hlk : lk [blk'] 0 = some blk' := rfl
    have hother : ∀ b₁ x g cb base, b₁ ≠ b → H b₁ = some x → x.own = some g → m b₁ g = some (.at cb base) → ¬ MW mc (lk [blk]) cb := fun b₁ x g cb base hne h1 h2 h3 hm => by
      obtain ⟨g', base', k2, k3⟩ := hmw cb hm
      exact hne (hi.inj b₁ b x blk g g' cb base base' h1 hb h2 k2 h3 k3)
    have hcal : ∀ cb, MW M (app H n { v := v, need := [(b, blk)], upd := some (b, blk') }) cb → (∃ b₁ x g base, b₁ ≠ b ∧ H b₁ = some x ∧ x.own = some g ∧ m b₁ g = some (.at cb base)) ∨ MW m' (lk [blk']) cb := by
      rintro cb ⟨b₁, y, g, base, k1, k2, k3⟩
      rcases hb' b₁ y k1 with ⟨rfl, rfl⟩ | ⟨e, k1⟩
      · rw [hMb] at k3; exact .inr ⟨0, _, g, base, hlk, k2, k3⟩
      · rw [hMo _ _ e] at k3; exact .inl ⟨b₁, y, g, base, e, k1, k2, k3⟩
    have hmwM : ∀ cb, MW M (app H n { v := v, need := [(b, blk)], upd := some (b, blk') }) cb → MW m H cb ∨ w.heap.size ≤ cb := fun cb h => by
      rcases hcal cb h with ⟨b₁, x, g, base, _, k1, k2, k3⟩ | h
      · exact .inl ⟨b₁, x, g, base, k1, k2, k3⟩
      · rcases hst.mw cb h with h | h
        · exact .inl (hmw' cb h)
        · exact .inr h
    have l1 : ∀ b₁ x g cb base, b₁ ≠ b → H b₁ = some x → x.own = some g → m b₁ g = some (.at cb base) → ∀ g' base', blk'.own = some g' → m' 0 g' = some (.at cb base') → False := by
      intro b₁ x g cb base hf q1 q2 q3 g' base' q5 q6
      rcases hst.mw cb ⟨0, blk', g', base', hlk, q5, q6⟩ with q | q
      · exact hother b₁ x g cb base hf q1 q2 q3 q
      · have := hi.own_lt q1 q2 q3; omega
    refine kk M ro' w' u (AV.closed_rel v u hv hout) ⟨hi'.inv.ro_lt, ?_, ?_, ?_, ?_, hi'.inv.glob.any⟩
      ⟨mle, hst.size, hst.os, hst.out, hst.tape, fun cb hlt hn => hst.kept cb hlt fun k => hn (hmw' cb k), hst.shape, hmwM, hst.ro_le, fun cb h => by
        rcases hst.ro_new cb h with k | k | k
        · exact .inl k
        · exact .inr (.inl (hmw' cb k))
        · exact .inr (.inr k)⟩ (fun b₁ g h => .inl ⟨blk', by
          by_cases e : b₁ = b
          · rw [e]
          · exact absurd (hMo b₁ g e) h⟩)
    · intro b₁ y h
      rcases hb' b₁ y h with ⟨rfl, rfl⟩ | ⟨e, h⟩
      · have h0 := hi'.inv.blk 0 _ hlk
        have := BlkRel.rn (M := M) (f := fun _ => b₁) (fun b₂ g loc h2 => by
          have hlt := hi'.bound b₂ g loc h2
          have : b₂ = 0 := by simp at hlt; omega
          subst this
          rw [hMb]; exact h2) hMb h0
        rwa [hid _ bb'] at this
      · exact BlkRel.keep mle hst.shape hst.ro_le (fun cb hc => hst.kept cb (hi.ro_lt cb hc) fun k => hi.excl cb (hmw' cb k) hc) (hMo b₁ · e)
          (fun g cb base k1 k2 => hst.kept cb (hi.own_lt h k1 k2) (hother b₁ y g cb base e h k1 k2)) (hi.blk b₁ y h)
    · intro b₁ b₂ y y' g g' cb base base' h1 h2 k1 k2 q1 q2
      rcases hb' b₁ y h1 with ⟨e, ey⟩ | ⟨e, h3⟩
      · rcases hb' b₂ y' h2 with ⟨e', ey'⟩ | ⟨e', h4⟩
        · rw [e, e']
        · rw [e, hMb] at q1; rw [hMo _ _ e'] at q2; rw [ey] at k1
          exact (l1 b₂ y' g' cb base' e' h4 k2 q2 g base k1 q1).elim
      · rcases hb' b₂ y' h2 with ⟨e', ey'⟩ | ⟨e', h4⟩
        · rw [e', hMb] at q2; rw [hMo _ _ e] at q1; rw [ey'] at k2
          exact (l1 b₁ y g cb base e h3 k1 q1 g' base' k2 q2).elim
        · rw [hMo _ _ e] at q1; rw [hMo _ _ e'] at q2
          exact hi.inj b₁ b₂ y y' g g' cb base base' h3 h4 k1 k2 q1 q2
    · intro cb hm hr
      rcases hcal cb hm with ⟨b₁, x, g, base, hf, k1, k2, k3⟩ | hm
      · rcases hst.ro_new cb hr with k | k | k
        · exact hi.excl cb ⟨b₁, x, g, base, k1, k2, k3⟩ k
        · exact hother b₁ x g cb base hf k1 k2 k3 k
        · have := hi.own_lt k1 k2 k3; omega
      · exact hi'.inv.excl cb hm hr
    · intro b₁ y g h1 h2 g' loc h3
      rcases hb' b₁ y h1 with ⟨rfl, rfl⟩ | ⟨e, h1⟩
      · rw [hMb] at h3
        exact hi'.inv.gen 0 _ g hlk h2 g' loc h3
      · rw [hMo _ _ e] at h3
        exact hi.gen b₁ y g h1 h2 g' loc h3

theorem OpSem.frozN {P : Program} {o : Oper} {ρ : Operand → AV} {n g N es : Nat} {cs : List AV} {nd : List (Nat × Blk)} (h : OpSem P o ρ n { v := .hs n g 0 N es, need := nd, new := some (.cells g cs) }) (hfit : N * es = cs.length) :
    OpSem P o ρ n { v := .sl .any N cs, need := nd, new := some (.fro g cs) } := by
  intro m ro H w a hi hx hn hnew next Q kk
  refine h m ro H w a hi hx hn (fun x hx => hnew _ rfl) next Q (fun m' ro' w' v' hv hi' hst hne => ?_)
  have hb : app H n { v := .hs n g 0 N es, need := nd, new := some (.cells g cs) } n = some (.cells g cs) := by simp [app]
  have hb2 : app H n { v := .sl .any N cs, need := nd, new := some (.fro g cs) } n = some (.fro g cs) := by simp [app]
  obtain ⟨k1, k2⟩ := hi'.change₀ (m' := m') (ro' := fun cb => ro' cb ∨ Owns m' (app H n { v := .hs n g 0 N es, need := nd, new := some (.cells g cs) }) n cb) (H' := app H n { v := .sl .any N cs, need := nd, new := some (.fro g cs) }) n (.fro g cs)
    (fun _ _ _ h => h) (fun _ _ => .inl rfl) (fun b₁ => by
      simp only [app]
      by_cases e : b₁ = n
      · simp [e]
      · simp [e])
    (fun g cb base h => by simp [Blk.own] at h) (fun g h => by simp [Blk.own] at h) (fun _ h => .inl h) (fun _ h => h)
    (fun keep loc hl => by
      have h := hi'.blk n _ hb loc hl
      cases loc with
      | void => exact h
      | «at» cb base =>
        obtain ⟨c, t, hc, hlay⟩ := h
        refine CsRel_iff.2 ?_
        intro i x hix
        obtain ⟨v, hv, ho, hr⟩ := hlay i x hix
        exact ⟨.inr ⟨_, g, base, hb, rfl, hl⟩, v, by simp only [World.cell?, hc]; simpa using hv, ho, keep x v hr⟩)
  refine kk m' _ w' v' ?_ k1 (hst.trans k2) (fun b₁ g₁ hh => ?_)
  · simp only [VRel] at hv ⊢
    obtain ⟨loc, hm, hh⟩ := hv
    have hbr := k1.blk n _ hb2 loc hm
    cases loc with
    | void =>
      simp only [HsRel] at hh
      obtain ⟨rfl, rfl, _⟩ := hh
      exact .inl ⟨by simp, rfl, rfl, List.length_eq_zero_iff.1 (by omega)⟩
    | «at» cb base =>
      simp only [HsRel] at hh
      obtain ⟨cap, rfl, hle, _⟩ := hh
      exact .inr ⟨by simp, _, cap, rfl, hle, by simp, .inr ⟨rfl, hbr⟩⟩
  · rcases hne b₁ g₁ hh with ⟨y, hy⟩ | ⟨h1, _⟩
    · simp at hy
    · exact .inr ⟨h1, rfl⟩

def frzN (n : Nat) (nx : Eff → Prop) (e : Eff) : Prop := match e.v, e.upd, e.new with
  | .hs b g 0 N es, none, some (.cells g' cs) => guardE (b = n ∧ g = g' ∧ N * es = cs.length) (nx { v := .sl .any N cs, need := e.need, new := some (.fro g cs) })
  | _, _, _ => False
theorem Got.frzN {P : Program} {o : Oper} {ρ : Operand → AV} {H : List Blk} {nx : Eff → Prop} (h : Got P o ρ H (Tab.frzN H.length nx)) : Got P o ρ H nx := by
  obtain ⟨⟨v, nd, up, nw⟩, he, hsem, hn, hu⟩ := h
  unfold Tab.frzN at he
  split at he
  · rename_i b g N es g' cs h1 h2 h3
    simp only at h1 h2 h3
    subst h1 h2 h3
    obtain ⟨⟨rfl, rfl, hfit⟩, he⟩ := guardE_and he
    exact ⟨_, he, hsem.frozN hfit, hn, fun p hp => by simp at hp⟩
  · exact he.elim

def vcOpsF (P : Program) (all : List Oper) : List Oper → Slots → List Blk → Post → Prop
  | [], _, _, _ => False
  | o :: os, s, H, K => vcGuard all o.guard s (fun s => vcOp P o.op (ev s) H (frzN H.length fun e => VOps P all os (updo s o.dst e.v) (appL H e) K)) (fun s => VOps P all os (updo s o.dst (.tup [])) H K)
theorem opsFrz {P : Program} {all l : List Oper} {s : Slots} {H : List Blk} {K : Post} (h : vcOpsF P all l s H K) : VOps P all l s H K := by
  refine opsGot ?_
  cases l with
  | nil => exact h
  | cons o os =>
    simp only [vcOpsF] at h
    exact vcGuard_mono (fun s h => (vcOp_sound h).frzN) h
def vcDrawN (P : Program) (ops : List Oper) : List Oper → Slots → List Blk → List (Nat × Eff) → Post → Prop
  | [], _, _, _, _ => False
  | o :: os, s, H, acc, K => vcGuard ops o.guard s (fun s => vcOp P o.op (ev s) H (frzN H.length fun e => VDraw P ops os (updo s o.dst e.v) (appL H e) ((H.length, e) :: acc) K))
      (fun s => VDraw P ops os (updo s o.dst (.tup [])) H ((H.length, { v := .tup [] }) :: acc) K)
theorem drawFrzN {P : Program} {ops l : List Oper} {s : Slots} {H : List Blk} {acc : List (Nat × Eff)} {K : Post} (h : vcDrawN P ops l s H acc K) : VDraw P ops l s H acc K := by
  refine drawGot ?_
  cases l with
  | nil => exact h
  | cons o os =>
    simp only [vcDrawN] at h
    exact vcGuard_mono (fun s h => (vcOp_sound h).frzN) h
theorem gotCallW {P : Program} {o : Oper} {ρ : Operand → AV} {H : List Blk} {nx : Eff → Prop} {c : Call} {f : Operand} {fid : FuncId} {args : List AV} {v : AV} {blk blk' : Blk} (b : Nat)
    (hp : ACall P fid args [blk] fun o H' => o = .ret v ∧ H' = [blk']) (ho : o.op = .call c) (hc : c.callee = .value f) (hf : ρ f = .fn (.func fid) [] []) (ha : c.args.toList.map ρ = rns (fun _ => b) args) (hb : H[b]? = some blk)
    (ba : bels 1 args) (bb : blk.bel 0) (bb' : blk'.bel 0) (hv : v.closed) (k : nx { v := v, need := [(b, blk)], upd := some (b, blk') }) : Got P o ρ H nx :=
  ⟨_, k, sem_callW ho hc hf hp ha ba bb bb' hv, fun p hp => by
    have : p = (b, blk) := by simpa using hp
    subst this; exact hb, fun p hp => by
    simp only [Option.some.injEq] at hp
    subst hp
    exact ⟨blk, by simp⟩⟩

end Tab

/- What stands ahead of a state, and what behind. -/
namespace Tab
open Go
variable [Globs]
set_option linter.unusedSectionVars false

theorem VCode.upto {P : Program} {nt : Fr} {x y : Code} {s : Slots} {H : List Blk} {K : Post} (s' : Slots) (H' : List Blk) (h1 : VCode P nt x s H (joinK nt s' H' K)) (h2 : VCode P nt y s' H' K) : VCode P nt (.seq x y) s H K := by
  refine ⟨SW.seq (SW.mono h1.out fun e s₁ H₁ h => ?_)⟩
  cases e with
  | normal => exact h2.out.ent h
  | _ => exact h

end Tab
