/- Functions that answer new memory: what they make from an empty heap, they make at the end of any other. -/
import Derived.Test.YthdpblbclgpnjaaEnt
set_option linter.unusedVariables false
set_option linter.unusedSimpArgs false
set_option linter.unusedSectionVars false
namespace Tab
open Go
variable [Globs]

mutual
def AV.sh (k : Nat) : AV → AV
  | .ref b g o => .ref (b + k) g o
  | .hs b g o n es => .hs (b + k) g o n es
  | .mp b => .mp (b + k)
  | .tref cs => .tref (shs k cs)
  | .sl s n cs => .sl s n (shs k cs)
  | .fn f a b => .fn f (shs k a) (shs k b)
  | .ifc t v => .ifc t (v.sh k)
  | .agg cs => .agg (shs k cs)
  | .tup cs => .tup (shs k cs)
  | .bool b => .bool b
  | .int i n => .int i n
  | .str s => .str s
  | .nilp => .nilp
  | .nilm => .nilm
  | .nilf => .nilf
  | .nili => .nili
  | .junk => .junk
def shs (k : Nat) : List AV → List AV
  | [] => []
  | a :: as => a.sh k :: shs k as
end

theorem shs_get {k : Nat} : ∀ {as : List AV} {i : Nat} {a : AV}, (shs k as)[i]? = some a → ∃ x, as[i]? = some x ∧ a = x.sh k
  | [], i, a, h => by simp [shs] at h
  | x :: as, 0, a, h => by simp [shs] at h; exact ⟨x, rfl, h.symm⟩
  | x :: as, i + 1, a, h => by simp only [shs, List.getElem?_cons_succ] at h; exact shs_get (as := as) h

theorem shs_length {k : Nat} : ∀ (as : List AV), (shs k as).length = as.length
  | [] => rfl
  | a :: as => by simp [shs, shs_length as]

theorem shs_map {k : Nat} : ∀ (as : List AV), shs k as = as.map (AV.sh k)
  | [] => rfl
  | a :: as => by simp [shs, shs_map as]

mutual
theorem AV.closed_sh {k : Nat} : ∀ (a : AV), a.closed → a.sh k = a
  | .ref _ _ _, h | .hs _ _ _ _ _, h | .mp _, h => by simp only [AV.closed] at h
  | .tref cs, h | .sl _ _ cs, h | .agg cs, h | .tup cs, h => by simp only [AV.closed, AV.sh] at h ⊢; rw [closeds_sh cs h]
  | .fn _ a b, h => by simp only [AV.closed, AV.sh] at h ⊢; rw [closeds_sh a h.1, closeds_sh b h.2]
  | .ifc _ v, h => by simp only [AV.closed, AV.sh] at h ⊢; rw [AV.closed_sh v h]
  | .bool _, _ | .int _ _, _ | .str _, _ | .nilp, _ | .nilm, _ | .nilf, _ | .nili, _ | .junk, _ => by simp only [AV.sh]
theorem closeds_sh {k : Nat} : ∀ (as : List AV), closeds as → shs k as = as
  | [], _ => rfl
  | a :: as, h => by simp only [closeds, shs] at h ⊢; rw [AV.closed_sh a h.1, closeds_sh as h.2]
end

section
variable {m M : Mp} {ro : Nat → Prop} {w : World} {k : Nat} (hM : ∀ b g, M (b + k) g = m b g)
include hM
mutual
theorem AV.sh_rel : ∀ (a : AV) (v : Value), VRel m ro w a v → VRel M ro w (a.sh k) v
  | .bool _, _, h | .int _ _, _, h | .str _, _, h | .nilp, _, h | .nilm, _, h | .nilf, _, h | .nili, _, h => by simpa only [VRel, AV.sh] using h
  | .junk, _, _ => by simp only [VRel, AV.sh]
  | .ref b g o, v, h => by simp only [VRel, AV.sh] at h ⊢; rw [hM]; exact h
  | .hs b g o n es, v, h => by simp only [VRel, AV.sh] at h ⊢; rw [hM]; exact h
  | .mp b, v, h => by simp only [VRel, AV.sh] at h ⊢; rw [hM]; exact h
  | .tref cs, v, h => by
    simp only [VRel, AV.sh] at h ⊢
    obtain ⟨cb, off, e, h⟩ := h
    exact ⟨cb, off, e, shs_cells cs cb off h⟩
  | .sl s n cs, v, h => by
    simp only [VRel, AV.sh] at h ⊢
    rcases h with ⟨h1, h2, h3, h4⟩ | ⟨hk', ad, cap, e, hle, hf, h⟩
    · exact .inl ⟨h1, h2, h3, by rw [h4]; rfl⟩
    · exact .inr ⟨hk', ad, cap, e, hle, hf, h.imp (fun h => ⟨h.1, by rw [h.2]; rfl⟩) fun h => ⟨h.1, shs_cells cs _ _ h.2⟩⟩
  | .fn f first cap, v, h => by
    simp only [VRel, AV.sh] at h ⊢
    obtain ⟨a, b, e, h1, h2⟩ := h
    exact ⟨a, b, e, shs_rel first _ h1, shs_rel cap _ h2⟩
  | .ifc t x, v, h => by
    simp only [VRel, AV.sh] at h ⊢
    obtain ⟨y, e, h⟩ := h
    exact ⟨y, e, AV.sh_rel x y h⟩
  | .agg cs, v, h => by
    simp only [VRel, AV.sh] at h ⊢
    obtain ⟨a, e, ho, h⟩ := h
    exact ⟨a, e, ho, shs_rel cs _ h⟩
  | .tup cs, v, h => by
    simp only [VRel, AV.sh] at h ⊢
    obtain ⟨a, e, h⟩ := h
    exact ⟨a, e, shs_rel cs _ h⟩
theorem shs_rel : ∀ (as : List AV) (vs : List Value), VsRel m ro w as vs → VsRel M ro w (shs k as) vs
  | [], vs, h => by simpa only [VsRel, shs] using h
  | a :: as, vs, h => by
    simp only [VsRel, shs] at h ⊢
    obtain ⟨v, vs', e, h1, h2⟩ := h
    exact ⟨v, vs', e, AV.sh_rel a v h1, shs_rel as vs' h2⟩
theorem shs_cells : ∀ (cs : List AV) (cb off : Nat), CsRel m ro w cs cb off → CsRel M ro w (shs k cs) cb off
  | [], _, _, _ => by simp only [CsRel, shs]
  | a :: as, cb, off, h => by
    simp only [CsRel, shs] at h ⊢
    obtain ⟨h1, ⟨v, hv, ho, h2⟩, h3⟩ := h
    exact ⟨h1, ⟨v, hv, ho, AV.sh_rel a v h2⟩, shs_cells as cb (off + 1) h3⟩
end
end

def Blk.sh (k : Nat) : Blk → Blk
  | .cells g cs => .cells g (shs k cs)
  | .fro g cs => .fro g (shs k cs)
  | .siter s p => .siter s p
  | .dead => .dead

theorem Blk.sh_own (k : Nat) (x : Blk) : (x.sh k).own = x.own := by cases x <;> rfl

theorem BlkRel.sh {m M : Mp} {ro : Nat → Prop} {w : World} {k b : Nat} (hM : ∀ b g, M (b + k) g = m b g) {x : Blk} (h : BlkRel m ro w b x) : BlkRel M ro w (b + k) (x.sh k) := by
  cases x with
  | cells g cs =>
    intro loc hl
    rw [hM] at hl
    have h := h loc hl
    cases loc with
    | void => simp only at h ⊢; rw [h]; rfl
    | «at» cb base =>
      obtain ⟨c, t, hc, hlay⟩ := h
      refine ⟨c, t, hc, fun i a hia => ?_⟩
      obtain ⟨x, hx, rfl⟩ := shs_get hia
      obtain ⟨v, hv, ho, hr⟩ := hlay i x hx
      exact ⟨v, hv, ho, AV.sh_rel hM x v hr⟩
  | fro g cs =>
    intro loc hl
    rw [hM] at hl
    have h := h loc hl
    cases loc with
    | void => simp only at h ⊢; rw [h]; rfl
    | «at» cb base => exact shs_cells hM cs cb base h
  | siter s p =>
    intro loc hl
    rw [hM] at hl
    exact h loc hl
  | dead => trivial

/-- What a call makes from an empty heap it makes at the end of any other, its blocks counted from there. -/
theorem ACall.shift {P : Program} {f : FuncId} {args : List AV} {R : Out → List Blk → Prop} (hc : closeds args) (h : ACall P f args [] R) (H : List Blk) :
    ACall P f args H fun o H' => ∃ v X, R (.ret v) X ∧ o = .ret (v.sh H.length) ∧ H' = H ++ X.map (Blk.sh H.length) ∨ R .pan X ∧ o = .pan ∧ H' = H ++ X.map (Blk.sh H.length) := by
  refine ⟨h.1, fun m ro w cargs hi hx => ?_⟩
  refine (h.2 m₀ ro w cargs (Inv.empty hi.inv.ro_lt hi.inv.glob.any) (closeds_rel args _ hc hx)).mono ?_
  rintro e w' ⟨m', ro', out, X, hR, hout, hi', hst⟩
  have hk : ∀ cb, cb < w.heap.size → w'.heap[cb]? = w.heap[cb]? := fun cb hlt => hst.kept cb hlt MW.empty
  have hro : ∀ cb, ro' cb → ro cb ∨ w.heap.size ≤ cb := fun cb h => by
    rcases hst.ro_new cb h with h | h | h
    · exact .inl h
    · exact (MW.empty h).elim
    · exact .inr h
  have hnew : ∀ cb, MW m' (lk X) cb → w.heap.size ≤ cb := fun cb h => by
    rcases hst.mw cb h with h | h
    · exact (MW.empty h).elim
    · exact h
  let M : Mp := fun b g => if b < H.length then m b g else m' (b - H.length) g
  have hM : ∀ b g, M (b + H.length) g = m' b g := fun b g => by
    show (if b + H.length < H.length then _ else _) = _
    rw [if_neg (by omega), Nat.add_sub_cancel]
  have hMl : ∀ b g, b < H.length → M b g = m b g := fun b g hb => if_pos hb
  have hmM : ∀ b g loc, m b g = some loc → M b g = some loc := fun b g loc h => by
    rw [hMl b g (hi.bound b g loc h)]; exact h
  have hlk : ∀ b x, lk (H ++ X.map (Blk.sh H.length)) b = some x → (b < H.length ∧ lk H b = some x) ∨ ∃ b' y, b = b' + H.length ∧ lk X b' = some y ∧ x = y.sh H.length := fun b x h => by
    by_cases hb : b < H.length
    · simp only [lk, List.getElem?_append_left hb] at h
      exact .inl ⟨hb, h⟩
    · simp only [lk, List.getElem?_append_right (Nat.le_of_not_lt hb), List.getElem?_map, Option.map_eq_some_iff] at h
      obtain ⟨y, hy, rfl⟩ := h
      exact .inr ⟨b - H.length, y, by omega, hy, rfl⟩
  have hmw : ∀ cb, MW M (lk (H ++ X.map (Blk.sh H.length))) cb → MW m (lk H) cb ∨ MW m' (lk X) cb := by
    rintro cb ⟨b, x, g, base, h1, h2, h3⟩
    rcases hlk b x h1 with ⟨hb, h⟩ | ⟨b', y, rfl, hy, rfl⟩
    · rw [hMl b g hb] at h3
      exact .inl ⟨b, x, g, base, h, h2, h3⟩
    · rw [hM] at h3
      rw [Blk.sh_own] at h2
      exact .inr ⟨b', y, g, base, hy, h2, h3⟩
  have hrel : ∀ a v, VRel m' ro' w' a v → VRel M ro' w' (a.sh H.length) v := AV.sh_rel hM
  have hinv : InvL M ro' (H ++ X.map (Blk.sh H.length)) w' := by
    refine ⟨⟨hi'.inv.ro_lt, ?_, ?_, ?_, ?_, hi'.inv.glob.any⟩, ?_⟩
    · intro b x hx
      rcases hlk b x hx with ⟨hb, h⟩ | ⟨b', y, rfl, hy, rfl⟩
      · exact BlkRel.keep hmM hst.shape hst.ro_le (fun cb h => hk cb (hi.inv.ro_lt cb h)) (fun g => hMl b g hb) (fun g cb base h1 h2 => hk cb (hi.inv.own_lt h h1 h2)) (hi.inv.blk b x h)
      · exact BlkRel.sh hM (hi'.inv.blk b' y hy)
    · intro b b' x x' g g' cb base base' h1 h2 k1 k2 l1 l2
      rcases hlk b x h1 with ⟨hb, h⟩ | ⟨c, y, rfl, hy, rfl⟩ <;> rcases hlk b' x' h2 with ⟨hb', h'⟩ | ⟨c', y', rfl, hy', rfl⟩
      · rw [hMl _ _ hb] at l1; rw [hMl _ _ hb'] at l2
        exact hi.inv.inj b b' x x' g g' cb base base' h h' k1 k2 l1 l2
      · rw [hMl _ _ hb] at l1; rw [hM] at l2; rw [Blk.sh_own] at k2
        have := hi.inv.own_lt h k1 l1
        have := hnew cb ⟨c', y', g', base', hy', k2, l2⟩
        omega
      · rw [hMl _ _ hb'] at l2; rw [hM] at l1; rw [Blk.sh_own] at k1
        have := hi.inv.own_lt h' k2 l2
        have := hnew cb ⟨c, y, g, base, hy, k1, l1⟩
        omega
      · rw [hM] at l1 l2; rw [Blk.sh_own] at k1 k2
        rw [hi'.inv.inj c c' y y' g g' cb base base' hy hy' k1 k2 l1 l2]
    · intro cb hm hr
      rcases hmw cb hm with h | h
      · rcases hro cb hr with h' | h'
        · exact hi.inv.excl cb h h'
        · have := hi.inv.mw_lt h; omega
      · exact hi'.inv.excl cb h hr
    · intro b x g h1 h2 g' loc h3
      rcases hlk b x h1 with ⟨hb, h⟩ | ⟨c, y, rfl, hy, rfl⟩
      · rw [hMl _ _ hb] at h3
        exact hi.inv.gen b x g h h2 g' loc h3
      · rw [hM] at h3; rw [Blk.sh_own] at h2
        exact hi'.inv.gen c y g hy h2 g' loc h3
    · intro b g loc h
      rw [List.length_append, List.length_map]
      by_cases hb : b < H.length
      · omega
      · have h : m' (b - H.length) g = some loc := by
          have : M b g = m' (b - H.length) g := if_neg hb
          rw [← this]; exact h
        have := hi'.bound _ _ _ h
        omega
  have hstep : Step m ro (lk H) w M ro' (lk (H ++ X.map (Blk.sh H.length))) w' :=
    ⟨hmM, hst.size, hst.os, hst.out, hst.tape, fun cb hlt _ => hk cb hlt, hst.shape, fun cb h => (hmw cb h).imp id (hnew cb), hst.ro_le, fun cb h => (hro cb h).imp id .inr⟩
  cases out with
  | ret v =>
    cases e with
    | returned u => exact ⟨M, ro', .ret (v.sh H.length), _, ⟨v, X, .inl ⟨hR, rfl, rfl⟩⟩, hrel v u hout, hinv, hstep⟩
    | panicked _ => exact hout.elim
    | outgrown => exact hout.elim
  | pan => exact ⟨M, ro', .pan, _, ⟨.junk, X, .inr ⟨hR, rfl, rfl⟩⟩, (by cases e <;> exact hout), hinv, hstep⟩

/-! ### A function's contract, from any heap -/

structure RetE (P : Program) (nt : Fr) (rs : List ResultVar) (R : Out → List Blk → Prop) (s : Slots) (H : List Blk) : Prop where
  out : ∃ s' H' v, Ent nt s H s' H' ∧ resA P rs s' H' = some v ∧ R (.ret v) H'
def retK (P : Program) (nt : Fr) (rs : List ResultVar) (R : Out → List Blk → Prop) : Post := fun e s H => match e with
  | .ret => RetE P nt rs R s H
  | .normal => RetE P nt rs R s H
  | .pan => ∃ s' H', Ent nt s H s' H' ∧ R .pan H'
  | _ => False

theorem ACall.of_sw {P : Program} {f : FuncId} {fn : Func} {code : Code} {args : List AV} {H₀ : List Blk} {R : Out → List Blk → Prop} (nt : Nat) (hf : P.funcs[f]? = some fn) (hb : fn.body = some code) (hn : fn.ntmps = nt) (hc : callable P f = true)
    (hargs : args.length ≤ nt) (h : SW P ⟨nt, H₀.length⟩ code (argS args) H₀ (retK P ⟨nt, H₀.length⟩ fn.results.toList R)) : ACall P f args H₀ R := by
  refine ⟨hc, fun m ro w cargs hi hx => ?_⟩
  subst hn
  refine calls_of_wp hf hb (wp_mono (h ⟨⟨m, ro, H₀, w⟩, fun b g loc hm => hi.bound b g loc hm⟩ { tmps := cargs ++ Array.replicate (fn.ntmps - cargs.size) undef, defers := [] } w ⟨m, ro, hi, Step.refl .., argS_rel hx _, ?_, rfl⟩) ?_)
  · have := hx.length
    simp only [Array.length_toList] at this
    simp only [Array.size_append, Array.size_replicate]
    omega
  · rintro e a w' ⟨ae, s, H, he, hr, hk⟩
    have fin : (∃ s' H' v, Ent ⟨fn.ntmps, H₀.length⟩ s H s' H' ∧ resA P fn.results.toList s' H' = some v ∧ R (.ret v) H') → a.defers = [] ∧ ∃ u, (results fn a.tmps).run P w' = .ok u w' ∧ ∃ m' ro' out H', R out H' ∧ OutRel m' ro' w' out (.returned u) ∧ InvL m' ro' H' w' ∧ Step m ro (lk H₀) w m' ro' (lk H') w' := by
      rintro ⟨s', H', v, hent, hres, hR⟩
      obtain ⟨m', ro', hi', hst, hsl, hsz, hd⟩ := hent ⟨⟨m, ro, H₀, w⟩, fun b g loc hm => hi.bound b g loc hm⟩ _ _ hr
      obtain ⟨u, hu, hv⟩ := resA_run hi' hsl hres
      exact ⟨hd, u, hu, m', ro', .ret v, H', hR, hv, hi', hst⟩
    cases ae <;> cases e <;> simp only [ExitRel] at he <;> first
      | exact hk.elim
      | exact fin hk.out
      | skip
    obtain ⟨s', H', hent, hR⟩ := hk
    obtain ⟨m', ro', hi', hst, hsl, hsz, hd⟩ := hent ⟨⟨m, ro, H₀, w⟩, fun b g loc hm => hi.bound b g loc hm⟩ _ _ hr
    refine ⟨hd, m', ro', .pan, H', hR, ?_, hi', hst⟩
    exact he

/-- What is new memory may be given away. -/
theorem Pure.of_acall {P : Program} {f : FuncId} {args : List AV} {R : Out → List Blk → Prop} {v : AV} (ca : closeds args) (cv : v.closed) (h : ACall P f args [] R)
    (hR : ∀ o H', R o H' → ∃ u, o = .ret u ∧ Ent ⟨1, 0⟩ (fr [(0, u)]) H' (fr [(0, v)]) []) : Pure P f args v := by
  refine ⟨ca, cv, h.1, fun m ro w cargs hi hx => ?_⟩
  refine (h.2 m ro w cargs hi hx).mono ?_
  rintro e w' ⟨m', ro', out, H', hRo, hout, hi', hst⟩
  obtain ⟨u, rfl, hent⟩ := hR out H' hRo
  cases e with
  | returned x =>
    obtain ⟨m₂, ro₂, hi₂, hst₂, hsl, _, _⟩ := hent ⟨⟨m, ro, [], w⟩, fun b g loc hm => by have := hi.bound b g loc hm; simp at this⟩ { tmps := #[x], defers := [] } w'
      ⟨m', ro', hi', hst, fun t => by
        cases t with
        | zero => exact hout
        | succ t => simp only [fr, upd, Nat.beq, cond_false, VRel], rfl, rfl⟩
    exact ⟨m₂, ro₂, .ret v, [], ⟨rfl, rfl⟩, hsl 0, hi₂, hst₂⟩
  | panicked _ => exact hout.elim
  | outgrown => exact hout.elim

/-- What is new memory may be read and given away. -/
theorem Pure.of_read {P : Program} {f : FuncId} {args : List AV} {R : Out → List Blk → Prop} {v : AV} (ca : closeds args) (cv : v.closed) (h : ACall P f args [] R)
    (hR : ∀ o H', R o H' → ∃ u, o = .ret u ∧ Rd H' u v) : Pure P f args v := by
  refine Pure.of_acall ca cv h fun o H' hr => ?_
  obtain ⟨u, rfl, hu⟩ := hR o H' hr
  exact ⟨u, rfl, Ent.give rfl 0 cv hu⟩

/-- A call from an empty heap, made from another. -/
theorem callS {P : Program} {f : FuncId} {args : List AV} {H : List Blk} {R Y : Out → List Blk → Prop} (hc : closeds args) (h : ACall P f args [] R) (hp : ∀ X, ¬ R .pan X)
    (k : ∀ v X, R (.ret v) X → Y (.ret (v.sh H.length)) (H ++ X.map (Blk.sh H.length))) : ∃ R : Out → List Blk → Prop, ACall P f args H R ∧ ∀ o H', R o H' → Y o H' :=
  ⟨_, h.shift hc H, by
    rintro o H' ⟨v, X, ⟨h1, rfl, rfl⟩ | ⟨h1, _⟩⟩
    · exact k v X h1
    · exact (hp X h1).elim⟩

/-! ### One new slice -/

/-- A function that answers a slice in new memory, and makes nothing else. -/
structure PureNew (P : Program) (f : FuncId) (args : List AV) (N es : Nat) (cs : List AV) : Prop where
  cargs : closeds args
  ccs : closeds cs
  call : ACall P f args [] fun o H' => ∃ g, o = .ret (.hs 0 g 0 N es) ∧ H' = [.cells g cs]

theorem new_core {m ro w m' ro' w' n g N es} {H : Hp} {cs : List AV} {v : Value} (hi : Inv m ro H w) (hn : H n = none) (hnm : ∀ g, m n g = none) (cc : closeds cs) (hi' : InvL m' ro' [.cells g cs] w') (hst : Step m₀ ro (lk []) w m' ro' (lk [.cells g cs]) w')
    (hv : VRel m' ro' w' (.hs 0 g 0 N es) v) : ∃ M, VRel M ro' w' (.hs n 0 0 N es) v ∧ Inv M ro' (fun b => if b = n then some (.cells 0 cs) else H b) w' ∧
      Step m ro H w M ro' (fun b => if b = n then some (.cells 0 cs) else H b) w' ∧ ∀ b g, M b g ≠ m b g → b = n := by
  have hk : ∀ cb, cb < w.heap.size → w'.heap[cb]? = w.heap[cb]? := fun cb hlt => hst.kept cb hlt MW.empty
  have hro : ∀ cb, ro' cb → ro cb ∨ w.heap.size ≤ cb := fun cb h => by
    rcases hst.ro_new cb h with h | h | h
    · exact .inl h
    · exact (MW.empty h).elim
    · exact .inr h
  have hnew : ∀ cb, MW m' (lk [.cells g cs]) cb → w.heap.size ≤ cb := fun cb h => by
    rcases hst.mw cb h with h | h
    · exact (MW.empty h).elim
    · exact h
  let M : Mp := fun b g₁ => if b = n then (if g₁ = 0 then m' 0 g else none) else m b g₁
  have hMn : M n 0 = m' 0 g := by show (if n = n then _ else _) = _; simp
  have hMo : ∀ b g₁, b ≠ n → M b g₁ = m b g₁ := fun b g₁ h => if_neg h
  have hMs : ∀ g₁ loc, M n g₁ = some loc → g₁ = 0 ∧ m' 0 g = some loc := fun g₁ loc h => by
    have h : (if n = n then (if g₁ = 0 then m' 0 g else none) else m n g₁) = some loc := h
    simp only [if_true] at h
    split at h
    · rename_i e; exact ⟨e, h⟩
    · simp at h
  have hmM : ∀ b g₁ loc, m b g₁ = some loc → M b g₁ = some loc := fun b g₁ loc h => by
    by_cases e : b = n
    · subst e; rw [hnm] at h; simp at h
    · rw [hMo b g₁ e]; exact h
  have hmw : ∀ cb, MW M (fun b => if b = n then some (.cells 0 cs) else H b) cb → MW m H cb ∨ MW m' (lk [.cells g cs]) cb := by
    rintro cb ⟨b, x, g₁, base, h1, h2, h3⟩
    by_cases e : b = n
    · subst e
      obtain ⟨_, h3⟩ := hMs _ _ h3
      exact .inr ⟨0, .cells g cs, g, base, rfl, rfl, h3⟩
    · simp only [if_neg e] at h1
      rw [hMo b g₁ e] at h3
      exact .inl ⟨b, x, g₁, base, h1, h2, h3⟩
  refine ⟨M, ?_, ⟨hi'.inv.ro_lt, ?_, ?_, ?_, ?_, hi'.inv.glob.any⟩, ⟨hmM, hst.size, hst.os, hst.out, hst.tape, fun cb hlt _ => hk cb hlt, hst.shape, fun cb h => (hmw cb h).imp id (hnew cb), hst.ro_le, fun cb h => (hro cb h).imp id .inr⟩, fun b g₁ h => ?_⟩
  · simp only [VRel] at hv ⊢
    rw [hMn]
    exact hv
  · intro b x hx
    by_cases e : b = n
    · subst e
      simp only [if_true, Option.some.injEq] at hx
      subst hx
      intro loc hl
      obtain ⟨_, hl⟩ := hMs _ _ hl
      have h := hi'.inv.blk 0 (.cells g cs) rfl loc hl
      cases loc with
      | void => exact h
      | «at» cb base =>
        obtain ⟨c, t, hc, hlay⟩ := h
        refine ⟨c, t, hc, fun i a hia => ?_⟩
        obtain ⟨v, hv, ho, hr⟩ := hlay i a hia
        exact ⟨v, hv, ho, AV.closed_rel a v (closeds_iff.1 cc a (List.mem_of_getElem? hia)) hr⟩
    · simp only [if_neg e] at hx
      exact BlkRel.keep hmM hst.shape hst.ro_le (fun cb h => hk cb (hi.ro_lt cb h)) (fun g => hMo b g e) (fun g cb base h1 h2 => hk cb (hi.own_lt hx h1 h2)) (hi.blk b x hx)
  · intro b b' x x' g₁ g₂ cb base base' h1 h2 k1 k2 l1 l2
    by_cases e : b = n <;> by_cases e' : b' = n
    · rw [e, e']
    · subst e
      simp only [if_neg e'] at h2
      rw [hMo _ _ e'] at l2
      have := hi.own_lt h2 k2 l2
      have := hnew cb ⟨0, .cells g cs, g, base, rfl, rfl, (hMs _ _ l1).2⟩
      omega
    · subst e'
      simp only [if_neg e] at h1
      rw [hMo _ _ e] at l1
      have := hi.own_lt h1 k1 l1
      have := hnew cb ⟨0, .cells g cs, g, base', rfl, rfl, (hMs _ _ l2).2⟩
      omega
    · simp only [if_neg e, if_neg e'] at h1 h2
      rw [hMo _ _ e] at l1
      rw [hMo _ _ e'] at l2
      exact hi.inj b b' x x' g₁ g₂ cb base base' h1 h2 k1 k2 l1 l2
  · intro cb hm hr
    rcases hmw cb hm with h | h
    · rcases hro cb hr with h' | h'
      · exact hi.excl cb h h'
      · have := hi.mw_lt h; omega
    · exact hi'.inv.excl cb h hr
  · intro b x g₁ h1 h2 g₂ loc h3
    by_cases e : b = n
    · subst e
      have := (hMs _ _ h3).1
      omega
    · simp only [if_neg e] at h1
      rw [hMo _ _ e] at h3
      exact hi.gen b x g₁ h1 h2 g₂ loc h3
  · by_cases e : b = n
    · exact e
    · exact absurd (hMo b g₁ e) h

theorem lk_app {H : List Blk} {x : Blk} : lk (H ++ [x]) = fun b => if b = H.length then some x else lk H b := funext lk_push

theorem PureNew.acall {P f args N es cs} (h : PureNew P f args N es cs) (H : List Blk) : ACall P f args H fun o H' => o = .ret (.hs H.length 0 0 N es) ∧ H' = H ++ [.cells 0 cs] := by
  refine ⟨h.call.1, fun m ro w cargs hi hx => ?_⟩
  refine (h.call.2 m₀ ro w cargs (Inv.empty hi.inv.ro_lt hi.inv.glob.any) (closeds_rel args _ h.cargs hx)).mono ?_
  rintro e w' ⟨m', ro', out, X, ⟨g, rfl, rfl⟩, hout, hi', hst⟩
  cases e with
  | returned u =>
    obtain ⟨M, h1, h2, h3, h4⟩ := new_core (n := H.length) hi.inv (by simp [lk]) (fun g => by
      cases h : m H.length g with
      | none => rfl
      | some l => exact absurd (hi.bound _ _ _ h) (Nat.lt_irrefl _)) h.ccs hi' hst hout
    rw [← lk_app] at h2 h3
    refine ⟨M, ro', _, _, ⟨rfl, rfl⟩, h1, ⟨h2, fun b g₁ loc hb => ?_⟩, h3⟩
    rw [List.length_append, List.length_singleton]
    by_cases e : M b g₁ = m b g₁
    · rw [e] at hb; have := hi.bound _ _ _ hb; omega
    · have := h4 b g₁ e; omega
  | panicked _ => exact hout.elim
  | outgrown => exact hout.elim

/-- The same function, its answer given away. -/
theorem PureNew.pure {P f args N es cs} (h : PureNew P f args N es cs) (hfit : N * es = cs.length) : Pure P f args (.sl .any N cs) := by
  refine Pure.of_acall h.cargs (by simpa only [AV.closed] using h.ccs) h.call ?_
  rintro o H' ⟨g, rfl, rfl⟩
  refine ⟨_, rfl, ?_⟩
  have h1 := Ent.freeze (nt := ⟨1, 0⟩) (s := fr [(0, .hs 0 g 0 N es)]) (H := [.cells g cs]) 0 rfl rfl hfit
  refine h1.trans ?_
  have h2 : Ent ⟨1, 0⟩ (upd (fr [(0, .hs 0 g 0 N es)]) 0 (.sl .any N cs)) ([Blk.cells g cs].set 0 (.fro g cs)) (fr [(0, .sl .any N cs)]) ([] ++ [.fro g cs]) := Ent.fr' ⟨rfl, trivial⟩ rfl
  exact h2.trans (Ent.drop (H := []) (X := [.fro g cs]) (Nat.zero_le _) ⟨AV.closed_bel _ (by simpa only [AV.closed] using h.ccs), trivial⟩ trivial)

theorem callN {P : Program} {f : FuncId} {args : List AV} {N es : Nat} {cs : List AV} {H : List Blk} {X : Out → List Blk → Prop} (h : PureNew P f args N es cs) (k : X (.ret (.hs H.length 0 0 N es)) (H ++ [.cells 0 cs])) :
    ∃ R : Out → List Blk → Prop, ACall P f args H R ∧ ∀ o H', R o H' → X o H' := ⟨_, h.acall H, by rintro _ _ ⟨rfl, rfl⟩; exact k⟩

end Tab
