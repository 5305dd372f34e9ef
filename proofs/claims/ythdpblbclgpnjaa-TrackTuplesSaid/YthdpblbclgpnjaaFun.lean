/- Code as a whole, functions: contracts out of verification conditions. -/
import Derived.Test.YthdpblbclgpnjaaCode
import Derived.Scope
set_option linter.unusedVariables false
set_option linter.unusedSimpArgs false
set_option linter.unusedSectionVars false
namespace Tab
open Go
variable [Globs]

def loopE (nt : Fr) (body : Slots → List Blk → Post → Prop) (s : Slots) (H : List Blk) (K : Post) : Prop :=
  ∃ (ι : Type) (st : ι → Slots × List Blk) (μ : ι → Nat) (i₀ : ι), Ent nt s H (st i₀).1 (st i₀).2 ∧ ∀ i, body (st i).1 (st i).2 (loopK nt st μ i K)

theorem loopE_of {nt : Fr} {body : Slots → List Blk → Post → Prop} {s : Slots} {H : List Blk} {K : Post} {ι : Type} (st : ι → Slots × List Blk) (μ : ι → Nat) (i₀ : ι)
    (h0 : Ent nt s H (st i₀).1 (st i₀).2) (h : ∀ i, body (st i).1 (st i).2 (loopK nt st μ i K)) : loopE nt body s H K := ⟨ι, st, μ, i₀, h0, h⟩

def scopeK (K : Post) : Post := fun e s H => match e with | .goto _ => False | e => K e s H

theorem SW.scope {P nt x s H} {K : Post} (h : SW P nt x s H (scopeK K)) : SW P nt (.scope x) s H K := by
  intro c a w hs
  refine wp_scope_straight (wp_mono (h c a w hs) ?_)
  rintro e a w ⟨ae, s, H, he, hr, hk⟩
  cases ae <;> cases e <;> simp only [ExitRel] at he <;> first
    | exact hk.elim
    | exact ⟨_, s, H, by first | exact trivial | exact he, hr, hk⟩

/-! ### One step at a time -/

/-- The condition of code, shut: it is opened one form at a time. -/
structure VCode (P : Program) (nt : Fr) (c : Code) (s : Slots) (H : List Blk) (K : Post) : Prop where
  out : SW P nt c s H K

/-- Code, its outermost form opened. -/
def vcCode1 (P : Program) (nt : Fr) : Code → Slots → List Blk → Post → Prop
  | .skip, s, H, K => K .normal s H
  | .label _, s, H, K => K .normal s H
  | .ret, s, H, K => K .ret s H
  | .exit id, s, H, K => K (.exit id) s H
  | .goto l, s, H, K => K (.goto l) s H
  | .region _ ops false, s, H, K => guardE (dstOk nt.nt ops.toList = true) (VOps P ops.toList ops.toList s H K)
  | .region id ops true, s, H, K => SW P nt (.region id ops true) s H K
  | .seq x y, s, H, K => VCode P nt x s H (seqK (fun s H => VCode P nt y s H K) K)
  | .cond c x y, s, H, K => match ev s c with | .bool b => decB b (VCode P nt x s H K) (VCode P nt y s H K) | _ => False
  | .block id x, s, H, K => VCode P nt x s H (blockK id K)
  | .loop x, s, H, K => loopE nt (fun s H K => VCode P nt x s H K) s H K
  | .scope x, s, H, K => VCode P nt x s H (scopeK K)
  | _, _, _, _ => False

theorem vcode_eq (P : Program) (nt : Fr) : VCode P nt = SW P nt := by
  funext c s H K
  exact propext ⟨fun h => h.out, fun h => ⟨h⟩⟩

theorem codeStep {P : Program} {nt : Fr} {c : Code} {s : Slots} {H : List Blk} {K : Post} (h : vcCode1 P nt c s H K) : VCode P nt c s H K := by
  refine ⟨?_⟩
  cases c with
  | skip => exact SW.skip h
  | label => exact SW.label h
  | ret => exact SW.ret h
  | exit => exact SW.exit h
  | goto => exact SW.goto h
  | region id ops d =>
    cases d
    · simp only [vcCode1] at h
      obtain ⟨h1, h2⟩ := guardE_and h
      exact SW.region h1 h2.out
    · exact h
  | seq x y =>
    simp only [vcCode1, vcode_eq] at h
    exact SW.seq h
  | cond c x y =>
    simp only [vcCode1] at h
    split at h
    · rename_i b hb
      rcases decB_or h with ⟨rfl, h⟩ | ⟨rfl, h⟩
      · exact SW.cond hb (fun _ => h.out) (fun e => by simp at e)
      · exact SW.cond hb (fun e => by simp at e) (fun _ => h.out)
    · exact h.elim
  | block id x => exact SW.block h.out
  | loop x =>
    obtain ⟨ι, st, μ, i₀, h0, h⟩ := h
    exact SW.loop st μ i₀ h0 fun i => (h i).out
  | scope x => exact SW.scope h.out
  | rangeFunc => exact h.elim
  | refuse => exact h.elim

theorem SW.of_vc {P : Program} {nt : Fr} {c : Code} {s : Slots} {H : List Blk} {K : Post} (h : VCode P nt c s H K) : SW P nt c s H K := h.out

/-- Before code: a state that says less. -/
theorem VCode.ent {P : Program} {nt : Fr} {c : Code} {s : Slots} {H : List Blk} {s' : Slots} {H' : List Blk} {K : Post} (e : Ent nt s H s' H') (h : VCode P nt c s' H' K) : VCode P nt c s H K := ⟨h.out.ent e⟩

/-! ### Values without addresses of the abstract heap -/

mutual
def AV.closed : AV → Prop
  | .bool _ | .int _ _ | .str _ | .nilp | .nilm | .nilf | .nili | .junk => True
  | .ref _ _ _ | .hs _ _ _ _ _ | .mp _ => False
  | .tref cs => closeds cs
  | .sl _ _ cs => closeds cs
  | .fn _ a b => closeds a ∧ closeds b
  | .ifc _ v => v.closed
  | .agg cs => closeds cs
  | .tup cs => closeds cs
def closeds : List AV → Prop
  | [] => True
  | a :: as => a.closed ∧ closeds as
end

theorem closeds_iff : ∀ {as : List AV}, closeds as ↔ ∀ a ∈ as, a.closed
  | [] => by simp [closeds]
  | a :: as => by simp [closeds, closeds_iff (as := as)]

mutual
theorem AV.closed_rel {m m' : Mp} {ro : Nat → Prop} {w : World} : ∀ (a : AV) (v : Value), a.closed → VRel m ro w a v → VRel m' ro w a v
  | .bool _, _, _, h | .int _ _, _, _, h | .str _, _, _, h | .nilp, _, _, h | .nilm, _, _, h | .nilf, _, _, h | .nili, _, _, h => by simpa only [VRel] using h
  | .junk, _, _, _ => by simp only [VRel]
  | .ref _ _ _, _, c, _ | .hs _ _ _ _ _, _, c, _ | .mp _, _, c, _ => by simp only [AV.closed] at c
  | .tref cs, v, c, h => by
    simp only [VRel, AV.closed] at h c ⊢
    obtain ⟨cb, off, e, h⟩ := h
    exact ⟨cb, off, e, closeds_cells cs cb off c h⟩
  | .sl k n cs, v, c, h => by
    simp only [VRel, AV.closed] at h c ⊢
    rcases h with h | ⟨hk', ad, cap, e, hle, hf, h⟩
    · exact .inl h
    · exact .inr ⟨hk', ad, cap, e, hle, hf, h.imp id fun h => ⟨h.1, closeds_cells cs _ _ c h.2⟩⟩
  | .fn f first cap, v, c, h => by
    simp only [VRel, AV.closed] at h c ⊢
    obtain ⟨a, b, e, h1, h2⟩ := h
    exact ⟨a, b, e, closeds_rel first _ c.1 h1, closeds_rel cap _ c.2 h2⟩
  | .ifc t x, v, c, h => by
    simp only [VRel, AV.closed] at h c ⊢
    obtain ⟨y, e, h⟩ := h
    exact ⟨y, e, AV.closed_rel x y c h⟩
  | .agg cs, v, c, h => by
    simp only [VRel, AV.closed] at h c ⊢
    obtain ⟨a, e, ho, h⟩ := h
    exact ⟨a, e, ho, closeds_rel cs _ c h⟩
  | .tup cs, v, c, h => by
    simp only [VRel, AV.closed] at h c ⊢
    obtain ⟨a, e, h⟩ := h
    exact ⟨a, e, closeds_rel cs _ c h⟩
theorem closeds_rel {m m' : Mp} {ro : Nat → Prop} {w : World} : ∀ (as : List AV) (vs : List Value), closeds as → VsRel m ro w as vs → VsRel m' ro w as vs
  | [], vs, _, h => by simpa only [VsRel] using h
  | a :: as, vs, c, h => by
    simp only [VsRel, closeds] at h c ⊢
    obtain ⟨v, vs', e, h1, h2⟩ := h
    exact ⟨v, vs', e, AV.closed_rel a v c.1 h1, closeds_rel as vs' c.2 h2⟩
theorem closeds_cells {m m' : Mp} {ro : Nat → Prop} {w : World} : ∀ (cs : List AV) (cb off : Nat), closeds cs → CsRel m ro w cs cb off → CsRel m' ro w cs cb off
  | [], _, _, _, _ => by simp only [CsRel]
  | a :: as, cb, off, c, h => by
    simp only [CsRel, closeds] at h c ⊢
    obtain ⟨h1, ⟨v, hv, ho, h2⟩, h3⟩ := h
    exact ⟨h1, ⟨v, hv, ho, AV.closed_rel a v c.1 h2⟩, closeds_cells as cb (off + 1) c.2 h3⟩
end

/-! ### Functions -/

/-- A pure function: from closed arguments a closed value, and nothing else. -/
structure Pure (P : Program) (f : FuncId) (args : List AV) (v : AV) : Prop where
  cargs : closeds args
  cval : v.closed
  call : ACall P f args [] fun o H' => o = .ret v ∧ H' = []

def m₀ : Mp := fun _ _ => none

theorem Inv.empty {ro : Nat → Prop} {w : World} (h : ∀ cb, ro cb → cb < w.heap.size) (hg : GRel m₀ ro w) : InvL m₀ ro [] w :=
  ⟨⟨h, fun b x hx => by simp [lk] at hx, fun b b' x x' g g' cb base base' h1 => by simp [lk] at h1, fun cb hm => by obtain ⟨b, x, g, base, h1, _⟩ := hm; simp [lk] at h1, fun b x g h1 => by simp [lk] at h1, hg⟩, fun b g loc h => by simp [m₀] at h⟩

theorem MW.empty {m : Mp} {cb : Nat} : ¬ MW m (lk []) cb := by
  rintro ⟨b, x, g, base, h1, _⟩
  simp [lk] at h1

theorem Pure.acall {P f args v} (h : Pure P f args v) (H : List Blk) : ACall P f args H fun o H' => o = .ret v ∧ H' = H := by
  refine ⟨h.call.1, fun m ro w cargs hi hx => ?_⟩
  refine (h.call.2 m₀ ro w cargs (Inv.empty hi.inv.ro_lt hi.inv.glob.any) (closeds_rel args _ h.cargs hx)).mono ?_
  rintro e w' ⟨m', ro', out, H', ⟨rfl, rfl⟩, hout, hi', hst⟩
  have hk : ∀ cb, cb < w.heap.size → w'.heap[cb]? = w.heap[cb]? := fun cb hlt => hst.kept cb hlt MW.empty
  have hro : ∀ cb, ro' cb → ro cb ∨ w.heap.size ≤ cb := fun cb h => by
    rcases hst.ro_new cb h with h | h | h
    · exact .inl h
    · exact (MW.empty h).elim
    · exact .inr h
  have hst' : Step m ro (lk H) w m ro' (lk H) w' :=
    ⟨fun _ _ _ h => h, hst.size, hst.os, hst.out, hst.tape, fun cb hlt _ => hk cb hlt, hst.shape, fun _ h => .inl h, hst.ro_le, fun cb h => by
      rcases hro cb h with h | h
      · exact .inl h
      · exact .inr (.inr h)⟩
  refine ⟨m, ro', .ret v, H, ⟨rfl, rfl⟩, ?_, ⟨⟨hi'.inv.ro_lt, ?_, hi.inv.inj, ?_, hi.inv.gen, fun g => VRel.keep (fun _ _ _ h => h) hst.shape hst.ro_le (fun cb h => hk cb (hi.inv.ro_lt cb h)) _ _ (hi.inv.glob g)⟩, hi.bound⟩, hst'⟩
  · cases e with
    | returned u => exact AV.closed_rel v u h.cval hout
    | panicked _ => exact hout.elim
    | outgrown => exact hout.elim
  · intro b x hx
    refine BlkRel.keep (fun _ _ _ h => h) hst.shape hst.ro_le (fun cb h => hk cb (hi.inv.ro_lt cb h)) (fun _ => rfl) (fun g cb base h1 h2 => hk cb (hi.inv.own_lt hx h1 h2)) (hi.inv.blk b x hx)
  · intro cb hm hr
    rcases hro cb hr with h | h
    · exact hi.inv.excl cb hm h
    · have := hi.inv.mw_lt hm; omega

/-- The slots in which a function begins. -/
def argS (args : List AV) : Slots := fun t => (args[t]?).getD .junk

theorem argS_rel {m ro w} {args : List AV} {cargs : Array Value} (h : VsRel m ro w args cargs.toList) (nt : Nat) :
    SlotsRel m ro w (argS args) { tmps := cargs ++ Array.replicate (nt - cargs.size) undef, defers := [] } := by
  intro t
  unfold argS
  cases ha : args[t]? with
  | none => simp only [Option.getD_none, VRel]
  | some a =>
    obtain ⟨v, hv, hr⟩ := h.get ha
    have hlt : t < cargs.size := by
      have := (List.getElem?_eq_some_iff.1 hv).1
      simpa using this
    have : (cargs ++ Array.replicate (nt - cargs.size) undef).getD t undef = v := by
      rw [Array.getD_eq_getD_getElem?, Array.getElem?_append_left hlt]
      have : cargs[t]? = some v := by simpa using hv
      rw [this]
      rfl
    simp only [Option.getD_some]
    rw [this]
    exact hr

/-- What a function's results read as. -/
def resOne (P : Program) (s : Slots) (H : List Blk) : ResultVar → Option AV
  | .tmp t => some (s t)
  | .cell x t => match s x with
    | .ref b g i => match H[b]? with
      | some blk => match blk.rd with
        | some (g', cs) => bif Nat.beq g' g then (match tyLd P t with
          | some none => cs[i]?
          | some (some n) => bif Nat.ble (i + n) cs.length then some (.agg ((cs.drop i).take n)) else none
          | none => none) else none
        | none => none
      | none => none
    | _ => none

def resAll (P : Program) (s : Slots) (H : List Blk) : List ResultVar → Option (List AV)
  | [] => some []
  | r :: rs => match resOne P s H r, resAll P s H rs with
    | some a, some as => some (a :: as)
    | _, _ => none

def resA (P : Program) (rs : List ResultVar) (s : Slots) (H : List Blk) : Option AV :=
  match resAll P s H rs with
  | some [a] => some a
  | some as => some (.tup as)
  | none => none

/-- How a result is read. -/
def resSem (tmps : Array Value) : ResultVar → Sem Value
  | .tmp t => (Pure.pure (tmps.getD t undef) : Sem Value)
  | .cell x t => do loadVar t (← asAddr (tmps.getD x undef))

theorem results_eq (fn : Func) (tmps : Array Value) : results fn tmps = (do let vs ← fn.results.mapM (resSem tmps); pure (if h : vs.size = 1 then vs[0] else .tuple vs)) := by
  unfold results
  congr 1

theorem resOne_run {P : Program} {m ro w} {s : Slots} {H : List Blk} {a : Act} (hi : InvL m ro H w) (hsl : SlotsRel m ro w s a) {r : ResultVar} {v : AV} (h : resOne P s H r = some v) :
    ∃ u, (resSem a.tmps r).run P w = .ok u w ∧ VRel m ro w v u := by
  cases r with
  | tmp t =>
    simp only [resOne, Option.some.injEq] at h
    subst h
    exact ⟨_, rfl, hsl t⟩
  | cell x t =>
    simp only [resOne] at h
    split at h
    · rename_i b g i hx
      have hp := hsl x
      rw [hx] at hp
      simp only [VRel] at hp
      obtain ⟨cb, base, hm, hp⟩ := hp
      split at h
      · rename_i blk hb
        split at h
        · rename_i g' cs hrd
          rw [Bool.cond_eq_ite] at h
          split at h
          · rename_i hg
            have hg := Nat.eq_of_beq_eq_true hg
            subst hg
            split at h
            · rename_i hld
              obtain ⟨vs, h1, h2, h3⟩ := hi.inv.cellsAt (show lk H b = some blk from hb) hrd hm i 1
              obtain ⟨u, hu, hr⟩ := h1.get (i := 0) (a := v) (by simpa using h)
              refine ⟨u, ?_, hr⟩
              simp [resSem, hp, asAddr, tyLd_one hld (by simpa using h3 0 u hu)]
            · rename_i n hld
              rw [Bool.cond_eq_ite] at h
              split at h
              · rename_i hle
                simp only [Option.some.injEq] at h
                subst h
                have hle := Nat.le_of_ble_eq_true hle
                obtain ⟨vs, h1, h2, h3⟩ := hi.inv.cellsAt (show lk H b = some blk from hb) hrd hm i n
                have hl : vs.length = n := by rw [← h1.length]; simp; omega
                refine ⟨.agg vs.toArray, ?_, ?_⟩
                · simp [resSem, hp, asAddr, tyLd_agg hld hl h3]
                · simp only [VRel]; exact ⟨_, rfl, by simpa using h2, by simpa using h1⟩
              · simp at h
            · simp at h
          · simp at h
        · simp at h
      · simp at h
    · simp at h

theorem resAll_run {P : Program} {m ro w} {s : Slots} {H : List Blk} {a : Act} (hi : InvL m ro H w) (hsl : SlotsRel m ro w s a) : ∀ (rs : List ResultVar) (as : List AV), resAll P s H rs = some as →
    ∃ us, (rs.mapM (resSem a.tmps)).run P w = .ok us w ∧ VsRel m ro w as us
  | [], as, h => by
    simp only [resAll, Option.some.injEq] at h
    subst h
    exact ⟨[], by simp, by simp [VsRel]⟩
  | r :: rs, as, h => by
    simp only [resAll] at h
    split at h
    · rename_i x xs h1 h2
      simp only [Option.some.injEq] at h
      subst h
      obtain ⟨u, hu, hr⟩ := resOne_run hi hsl h1
      obtain ⟨us, hus, hrs⟩ := resAll_run hi hsl rs xs h2
      refine ⟨u :: us, ?_, by simp only [VsRel]; exact ⟨u, us, rfl, hr, hrs⟩⟩
      rw [List.mapM_cons]
      simp only [Sem.run_bind, Sem.run_pure]
      rw [hu]
      simp only [Result.andThen_ok]
      rw [hus]
      rfl
    · simp at h

theorem resA_run {P : Program} {m ro w} {s : Slots} {H : List Blk} {a : Act} (hi : InvL m ro H w) (hsl : SlotsRel m ro w s a) {fn : Func} {v : AV} (h : resA P fn.results.toList s H = some v) :
    ∃ u, (results fn a.tmps).run P w = .ok u w ∧ VRel m ro w v u := by
  unfold resA at h
  cases hr : resAll P s H fn.results.toList with
  | none => simp [hr] at h
  | some as =>
    obtain ⟨us, hus, hrel⟩ := resAll_run hi hsl _ _ hr
    have hrun : (results fn a.tmps).run P w = .ok (if h : us.toArray.size = 1 then us.toArray[0] else .tuple us.toArray) w := by
      rw [results_eq]
      simp only [Sem.run_bind, Sem.run_pure]
      rw [Array.mapM_eq_mapM_toList]
      simp only [Sem.run_map, hus, Result.andThen_ok]
    refine ⟨_, hrun, ?_⟩
    have hl := hrel.length
    rw [hr] at h
    by_cases h1 : us.length = 1
    · obtain ⟨x, rfl⟩ := List.length_eq_one_iff.1 (hl.trans h1)
      obtain ⟨u, rfl⟩ := List.length_eq_one_iff.1 h1
      simp only [Option.some.injEq] at h
      subst h
      simp only [VsRel] at hrel
      obtain ⟨v, vs', e, hx, _⟩ := hrel
      simp only [List.cons.injEq] at e
      obtain ⟨rfl, _⟩ := e
      simpa using hx
    · have : v = .tup as := by
        match as, hl, h with
        | [], _, h => simpa using h.symm
        | [x], hl, _ => exact absurd hl.symm h1
        | x :: y :: rest, _, h => simpa using h.symm
      subst this
      simp only [List.size_toArray, h1, dif_neg, not_false_eq_true]
      simp only [VRel]
      exact ⟨_, rfl, by simpa using hrel⟩

/-- At a function's end: behind changes to states that say less, its results read as this. -/
def finE (P : Program) (nt : Fr) (rs : List ResultVar) (v : AV) (s : Slots) (H : List Blk) : Prop :=
  ∃ s' H', Ent nt s H s' H' ∧ resA P rs s' H' = some v

theorem finB {P : Program} {nt : Fr} {rs : List ResultVar} {b b' : Bool} {s : Slots} {H : List Blk} (h : resA P rs s H = some (.bool b')) (e : b' = b) : finE P nt rs (.bool b) s H := by
  subst e; exact ⟨s, H, Ent.refl _ _ _, h⟩
theorem finE_of {P : Program} {nt : Fr} {rs : List ResultVar} {v : AV} {s : Slots} {H : List Blk} (h : resA P rs s H = some v) : finE P nt rs v s H := ⟨s, H, Ent.refl _ _ _, h⟩

def pureK (P : Program) (nt : Fr) (rs : List ResultVar) (v : AV) : Post := fun e s H => match e with
  | .ret => finE P nt rs v s H
  | .normal => finE P nt rs v s H
  | _ => False

theorem Pure.of_sw {P : Program} {f : FuncId} {fn : Func} {code : Code} {args : List AV} {v : AV} (nt : Fr) (hf : P.funcs[f]? = some fn) (hb : fn.body = some code) (hn : fn.ntmps = nt.nt) (hc : callable P f = true)
    (hargs : args.length ≤ nt.nt) (ca : closeds args) (cv : v.closed) (h : SW P nt code (argS args) [] (pureK P nt fn.results.toList v)) : Pure P f args v := by
  refine ⟨ca, cv, hc, fun m ro w cargs hi hx => ?_⟩
  have kb : ∀ b g loc, m b g = some loc → b < nt.k := fun b g loc hm => by
    have := hi.bound b g loc hm
    simp at this
  have hn' := hn.symm
  obtain ⟨nt, k⟩ := nt
  simp only at hn'
  subst hn'
  refine calls_of_wp hf hb (wp_mono (h ⟨⟨m, ro, [], w⟩, kb⟩ { tmps := cargs ++ Array.replicate (fn.ntmps - cargs.size) undef, defers := [] } w ⟨m, ro, hi, Step.refl .., argS_rel hx _, ?_, rfl⟩) ?_)
  · have := hx.length
    simp only [Array.length_toList] at this
    simp only [Array.size_append, Array.size_replicate]
    omega
  · rintro e a w' ⟨ae, s, H, he, hr, hk⟩
    have fin : finE P ⟨fn.ntmps, k⟩ fn.results.toList v s H → a.defers = [] ∧ ∃ u, (results fn a.tmps).run P w' = .ok u w' ∧ ∃ m' ro' out H', (out = Out.ret v ∧ H' = []) ∧ OutRel m' ro' w' out (.returned u) ∧ InvL m' ro' H' w' ∧ Step m ro (lk []) w m' ro' (lk H') w' := by
      rintro ⟨s', H', hent, hres⟩
      obtain ⟨m', ro', hi', hst, hsl, hsz, hd⟩ := hent ⟨⟨m, ro, [], w⟩, kb⟩ _ _ hr
      obtain ⟨u, hu, hv⟩ := resA_run hi' hsl hres
      refine ⟨hd, u, hu, m₀, ro', .ret v, [], ⟨rfl, rfl⟩, AV.closed_rel v u cv hv, Inv.empty hi'.inv.ro_lt hi'.inv.glob.any, ⟨fun b g loc hm => ?_, hst.size, hst.os, hst.out, hst.tape, hst.kept, hst.shape, fun cb h => (MW.empty h).elim, hst.ro_le, hst.ro_new⟩⟩
      have := hi.bound b g loc hm
      simp at this
    cases ae <;> cases e <;> simp only [ExitRel] at he <;> first
      | exact hk.elim
      | exact fin hk

end Tab
