/- Lemmas for this claim: part 6. No condition. -/
import Derived.Test.YtiflemdfnjgobaaDoorZ5
import Derived.Scope
set_option linter.unusedVariables false
set_option linter.unusedSimpArgs false
set_option linter.unusedSectionVars false
/- Code as a whole, functions: contracts out of verification conditions. -/
namespace Tab
open Go
variable [Globs]

def loopE (nt : Fr) (body : Slots → List Blk → Post → Prop) (s : Slots) (H : List Blk) (K : Post) : Prop :=
  ∃ (ι : Type) (st : ι → Slots × List Blk) (μ : ι → Nat) (i₀ : ι), Ent nt s H (st i₀).1 (st i₀).2 ∧ ∀ i, body (st i).1 (st i).2 (loopK nt st μ i K)

theorem loopE_of {nt : Fr} {body : Slots → List Blk → Post → Prop} {s : Slots} {H : List Blk} {K : Post} {ι : Type} (st : ι → Slots × List Blk) (μ : ι → Nat) (i₀ : ι)
    (h0 : Ent nt s H (st i₀).1 (st i₀).2) (h : ∀ i, body (st i).1 (st i).2 (loopK nt st μ i K)) : loopE nt body s H K := ⟨ι, st, μ, i₀, h0, h⟩

def scopeK (K : Post) : Post := fun e s H => match e with | .goto _ => False | e => K e s H

theorem SW.scope {P nt x s H} {K : Post} (h : SW P nt x s H (scopeK K)) : SW P nt (.scope x) s H K := by
  intro c a w hs
  refine wp_scope_straight (wp_mono (h c a w hs) ?_)
  rintro e a w ⟨ae, s, H, he, hr, hk⟩
  cases ae <;> cases e <;> simp only [ExitRel] at he <;> first
    | exact hk.elim
    | exact ⟨_, s, H, by first | exact trivial | exact he, hr, hk⟩


structure VCode (P : Program) (nt : Fr) (c : Code) (s : Slots) (H : List Blk) (K : Post) : Prop where
  out : SW P nt c s H K

def vcCode1 (P : Program) (nt : Fr) : Code → Slots → List Blk → Post → Prop
  | .skip, s, H, K => K .normal s H
  | .label _, s, H, K => K .normal s H
  | .ret, s, H, K => K .ret s H
  | .exit id, s, H, K => K (.exit id) s H
  | .goto l, s, H, K => K (.goto l) s H
  | .region _ ops false, s, H, K => guardE (dstOk nt.nt ops.toList = true) (VOps P ops.toList ops.toList s H K)
  | .region id ops true, s, H, K => SW P nt (.region id ops true) s H K
  | .seq x y, s, H, K => VCode P nt x s H (seqK (fun s H => VCode P nt y s H K) K)
  | .cond c x y, s, H, K => match ev s c with | .bool b => decB b (VCode P nt x s H K) (VCode P nt y s H K) | _ => False
  | .block id x, s, H, K => VCode P nt x s H (blockK id K)
  | .loop x, s, H, K => loopE nt (fun s H K => VCode P nt x s H K) s H K
  | .scope x, s, H, K => VCode P nt x s H (scopeK K)
  | _, _, _, _ => False

theorem vcode_eq (P : Program) (nt : Fr) : VCode P nt = SW P nt := by
  funext c s H K
  exact propext ⟨fun h => h.out, fun h => ⟨h⟩⟩

theorem codeStep {P : Program} {nt : Fr} {c : Code} {s : Slots} {H : List Blk} {K : Post} (h : vcCode1 P nt c s H K) : VCode P nt c s H K := by
  refine ⟨?_⟩
  cases c with
  | skip => exact SW.skip h
  | label => exact SW.label h
  | ret => exact SW.ret h
  | exit => exact SW.exit h
  | goto => exact SW.goto h
  | region id ops d =>
    cases d
    · simp only [vcCode1] at h
      obtain ⟨h1, h2⟩ := guardE_and h
      exact SW.region h1 h2.out
    · exact h
  | seq x y =>
    simp only [vcCode1, vcode_eq] at h
    exact SW.seq h
  | cond c x y =>
    simp only [vcCode1] at h
    split at h
    · rename_i b hb
      rcases decB_or h with ⟨rfl, h⟩ | ⟨rfl, h⟩
      · exact SW.cond hb (fun _ => h.out) (fun e => by simp at e)
      · exact SW.cond hb (fun e => by simp at e) (fun _ => h.out)
    · exact h.elim
  | block id x => exact SW.block h.out
  | loop x =>
    obtain ⟨ι, st, μ, i₀, h0, h⟩ := h
    exact SW.loop st μ i₀ h0 fun i => (h i).out
  | scope x => exact SW.scope h.out
  | rangeFunc => exact h.elim
  | refuse => exact h.elim

theorem SW.of_vc {P : Program} {nt : Fr} {c : Code} {s : Slots} {H : List Blk} {K : Post} (h : VCode P nt c s H K) : SW P nt c s H K := h.out

theorem VCode.ent {P : Program} {nt : Fr} {c : Code} {s : Slots} {H : List Blk} {s' : Slots} {H' : List Blk} {K : Post} (e : Ent nt s H s' H') (h : VCode P nt c s' H' K) : VCode P nt c s H K := ⟨h.out.ent e⟩


mutual
def AV.closed : AV → Prop
  | .bool _ | .int _ _ | .str _ | .nilp | .nilm | .nilf | .nili | .junk => True
  | .ref _ _ _ | .hs _ _ _ _ _ | .mp _ => False
  | .tref cs => closeds cs
  | .sl _ _ cs => closeds cs
  | .fn _ a b => closeds a ∧ closeds b
  | .ifc _ v => v.closed
  | .agg cs => closeds cs
  | .tup cs => closeds cs
def closeds : List AV → Prop
  | [] => True
  | a :: as => a.closed ∧ closeds as
end

theorem closeds_iff : ∀ {as : List AV}, closeds as ↔ ∀ a ∈ as, a.closed
  | [] => by simp [closeds]
  | a :: as => by simp [closeds, closeds_iff (as := as)]

mutual
theorem AV.closed_rel {m m' : Mp} {ro : Nat → Prop} {w : World} : ∀ (a : AV) (v : Value), a.closed → VRel m ro w a v → VRel m' ro w a v
  | .bool _, _, _, h | .int _ _, _, _, h | .str _, _, _, h | .nilp, _, _, h | .nilm, _, _, h | .nilf, _, _, h | .nili, _, _, h => by simpa only [VRel] using h
  | .junk, _, _, _ => by simp only [VRel]
  | .ref _ _ _, _, c, _ | .hs _ _ _ _ _, _, c, _ | .mp _, _, c, _ => by simp only [AV.closed] at c
  | .tref cs, v, c, h => by
    simp only [VRel, AV.closed] at h c ⊢
    obtain ⟨cb, off, e, h⟩ := h
    exact ⟨cb, off, e, closeds_cells cs cb off c h⟩
  | .sl k n cs, v, c, h => by
    simp only [VRel, AV.closed] at h c ⊢
    rcases h with h | ⟨hk', ad, cap, e, hle, hf, h⟩
    · exact .inl h
    · exact .inr ⟨hk', ad, cap, e, hle, hf, h.imp id fun h => ⟨h.1, closeds_cells cs _ _ c h.2⟩⟩
  | .fn f first cap, v, c, h => by
    simp only [VRel, AV.closed] at h c ⊢
    obtain ⟨a, b, e, h1, h2⟩ := h
    exact ⟨a, b, e, closeds_rel first _ c.1 h1, closeds_rel cap _ c.2 h2⟩
  | .ifc t x, v, c, h => by
    simp only [VRel, AV.closed] at h c ⊢
    obtain ⟨y, e, h⟩ := h
    exact ⟨y, e, AV.closed_rel x y c h⟩
  | .agg cs, v, c, h => by
    simp only [VRel, AV.closed] at h c ⊢
    obtain ⟨a, e, ho, h⟩ := h
    exact ⟨a, e, ho, closeds_rel cs _ c h⟩
  | .tup cs, v, c, h => by
    simp only [VRel, AV.closed] at h c ⊢
    obtain ⟨a, e, h⟩ := h
    exact ⟨a, e, closeds_rel cs _ c h⟩
theorem closeds_rel {m m' : Mp} {ro : Nat → Prop} {w : World} : ∀ (as : List AV) (vs : List Value), closeds as → VsRel m ro w as vs → VsRel m' ro w as vs
  | [], vs, _, h => by simpa only [VsRel] using h
  | a :: as, vs, c, h => by
    simp only [VsRel, closeds] at h c ⊢
    obtain ⟨v, vs', e, h1, h2⟩ := h
    exact ⟨v, vs', e, AV.closed_rel a v c.1 h1, closeds_rel as vs' c.2 h2⟩
theorem closeds_cells {m m' : Mp} {ro : Nat → Prop} {w : World} : ∀ (cs : List AV) (cb off : Nat), closeds cs → CsRel m ro w cs cb off → CsRel m' ro w cs cb off
  | [], _, _, _, _ => by simp only [CsRel]
  | a :: as, cb, off, c, h => by
    simp only [CsRel, closeds] at h c ⊢
    obtain ⟨h1, ⟨v, hv, ho, h2⟩, h3⟩ := h
    exact ⟨h1, ⟨v, hv, ho, AV.closed_rel a v c.1 h2⟩, closeds_cells as cb (off + 1) c.2 h3⟩
end


structure Pure (P : Program) (f : FuncId) (args : List AV) (v : AV) : Prop where
  cargs : closeds args
  cval : v.closed
  call : ACall P f args [] fun o H' => o = .ret v ∧ H' = []

def m₀ : Mp := fun _ _ => none

theorem Inv.empty {ro : Nat → Prop} {w : World} (h : ∀ cb, ro cb → cb < w.heap.size) (hg : GRel m₀ ro w) : InvL m₀ ro [] w :=
  ⟨⟨h, fun b x hx => by simp [lk] at hx, fun b b' x x' g g' cb base base' h1 => by simp [lk] at h1, fun cb hm => by obtain ⟨b, x, g, base, h1, _⟩ := hm; simp [lk] at h1, fun b x g h1 => by simp [lk] at h1, hg⟩, fun b g loc h => by simp [m₀] at h⟩

theorem MW.empty {m : Mp} {cb : Nat} : ¬ MW m (lk []) cb := by
  rintro ⟨b, x, g, base, h1, _⟩
  simp [lk] at h1

theorem Pure.acall {P f args v} (h : Pure P f args v) (H : List Blk) : ACall P f args H fun o H' => o = .ret v ∧ H' = H := by
  refine ⟨h.call.1, fun m ro w cargs hi hx => ?_⟩
  refine (h.call.2 m₀ ro w cargs (Inv.empty hi.inv.ro_lt hi.inv.glob.any) (closeds_rel args _ h.cargs hx)).mono ?_
  rintro e w' ⟨m', ro', out, H', ⟨rfl, rfl⟩, hout, hi', hst⟩
  have hk : ∀ cb, cb < w.heap.size → w'.heap[cb]? = w.heap[cb]? := fun cb hlt => hst.kept cb hlt MW.empty
  have hro : ∀ cb, ro' cb → ro cb ∨ w.heap.size ≤ cb := fun cb h => by
    rcases hst.ro_new cb h with h | h | h
    · exact .inl h
    · exact (MW.empty h).elim
    · exact .inr h
  have hst' : Step m ro (lk H) w m ro' (lk H) w' :=
    ⟨fun _ _ _ h => h, hst.size, hst.os, hst.out, hst.tape, fun cb hlt _ => hk cb hlt, hst.shape, fun _ h => .inl h, hst.ro_le, fun cb h => by
      rcases hro cb h with h | h
      · exact .inl h
      · exact .inr (.inr h)⟩
  refine ⟨m, ro', .ret v, H, ⟨rfl, rfl⟩, ?_, ⟨⟨hi'.inv.ro_lt, ?_, hi.inv.inj, ?_, hi.inv.gen, fun g => VRel.keep (fun _ _ _ h => h) hst.shape hst.ro_le (fun cb h => hk cb (hi.inv.ro_lt cb h)) _ _ (hi.inv.glob g)⟩, hi.bound⟩, hst'⟩
  · cases e with
    | returned u => exact AV.closed_rel v u h.cval hout
    | panicked _ => exact hout.elim
    | outgrown => exact hout.elim
  · intro b x hx
    refine BlkRel.keep (fun _ _ _ h => h) hst.shape hst.ro_le (fun cb h => hk cb (hi.inv.ro_lt cb h)) (fun _ => rfl) (fun g cb base h1 h2 => hk cb (hi.inv.own_lt hx h1 h2)) (hi.inv.blk b x hx)
  · intro cb hm hr
    rcases hro cb hr with h | h
    · exact hi.inv.excl cb hm h
    · have := hi.inv.mw_lt hm; omega

def argS (args : List AV) : Slots := fun t => (args[t]?).getD .junk

theorem argS_rel {m ro w} {args : List AV} {cargs : Array Value} (h : VsRel m ro w args cargs.toList) (nt : Nat) :
    SlotsRel m ro w (argS args) { tmps := cargs ++ Array.replicate (nt - cargs.size) undef, defers := [] } := by
  intro t
  unfold argS
  cases ha : args[t]? with
  | none => simp only [Option.getD_none, VRel]
  | some a =>
    obtain ⟨v, hv, hr⟩ := h.get ha
    have hlt : t < cargs.size := by
      have := (List.getElem?_eq_some_iff.1 hv).1
      simpa using this
    have : (cargs ++ Array.replicate (nt - cargs.size) undef).getD t undef = v := by
      rw [Array.getD_eq_getD_getElem?, Array.getElem?_append_left hlt]
      have : cargs[t]? = some v := by simpa using hv
      rw [this]
      rfl
    simp only [Option.getD_some]
    rw [this]
    exact hr

def resOne (P : Program) (s : Slots) (H : List Blk) : ResultVar → Option AV
  | .tmp t => some (s t)
  | .cell x t => match s x with
    | .ref b g i => match H[b]? with
      | some blk => match blk.rd with
        | some (g', cs) => bif Nat.beq g' g then (match tyLd P t with
          | some none => cs[i]?
          | some (some n) => bif Nat.ble (i + n) cs.length then some (.agg ((cs.drop i).take n)) else none
          | none => none) else none
        | none => none
      | none => none
    | _ => none

def resAll (P : Program) (s : Slots) (H : List Blk) : List ResultVar → Option (List AV)
  | [] => some []
  | r :: rs => match resOne P s H r, resAll P s H rs with
    | some a, some as => some (a :: as)
    | _, _ => none

def resA (P : Program) (rs : List ResultVar) (s : Slots) (H : List Blk) : Option AV :=
  match resAll P s H rs with
  | some [a] => some a
  | some as => some (.tup as)
  | none => none

def resSem (tmps : Array Value) : ResultVar → Sem Value
  | .tmp t => (Pure.pure (tmps.getD t undef) : Sem Value)
  | .cell x t => do loadVar t (← asAddr (tmps.getD x undef))

theorem results_eq (fn : Func) (tmps : Array Value) : results fn tmps = (do let vs ← fn.results.mapM (resSem tmps); pure (if h : vs.size = 1 then vs[0] else .tuple vs)) := by
  unfold results
  congr 1

theorem resOne_run {P : Program} {m ro w} {s : Slots} {H : List Blk} {a : Act} (hi : InvL m ro H w) (hsl : SlotsRel m ro w s a) {r : ResultVar} {v : AV} (h : resOne P s H r = some v) :
    ∃ u, (resSem a.tmps r).run P w = .ok u w ∧ VRel m ro w v u := by
  cases r with
  | tmp t =>
    simp only [resOne, Option.some.injEq] at h
    subst h
    exact ⟨_, rfl, hsl t⟩
  | cell x t =>
    simp only [resOne] at h
    split at h
    · rename_i b g i hx
      have hp := hsl x
      rw [hx] at hp
      simp only [VRel] at hp
      obtain ⟨cb, base, hm, hp⟩ := hp
      split at h
      · rename_i blk hb
        split at h
        · rename_i g' cs hrd
          rw [Bool.cond_eq_ite] at h
          split at h
          · rename_i hg
            have hg := Nat.eq_of_beq_eq_true hg
            subst hg
            split at h
            · rename_i hld
              obtain ⟨vs, h1, h2, h3⟩ := hi.inv.cellsAt (show lk H b = some blk from hb) hrd hm i 1
              obtain ⟨u, hu, hr⟩ := h1.get (i := 0) (a := v) (by simpa using h)
              refine ⟨u, ?_, hr⟩
              simp [resSem, hp, asAddr, tyLd_one hld (by simpa using h3 0 u hu)]
            · rename_i n hld
              rw [Bool.cond_eq_ite] at h
              split at h
              · rename_i hle
                simp only [Option.some.injEq] at h
                subst h
                have hle := Nat.le_of_ble_eq_true hle
                obtain ⟨vs, h1, h2, h3⟩ := hi.inv.cellsAt (show lk H b = some blk from hb) hrd hm i n
                have hl : vs.length = n := by rw [← h1.length]; simp; omega
                refine ⟨.agg vs.toArray, ?_, ?_⟩
                · simp [resSem, hp, asAddr, tyLd_agg hld hl h3]
                · simp only [VRel]; exact ⟨_, rfl, by simpa using h2, by simpa using h1⟩
              · simp at h
            · simp at h
          · simp at h
        · simp at h
      · simp at h
    · simp at h

theorem resAll_run {P : Program} {m ro w} {s : Slots} {H : List Blk} {a : Act} (hi : InvL m ro H w) (hsl : SlotsRel m ro w s a) : ∀ (rs : List ResultVar) (as : List AV), resAll P s H rs = some as →
    ∃ us, (rs.mapM (resSem a.tmps)).run P w = .ok us w ∧ VsRel m ro w as us
  | [], as, h => by
    simp only [resAll, Option.some.injEq] at h
    subst h
    exact ⟨[], by simp, by simp [VsRel]⟩
  | r :: rs, as, h => by
    simp only [resAll] at h
    split at h
    · rename_i x xs h1 h2
      simp only [Option.some.injEq] at h
      subst h
      obtain ⟨u, hu, hr⟩ := resOne_run hi hsl h1
      obtain ⟨us, hus, hrs⟩ := resAll_run hi hsl rs xs h2
      refine ⟨u :: us, ?_, by simp only [VsRel]; exact ⟨u, us, rfl, hr, hrs⟩⟩
      rw [List.mapM_cons]
      simp only [Sem.run_bind, Sem.run_pure]
      rw [hu]
      simp only [Result.andThen_ok]
      rw [hus]
      rfl
    · simp at h

theorem resA_run {P : Program} {m ro w} {s : Slots} {H : List Blk} {a : Act} (hi : InvL m ro H w) (hsl : SlotsRel m ro w s a) {fn : Func} {v : AV} (h : resA P fn.results.toList s H = some v) :
    ∃ u, (results fn a.tmps).run P w = .ok u w ∧ VRel m ro w v u := by
  unfold resA at h
  cases hr : resAll P s H fn.results.toList with
  | none => simp [hr] at h
  | some as =>
    obtain ⟨us, hus, hrel⟩ := resAll_run hi hsl _ _ hr
    have hrun : (results fn a.tmps).run P w = .ok (if h : us.toArray.size = 1 then us.toArray[0] else .tuple us.toArray) w := by
      rw [results_eq]
      simp only [Sem.run_bind, Sem.run_pure]
      rw [Array.mapM_eq_mapM_toList]
      simp only [Sem.run_map, hus, Result.andThen_ok]
    refine ⟨_, hrun, ?_⟩
    have hl := hrel.length
    rw [hr] at h
    by_cases h1 : us.length = 1
    · obtain ⟨x, rfl⟩ := List.length_eq_one_iff.1 (hl.trans h1)
      obtain ⟨u, rfl⟩ := List.length_eq_one_iff.1 h1
      simp only [Option.some.injEq] at h
      subst h
      simp only [VsRel] at hrel
      obtain ⟨v, vs', e, hx, _⟩ := hrel
      simp only [List.cons.injEq] at e
      obtain ⟨rfl, _⟩ := e
      simpa using hx
    · have : v = .tup as := by
        match as, hl, h with
        | [], _, h => simpa using h.symm
        | [x], hl, _ => exact absurd hl.symm h1
        | x :: y :: rest, _, h => simpa using h.symm
      subst this
      simp only [List.size_toArray, h1, dif_neg, not_false_eq_true]
      simp only [VRel]
      exact ⟨_, rfl, by simpa using hrel⟩

def finE (P : Program) (nt : Fr) (rs : List ResultVar) (v : AV) (s : Slots) (H : List Blk) : Prop :=
  ∃ s' H', Ent nt s H s' H' ∧ resA P rs s' H' = some v

theorem finB {P : Program} {nt : Fr} {rs : List ResultVar} {b b' : Bool} {s : Slots} {H : List Blk} (h : resA P rs s H = some (.bool b')) (e : b' = b) : finE P nt rs (.bool b) s H := by
  subst e; exact ⟨s, H, Ent.refl _ _ _, h⟩
theorem finE_of {P : Program} {nt : Fr} {rs : List ResultVar} {v : AV} {s : Slots} {H : List Blk} (h : resA P rs s H = some v) : finE P nt rs v s H := ⟨s, H, Ent.refl _ _ _, h⟩

def pureK (P : Program) (nt : Fr) (rs : List ResultVar) (v : AV) : Post := fun e s H => match e with
  | .ret => finE P nt rs v s H
  | .normal => finE P nt rs v s H
  | _ => False

theorem Pure.of_sw {P : Program} {f : FuncId} {fn : Func} {code : Code} {args : List AV} {v : AV} (nt : Fr) (hf : P.funcs[f]? = some fn) (hb : fn.body = some code) (hn : fn.ntmps = nt.nt) (hc : callable P f = true)
    (hargs : args.length ≤ nt.nt) (ca : closeds args) (cv : v.closed) (h : SW P nt code (argS args) [] (pureK P nt fn.results.toList v)) : Pure P f args v := by
  refine ⟨ca, cv, hc, fun m ro w cargs hi hx => ?_⟩
  have kb : ∀ b g loc, m b g = some loc → b < nt.k := fun b g loc hm => by
    have := hi.bound b g loc hm
    simp at this
  have hn' := hn.symm
  obtain ⟨nt, k⟩ := nt
  simp only at hn'
  subst hn'
  refine calls_of_wp hf hb (wp_mono (h ⟨⟨m, ro, [], w, []⟩, kb⟩ { tmps := cargs ++ Array.replicate (fn.ntmps - cargs.size) undef, defers := [] } w ⟨m, ro, hi, Step.refl .., argS_rel hx _, ?_, rfl⟩) ?_)
  · have := hx.length
    simp only [Array.length_toList] at this
    simp only [Array.size_append, Array.size_replicate]
    omega
  · rintro e a w' ⟨ae, s, H, he, hr, hk⟩
    have fin : finE P ⟨fn.ntmps, k⟩ fn.results.toList v s H → a.defers = [] ∧ ∃ u, (results fn a.tmps).run P w' = .ok u w' ∧ ∃ m' ro' out H', (out = Out.ret v ∧ H' = []) ∧ OutRel m' ro' w' out (.returned u) ∧ InvL m' ro' H' w' ∧ Step m ro (lk []) w m' ro' (lk H') w' := by
      rintro ⟨s', H', hent, hres⟩
      obtain ⟨m', ro', hi', hst, hsl, hsz, hd⟩ := hent ⟨⟨m, ro, [], w, []⟩, kb⟩ _ _ hr
      obtain ⟨u, hu, hv⟩ := resA_run hi' hsl hres
      refine ⟨hd, u, hu, m₀, ro', .ret v, [], ⟨rfl, rfl⟩, AV.closed_rel v u cv hv, Inv.empty hi'.inv.ro_lt hi'.inv.glob.any, ⟨fun b g loc hm => ?_, hst.size, hst.os, hst.out, hst.tape, hst.kept, hst.shape, fun cb h => (MW.empty h).elim, hst.ro_le, hst.ro_new⟩⟩
      have := hi.bound b g loc hm
      simp at this
    cases ae <;> cases e <;> simp only [ExitRel] at he <;> first
      | exact hk.elim
      | exact fin hk

end Tab

/- Changes from a state to one that says less: slots forgotten, slices frozen, a nil slice taken for a row that is still empty; and calls with arguments that are read. -/
namespace Tab
open Go
variable [Globs]

def fr : List (Nat × AV) → Slots
  | [] => fun _ => .junk
  | (t, v) :: l => upd (fr l) t v

def frOk (s : Slots) : List (Nat × AV) → Prop
  | [] => True
  | (t, v) :: l => s t = v ∧ frOk s l

theorem fr_le {s : Slots} : ∀ {l : List (Nat × AV)}, frOk s l → ∀ t, fr l t = .junk ∨ fr l t = s t
  | [], _, t => .inl rfl
  | (t', v) :: l, h, t => by
    simp only [fr, upd]
    by_cases e : t = t'
    · subst e
      simp only [Nat.beq_refl, cond_true]
      exact .inr h.1.symm
    · have : Nat.beq t t' = false := by rw [← Bool.not_eq_true]; intro h; exact e (Nat.eq_of_beq_eq_true h)
      rw [this]
      exact fr_le h.2 t

theorem Ent.weak {nt s H s'} (h : ∀ t, s' t = .junk ∨ s' t = s t) : Ent nt s H s' H := by
  rintro c a w ⟨m, ro, h1, h2, hsl, h3⟩
  refine ⟨m, ro, h1, h2, fun t => ?_, h3⟩
  rcases h t with e | e
  · rw [e]; simp only [VRel]
  · rw [e]; exact hsl t

theorem Ent.fr {nt s H l} (h : frOk s l) : Ent nt s H (fr l) H := Ent.weak (fr_le h)
theorem Ent.fr' {nt s H H' l} (h : frOk s l) (e : H = H') : Ent nt s H (Tab.fr l) H' := by subst e; exact Ent.fr h

theorem lk_set {H : List Blk} {b : Nat} {x : Blk} (h : b < H.length) : ∀ b₁, lk (H.set b x) b₁ = if b₁ = b then some x else lk H b₁ := by
  intro b₁
  simp only [lk, List.getElem?_set]
  by_cases e : b = b₁
  · simp [e, e ▸ h]
  · simp [e, Ne.symm e]

theorem lk_push {H : List Blk} {x : Blk} : ∀ b₁, lk (H ++ [x]) b₁ = if b₁ = H.length then some x else lk H b₁ := by
  intro b₁
  simp only [lk, List.getElem?_append]
  by_cases h : b₁ < H.length
  · simp [h, Nat.ne_of_lt h]
  · by_cases e : b₁ = H.length
    · simp [e]
    · simp only [h, if_false, e]
      rw [List.getElem?_eq_none (by simp; omega), List.getElem?_eq_none (by omega)]

theorem Ent.froz {nt s H g cs} (b : Nat) (hb : H[b]? = some (.cells g cs)) : Ent nt s H s (H.set b (.fro g cs)) := by
  rintro c a w ⟨m, ro, hi, hst, hsl, hsz, hd⟩
  have hlt := (List.getElem?_eq_some_iff.1 hb).1
  obtain ⟨k1, k2⟩ := hi.inv.change₀ (m' := m) (ro' := fun cb => ro cb ∨ Owns m (lk H) b cb) (H' := lk (H.set b (.fro g cs))) b (.fro g cs) (fun _ _ _ h => h) (fun _ _ => .inl rfl) (lk_set hlt)
    (fun g cb base h => by simp [Blk.own] at h) (fun g h => by simp [Blk.own] at h) (fun _ h => .inl h) (fun _ h => h)
    (fun keep loc hl => by
      have h := hi.inv.blk b _ hb loc hl
      cases loc with
      | void => exact h
      | «at» cb base =>
        obtain ⟨c, t, hc, hlay⟩ := h
        refine CsRel_iff.2 ?_
        intro i x hix
        obtain ⟨v, hv, ho, hr⟩ := hlay i x hix
        exact ⟨.inr ⟨_, g, base, hb, rfl, hl⟩, v, by simp only [World.cell?, hc]; simpa using hv, ho, keep x v hr⟩)
  exact ⟨m, _, ⟨k1, fun b g loc h => by simpa using hi.bound b g loc h⟩, hst.trans k2, hsl.step hi.inv k2, hsz, hd⟩

theorem froz_val {m ro w H b g o n es cs} (hi : InvL m ro H w) (hb : H[b]? = some (.fro g cs)) (hfit : o + n * es ≤ cs.length) {v : Value} (h : VRel m ro w (.hs b g o n es) v) :
    VRel m ro w (.sl .any n ((cs.drop o).take (n * es))) v := by
  simp only [VRel] at h ⊢
  obtain ⟨loc, hm, hh⟩ := h
  have hbr := hi.inv.blk b _ hb loc hm
  cases loc with
  | void =>
    simp only [HsRel] at hh
    obtain ⟨rfl, rfl, rfl⟩ := hh
    exact .inl ⟨by simp, rfl, rfl, by simp⟩
  | «at» cb base =>
    simp only [HsRel] at hh
    obtain ⟨cap, rfl, hle, _⟩ := hh
    exact .inr ⟨by simp, _, cap, rfl, hle, by simp, .inr ⟨rfl, (CsRel.drop hbr o).take _⟩⟩

theorem Ent.slot {nt s H b g o n es cs} (t : Nat) (ht : s t = .hs b g o n es) (hb : H[b]? = some (.fro g cs)) (hfit : o + n * es ≤ cs.length) :
    Ent nt s H (upd s t (.sl .any n ((cs.drop o).take (n * es)))) H := by
  rintro c a w ⟨m, ro, hi, hst, hsl, hsz, hd⟩
  refine ⟨m, ro, hi, hst, fun t' => ?_, hsz, hd⟩
  simp only [upd]
  by_cases e : t' = t
  · subst e
    simp only [Nat.beq_refl, cond_true]
    have := hsl t'
    rw [ht] at this
    exact froz_val hi hb hfit this
  · have : Nat.beq t' t = false := by rw [← Bool.not_eq_true]; intro h; exact e (Nat.eq_of_beq_eq_true h)
    rw [this]
    exact hsl t'

theorem Ent.freeze {nt s H b g n es cs} (t : Nat) (ht : s t = .hs b g 0 n es) (hb : H[b]? = some (.cells g cs)) (hfit : n * es = cs.length) :
    Ent nt s H (upd s t (.sl .any n cs)) (H.set b (.fro g cs)) := by
  have hlt := (List.getElem?_eq_some_iff.1 hb).1
  refine (Ent.froz b hb).trans ?_
  have := Ent.slot (nt := nt) (s := s) (H := H.set b (.fro g cs)) (cs := cs) t ht (by simp [hlt]) (by omega)
  rwa [List.drop_zero, hfit, List.take_length] at this

theorem InvL.cellTo {m ro w H gc ccs x y} (hi : InvL m ro H w) (c i : Nat) (hc : H[c]? = some (.cells gc ccs)) (hx : ccs[i]? = some x)
    (hxy : ∀ v, VRel m ro w x v → VRel m ro w y v) : InvL m ro (H.set c (.cells gc (ccs.set i y))) w ∧ Step m ro (lk H) w m ro (lk (H.set c (.cells gc (ccs.set i y)))) w := by
  have hlt := (List.getElem?_eq_some_iff.1 hc).1
  have hset := lk_set (x := .cells gc (ccs.set i y)) hlt
  have hmw : ∀ cb, MW m (lk (H.set c (.cells gc (ccs.set i y)))) cb → MW m (lk H) cb := by
    rintro cb ⟨b, x', g, base, h1, h2, h3⟩
    rw [hset] at h1
    by_cases e : b = c
    · subst e
      rw [if_pos rfl] at h1
      cases h1
      exact ⟨b, _, g, base, hc, h2, h3⟩
    · rw [if_neg e] at h1
      exact ⟨b, x', g, base, h1, h2, h3⟩
  have hown : ∀ b x' g, lk (H.set c (.cells gc (ccs.set i y))) b = some x' → x'.own = some g → ∃ x'', lk H b = some x'' ∧ x''.own = some g := by
    intro b x' g h1 h2
    rw [hset] at h1
    by_cases e : b = c
    · subst e
      rw [if_pos rfl] at h1
      cases h1
      exact ⟨_, hc, h2⟩
    · rw [if_neg e] at h1
      exact ⟨x', h1, h2⟩
  refine ⟨⟨⟨hi.inv.ro_lt, ?_, ?_, fun cb h => hi.inv.excl cb (hmw cb h), ?_, hi.inv.glob⟩, fun b g loc h => by simpa using hi.bound b g loc h⟩, ⟨fun _ _ _ h => h, Nat.le_refl _, rfl, rfl, rfl, fun _ _ _ => rfl, fun cb c t fr h => ⟨c, h, rfl⟩, fun cb h => .inl (hmw cb h), fun _ h => h, fun _ h => .inl h⟩⟩
  · intro b x' h
    rw [hset] at h
    by_cases e : b = c
    · subst e
      rw [if_pos rfl] at h
      cases h
      intro loc hl
      have hbr := hi.inv.blk b _ hc loc hl
      cases loc with
      | void =>
        simp only at hbr
        subst hbr
        simp at hx
      | «at» cb base =>
        obtain ⟨cc, t, h1, hlay⟩ := hbr
        refine ⟨cc, t, h1, fun j a' hj => ?_⟩
        rw [List.getElem?_set] at hj
        split at hj
        · rename_i e
          subst e
          split at hj
          · simp only [Option.some.injEq] at hj
            subst hj
            obtain ⟨v, hv, ho, hr⟩ := hlay i x hx
            exact ⟨v, hv, ho, hxy v hr⟩
          · simp at hj
        · exact hlay j a' hj
    · rw [if_neg e] at h
      exact hi.inv.blk b x' h
  · intro b b' x' x'' g g' cb base base' h1 h2 k1 k2 l1 l2
    obtain ⟨y1, h1', k1'⟩ := hown b x' g h1 k1
    obtain ⟨y2, h2', k2'⟩ := hown b' x'' g' h2 k2
    exact hi.inv.inj b b' y1 y2 g g' cb base base' h1' h2' k1' k2' l1 l2
  · intro b x' g h1 h2 g₁ loc h3
    obtain ⟨y1, h1', k1'⟩ := hown b x' g h1 h2
    exact hi.inv.gen b y1 g h1' k1' g₁ loc h3

theorem Ent.cellTo {nt s H gc ccs x y} (c i : Nat) (hc : H[c]? = some (.cells gc ccs)) (hx : ccs[i]? = some x)
    (hxy : ∀ m ro w v, InvL m ro H w → VRel m ro w x v → VRel m ro w y v) : Ent nt s H s (H.set c (.cells gc (ccs.set i y))) := by
  rintro cx a w ⟨m, ro, hi, hst, hsl, hsz, hd⟩
  obtain ⟨k1, k2⟩ := hi.cellTo c i hc hx (fun v h => hxy m ro w v hi h)
  exact ⟨m, ro, k1, hst.trans k2, hsl, hsz, hd⟩

theorem Ent.cell {nt s H gc ccs b g o n es cs} (c i : Nat) (hc : H[c]? = some (.cells gc ccs)) (hx : ccs[i]? = some (.hs b g o n es)) (hb : H[b]? = some (.fro g cs)) (hfit : o + n * es ≤ cs.length) :
    Ent nt s H s (H.set c (.cells gc (ccs.set i (.sl .any n ((cs.drop o).take (n * es)))))) :=
  Ent.cellTo c i hc hx fun _ _ _ _ hi h => froz_val hi hb hfit h

theorem InvL.void {m ro w H} (hi : InvL m ro H w) : ∃ m', m' H.length 0 = some .void ∧ InvL m' ro (H ++ [.cells 0 []]) w ∧ Step m ro (lk H) w m' ro (lk (H ++ [.cells 0 []])) w := by
  have hn : ∀ g, m H.length g = none := fun g => by
    cases h : m H.length g with
    | none => rfl
    | some l => exact absurd (hi.bound _ _ _ h) (Nat.lt_irrefl _)
  obtain ⟨k1, k2⟩ := hi.inv.change₀ (ro' := ro) (m' := fun b₁ g₁ => if b₁ = H.length ∧ g₁ = 0 then some .void else m b₁ g₁) (H' := lk (H ++ [.cells 0 []])) H.length (.cells 0 [])
    (fun b₁ g₁ l h => by
      by_cases hcc : b₁ = H.length ∧ g₁ = 0
      · obtain ⟨rfl, rfl⟩ := hcc; rw [hn] at h; simp at h
      · simp only [hcc, if_false]; exact h)
    (fun b₁ g₁ => by
      by_cases hcc : b₁ = H.length ∧ g₁ = 0
      · exact .inr ⟨hcc.1, by rw [hcc.2]; rfl, by simp [hcc]⟩
      · exact .inl (by simp [hcc]))
    lk_push
    (fun g₁ cb base h => by simp only [Blk.own, Option.some.injEq] at h; subst h; simp)
    (fun g₁ h g₂ l h2 => by
      by_cases hcc : g₂ = 0
      · omega
      · simp only [hcc, and_false, if_false] at h2; rw [hn] at h2; simp at h2)
    (fun _ h => h) (fun _ h => .inl h)
    (fun _ loc h => by
      simp only [and_self, if_true, Option.some.injEq] at h
      subst h
      rfl)
  refine ⟨_, by simp, ⟨k1, fun b g loc h => ?_⟩, k2⟩
  simp only [List.length_append, List.length_singleton]
  split at h
  · rename_i hc; omega
  · have := hi.bound b g loc h; omega

theorem nil_void {m ro w n es v} (hm : m n 0 = some .void) (h : VRel m ro w (.sl .nil 0 []) v) : VRel m ro w (.hs n 0 0 0 es) v := by
  simp only [VRel] at h ⊢
  rcases h with ⟨_, h, _⟩ | ⟨h, _⟩
  · exact ⟨.void, hm, by simp [HsRel, h]⟩
  · exact absurd rfl h

theorem Ent.nil {nt s H} (t es : Nat) (ht : s t = .sl .nil 0 []) : Ent nt s H (upd s t (.hs H.length 0 0 0 es)) (H ++ [.cells 0 []]) := by
  rintro c a w ⟨m, ro, hi, hst, hsl, hsz, hd⟩
  obtain ⟨m', hm, k1, k2⟩ := hi.void
  refine ⟨_, ro, k1, hst.trans k2, fun t' => ?_, hsz, hd⟩
  have hold := (hsl t').step hi.inv k2
  simp only [upd]
  by_cases e : t' = t
  · subst e
    simp only [Nat.beq_refl, cond_true]
    rw [ht] at hold
    exact nil_void hm hold
  · have : Nat.beq t' t = false := by rw [← Bool.not_eq_true]; intro h; exact e (Nat.eq_of_beq_eq_true h)
    rw [this]
    exact hold

mutual
def AV.bel (n : Nat) : AV → Prop
  | .ref b _ _ | .hs b _ _ _ _ | .mp b => b < n
  | .tref cs => bels n cs
  | .sl _ _ cs => bels n cs
  | .fn _ a b => bels n a ∧ bels n b
  | .ifc _ v => v.bel n
  | .agg cs => bels n cs
  | .tup cs => bels n cs
  | _ => True
def bels (n : Nat) : List AV → Prop
  | [] => True
  | a :: as => a.bel n ∧ bels n as
end

theorem bels_iff {n : Nat} : ∀ {as : List AV}, bels n as ↔ ∀ a ∈ as, a.bel n
  | [] => by simp [bels]
  | a :: as => by simp [bels, bels_iff (as := as)]

mutual
theorem AV.closed_bel {n : Nat} : ∀ (a : AV), a.closed → a.bel n
  | .ref _ _ _, h | .hs _ _ _ _ _, h | .mp _, h => by simp only [AV.closed] at h
  | .tref cs, h | .sl _ _ cs, h | .agg cs, h | .tup cs, h => by simp only [AV.closed, AV.bel] at h ⊢; exact closeds_bel cs h
  | .fn _ a b, h => by simp only [AV.closed, AV.bel] at h ⊢; exact ⟨closeds_bel a h.1, closeds_bel b h.2⟩
  | .ifc _ v, h => by simp only [AV.closed, AV.bel] at h ⊢; exact AV.closed_bel v h
  | .bool _, _ | .int _ _, _ | .str _, _ | .nilp, _ | .nilm, _ | .nilf, _ | .nili, _ | .junk, _ => by simp only [AV.bel]
theorem closeds_bel {n : Nat} : ∀ (as : List AV), closeds as → bels n as
  | [], _ => by simp only [bels]
  | a :: as, h => by simp only [closeds, bels] at h ⊢; exact ⟨AV.closed_bel a h.1, closeds_bel as h.2⟩
end

def belM (n : Nat) (m : Mp) : Mp := fun b g => if b < n then m b g else none
theorem belM_lt {n : Nat} {m : Mp} {b g : Nat} (h : b < n) : belM n m b g = m b g := if_pos h

mutual
theorem AV.bel_rel {n : Nat} {m : Mp} {ro : Nat → Prop} {w : World} : ∀ (a : AV) (v : Value), a.bel n → VRel m ro w a v → VRel (belM n m) ro w a v
  | .ref b g o, v, c, h => by
    simp only [VRel, AV.bel] at h c ⊢
    rw [belM_lt c]; exact h
  | .hs b g o k es, v, c, h => by
    simp only [VRel, AV.bel] at h c ⊢
    rw [belM_lt c]; exact h
  | .mp b, v, c, h => by
    simp only [VRel, AV.bel] at h c ⊢
    rw [belM_lt c]; exact h
  | .tref cs, v, c, h => by
    simp only [VRel, AV.bel] at h c ⊢
    obtain ⟨cb, off, e, h⟩ := h
    exact ⟨cb, off, e, bels_cells cs cb off c h⟩
  | .sl k _ cs, v, c, h => by
    simp only [VRel, AV.bel] at h c ⊢
    rcases h with h | ⟨hk', ad, cap, e, hle, hf, h⟩
    · exact .inl h
    · exact .inr ⟨hk', ad, cap, e, hle, hf, h.imp id fun h => ⟨h.1, bels_cells cs _ _ c h.2⟩⟩
  | .fn f first cap, v, c, h => by
    simp only [VRel, AV.bel] at h c ⊢
    obtain ⟨a, b, e, h1, h2⟩ := h
    exact ⟨a, b, e, bels_rel first _ c.1 h1, bels_rel cap _ c.2 h2⟩
  | .ifc t x, v, c, h => by
    simp only [VRel, AV.bel] at h c ⊢
    obtain ⟨y, e, h⟩ := h
    exact ⟨y, e, AV.bel_rel x y c h⟩
  | .agg cs, v, c, h => by
    simp only [VRel, AV.bel] at h c ⊢
    obtain ⟨a, e, ho, h⟩ := h
    exact ⟨a, e, ho, bels_rel cs _ c h⟩
  | .tup cs, v, c, h => by
    simp only [VRel, AV.bel] at h c ⊢
    obtain ⟨a, e, h⟩ := h
    exact ⟨a, e, bels_rel cs _ c h⟩
  | .bool _, _, _, h | .int _ _, _, _, h | .str _, _, _, h | .nilp, _, _, h | .nilm, _, _, h | .nilf, _, _, h | .nili, _, _, h => by simpa only [VRel] using h
  | .junk, _, _, _ => by simp only [VRel]
theorem bels_rel {n : Nat} {m : Mp} {ro : Nat → Prop} {w : World} : ∀ (as : List AV) (vs : List Value), bels n as → VsRel m ro w as vs → VsRel (belM n m) ro w as vs
  | [], vs, _, h => by simpa only [VsRel] using h
  | a :: as, vs, c, h => by
    simp only [VsRel, bels] at h c ⊢
    obtain ⟨v, vs', e, h1, h2⟩ := h
    exact ⟨v, vs', e, AV.bel_rel a v c.1 h1, bels_rel as vs' c.2 h2⟩
theorem bels_cells {n : Nat} {m : Mp} {ro : Nat → Prop} {w : World} : ∀ (cs : List AV) (cb off : Nat), bels n cs → CsRel m ro w cs cb off → CsRel (belM n m) ro w cs cb off
  | [], _, _, _, _ => by simp only [CsRel]
  | a :: as, cb, off, c, h => by
    simp only [CsRel, bels] at h c ⊢
    obtain ⟨h1, ⟨v, hv, ho, h2⟩, h3⟩ := h
    exact ⟨h1, ⟨v, hv, ho, AV.bel_rel a v c.1 h2⟩, bels_cells as cb (off + 1) c.2 h3⟩
end

def Blk.bel (n : Nat) : Blk → Prop
  | .cells _ cs => bels n cs
  | .fro _ cs => bels n cs
  | _ => True

def frBel (n : Nat) : List (Nat × AV) → Prop
  | [] => True
  | (_, v) :: l => v.bel n ∧ frBel n l
def blksBel (n : Nat) : List Blk → Prop
  | [] => True
  | x :: l => x.bel n ∧ blksBel n l

theorem blksBel_get {n : Nat} : ∀ {H : List Blk} {b : Nat} {x : Blk}, blksBel n H → H[b]? = some x → x.bel n
  | y :: H, 0, x, h, hb => by simp at hb; subst hb; exact h.1
  | y :: H, b + 1, x, h, hb => blksBel_get h.2 (by simpa using hb)

theorem fr_bel {n : Nat} : ∀ {l : List (Nat × AV)}, frBel n l → ∀ t, (fr l t).bel n
  | [], _, t => by simp only [fr, AV.bel]
  | (t', v) :: l, h, t => by
    simp only [fr, upd]
    cases Nat.beq t t'
    · exact fr_bel h.2 t
    · exact h.1

theorem Ent.drop {nt : Fr} {l : List (Nat × AV)} {H X : List Blk} (hk : nt.k ≤ H.length) (hl : frBel H.length l) (hH : blksBel H.length H) : Ent nt (Tab.fr l) (H ++ X) (Tab.fr l) H := by
  rintro c a w ⟨m, ro, hi, hst, hsl, hsz, hd⟩
  have hlk : ∀ b x, lk H b = some x → lk (H ++ X) b = some x ∧ b < H.length := fun b x h => by
    have hb := (List.getElem?_eq_some_iff.1 (show H[b]? = some x from h)).1
    exact ⟨by simp only [lk, List.getElem?_append_left hb]; exact h, hb⟩
  have hle : ∀ b g loc, belM H.length m b g = some loc → b < H.length ∧ m b g = some loc := fun b g loc h => by
    unfold belM at h
    split at h
    · exact ⟨by assumption, h⟩
    · simp at h
  have hmw : ∀ cb, MW (belM H.length m) (lk H) cb → MW m (lk (H ++ X)) cb := by
    rintro cb ⟨b, x, g, base, h1, h2, h3⟩
    exact ⟨b, x, g, base, (hlk b x h1).1, h2, (hle _ _ _ h3).2⟩
  refine ⟨belM H.length m, ro, ⟨⟨hi.inv.ro_lt, ?_, ?_, fun cb h => hi.inv.excl cb (hmw cb h), ?_, hi.inv.glob.any⟩, fun b g loc h => (hle b g loc h).1⟩,
    ⟨fun b g loc h => ?_, hst.size, hst.os, hst.out, hst.tape, hst.kept, hst.shape, fun cb h => hst.mw cb (hmw cb h), hst.ro_le, hst.ro_new⟩, fun t => AV.bel_rel _ _ (fr_bel hl t) (hsl t), hsz, hd⟩
  · intro b x h
    obtain ⟨h', hb⟩ := hlk b x h
    have hr := hi.inv.blk b x h'
    have hx := blksBel_get hH (show H[b]? = some x from h)
    cases x with
    | cells g cs =>
      intro loc hloc
      rw [belM_lt hb] at hloc
      have hr := hr loc hloc
      cases loc with
      | void => exact hr
      | «at» cb base =>
        obtain ⟨cc, t, h1, hlay⟩ := hr
        refine ⟨cc, t, h1, fun i a hia => ?_⟩
        obtain ⟨v, hv, ho, hrel⟩ := hlay i a hia
        exact ⟨v, hv, ho, AV.bel_rel a v (bels_iff.1 hx a (List.mem_of_getElem? hia)) hrel⟩
    | fro g cs =>
      intro loc hloc
      rw [belM_lt hb] at hloc
      have hr := hr loc hloc
      cases loc with
      | void => exact hr
      | «at» cb base => exact bels_cells cs cb base hx hr
    | siter s pos =>
      intro loc hloc
      rw [belM_lt hb] at hloc
      exact hr loc hloc
    | dict es =>
      intro loc hloc
      rw [belM_lt hb] at hloc
      exact hr loc hloc
    | dead => trivial
  · intro b b' x x' g g' cb base base' h1 h2 k1 k2 l1 l2
    exact hi.inv.inj b b' x x' g g' cb base base' (hlk b x h1).1 (hlk b' x' h2).1 k1 k2 (hle _ _ _ l1).2 (hle _ _ _ l2).2
  · intro b x g h1 h2 g' loc h3
    exact hi.inv.gen b x g (hlk b x h1).1 h2 g' loc (hle _ _ _ h3).2
  · rw [belM_lt (Nat.lt_of_lt_of_le (c.kb b g loc h) hk)]
    exact hst.mle b g loc h

theorem Ent.frD {nt : Fr} {s : Slots} {H : List Blk} {l : List (Nat × AV)} {H' X : List Blk} (h : frOk s l) (e : H = H' ++ X) (hk : nt.k ≤ H'.length) (hl : frBel H'.length l) (hH : blksBel H'.length H') : Ent nt s H (Tab.fr l) H' :=
  (Ent.fr' h e).trans (Ent.drop hk hl hH)


mutual
inductive Rd (H : List Blk) : AV → AV → Prop
  | refl (a : AV) : Rd H a a
  | hs {b g o n es blk cs cs'} (hb : H[b]? = some blk) (hr : blk.rd = some (g, cs)) (hfit : o + n * es ≤ cs.length) (h : Rds H ((cs.drop o).take (n * es)) cs') : Rd H (.hs b g o n es) (.sl .any n cs')
  | agg {cs cs'} (h : Rds H cs cs') : Rd H (.agg cs) (.agg cs')
  | tup {cs cs'} (h : Rds H cs cs') : Rd H (.tup cs) (.tup cs')
inductive Rds (H : List Blk) : List AV → List AV → Prop
  | nil : Rds H [] []
  | cons {a a' as as'} (h : Rd H a a') (t : Rds H as as') : Rds H (a :: as) (a' :: as')
end

theorem Rds.refl {H : List Blk} : ∀ (l : List AV), Rds H l l
  | [] => .nil
  | a :: l => .cons (.refl a) (.refl l)

theorem Rd.whole {H : List Blk} {b g n es : Nat} {cs : List AV} (hb : H[b]? = some (.cells g cs)) (hn : n * es = cs.length) : Rd H (.hs b g 0 n es) (.sl .any n cs) :=
  .hs hb rfl (by omega) (by rw [List.drop_zero, hn, List.take_length]; exact Rds.refl cs)
theorem Rd.frozen {H : List Blk} {b g n es : Nat} {cs : List AV} (hb : H[b]? = some (.fro g cs)) (hn : n * es = cs.length) : Rd H (.hs b g 0 n es) (.sl .any n cs) :=
  .hs hb rfl (by omega) (by rw [List.drop_zero, hn, List.take_length]; exact Rds.refl cs)

theorem Rds.of_get {H : List Blk} : ∀ {l l' : List AV}, l.length = l'.length → (∀ (i : Nat) (a a' : AV), l[i]? = some a → l'[i]? = some a' → Rd H a a') → Rds H l l'
  | [], [], _, _ => .nil
  | a :: l, a' :: l', hl, h => .cons (h 0 a a' rfl rfl) (.of_get (by simpa using hl) fun i x y hx hy => h (i + 1) x y (by simpa using hx) (by simpa using hy))
  | [], _ :: _, hl, _ => by simp at hl
  | _ :: _, [], hl, _ => by simp at hl

theorem Rds.length {H : List Blk} : ∀ {l l' : List AV}, Rds H l l' → l.length = l'.length
  | [], _, .nil => rfl
  | _ :: _, _, .cons _ t => by simp [t.length]

theorem Rds.get {H : List Blk} : ∀ {l l' : List AV}, Rds H l l' → ∀ {i : Nat} {a a' : AV}, l[i]? = some a → l'[i]? = some a' → Rd H a a'
  | _ :: _, _, .cons h t, 0, a, a', ha, ha' => by
    simp at ha ha'; subst ha; subst ha'; exact h
  | _ :: _, _, .cons h t, i + 1, a, a', ha, ha' => t.get (by simpa using ha) (by simpa using ha')
  | [], _, .nil, _, _, _, ha, _ => by simp at ha

def AV.scal : AV → Bool
  | .bool _ | .int _ _ | .str _ | .nilp => true
  | _ => false

def scalR : AV → Bool
  | .tup vs => vs.all AV.scal
  | a => a.scal

theorem scal_rel {m ro w m' ro' w'} {a : AV} {v : Value} (h : VRel m ro w a v) (hs : a.scal = true) : VRel m' ro' w' a v := by
  cases a <;> simp only [AV.scal, Bool.false_eq_true] at hs <;> simpa only [VRel] using h

theorem scalR_rel {m ro w m' ro' w'} {a : AV} {v : Value} (h : VRel m ro w a v) (hs : scalR a = true) : VRel m' ro' w' a v := by
  cases a with
  | tup vs =>
    simp only [scalR, List.all_eq_true] at hs
    simp only [VRel] at h ⊢
    obtain ⟨c, e, h⟩ := h
    exact ⟨c, e, VsRel.of_get h.length fun i a v ha hv => by
      obtain ⟨v', hv', hr⟩ := h.get ha
      rw [hv] at hv'
      cases hv'
      exact scal_rel hr (hs a (List.mem_of_getElem? ha))⟩
  | _ => exact scal_rel h hs

theorem keep_ro {H m ro w} (a : AV) (v : Value) (h : VRel m ro w a v) : VRel m (fun cb => ro cb ∨ MW m (lk H) cb) w a v :=
  VRel.keep (fun _ _ _ h => h) (fun cb c t fr h => ⟨c, h, rfl⟩) (fun _ h => .inl h) (fun _ _ => rfl) a v h

mutual
theorem Rd.rel {H m ro w} (hi : InvL m ro H w) : ∀ {a a' : AV}, Rd H a a' → ∀ {v : Value}, VRel m ro w a v → VRel m (fun cb => ro cb ∨ MW m (lk H) cb) w a' v
  | _, _, .refl a, v, h => keep_ro a v h
  | _, _, .hs (b := b) (g := g) (o := o) (n := n) (es := es) (blk := blk) (cs := cs) (cs' := cs') hb hr hfit hd, v, h1 => by
      have hlen := hd.length
      have hrel := fun (i : Nat) (a a' : AV) (ha : ((cs.drop o).take (n * es))[i]? = some a) (ha' : cs'[i]? = some a') (v : Value) (hv : VRel m ro w a v) => Rds.rel1 hi hd i a a' ha ha' v hv
      simp only [VRel] at h1 ⊢
      obtain ⟨loc, hm, hh⟩ := h1
      cases loc with
      | void =>
        simp only [HsRel] at hh
        obtain ⟨rfl, rfl, rfl⟩ := hh
        refine .inl ⟨by simp, rfl, rfl, List.length_eq_zero_iff.1 ?_⟩
        rw [← hlen]; simp
      | «at» cb base =>
        simp only [HsRel] at hh
        obtain ⟨cap, rfl, hle, _⟩ := hh
        refine .inr ⟨by simp, _, cap, rfl, hle, by simp, .inr ⟨rfl, ?_⟩⟩
        show CsRel _ _ _ _ cb (base + o)
        have hbr := hi.inv.blk b _ hb
        cases blk with
        | cells g' cs₁ =>
          simp only [Blk.rd, Option.some.injEq, Prod.mk.injEq] at hr
          obtain ⟨rfl, rfl⟩ := hr
          obtain ⟨c, t, hc, hlay⟩ := hbr _ hm
          rw [CsRel_iff]
          intro i a' hia'
          have hlt : i < ((cs₁.drop o).take (n * es)).length := by rw [hlen]; exact (List.getElem?_eq_some_iff.1 hia').1
          obtain ⟨v, hv, ho, hr⟩ := ((hlay.drop o).take (n * es)) i _ (List.getElem?_eq_getElem hlt)
          exact ⟨.inr ⟨b, _, g', base, hb, rfl, hm⟩, v, by simp only [World.cell?, hc]; simpa using hv, ho, hrel i _ a' (List.getElem?_eq_getElem hlt) hia' v hr⟩
        | fro g' cs₁ =>
          simp only [Blk.rd, Option.some.injEq, Prod.mk.injEq] at hr
          obtain ⟨rfl, rfl⟩ := hr
          have hcs := (CsRel.drop (hbr _ hm) o).take (n * es)
          rw [CsRel_iff] at hcs ⊢
          intro i a' hia'
          have hlt : i < ((cs₁.drop o).take (n * es)).length := by rw [hlen]; exact (List.getElem?_eq_some_iff.1 hia').1
          obtain ⟨hro, v, hv, ho, hr⟩ := hcs i _ (List.getElem?_eq_getElem hlt)
          exact ⟨.inl hro, v, hv, ho, hrel i _ a' (List.getElem?_eq_getElem hlt) hia' v hr⟩
        | siter _ _ => simp [Blk.rd] at hr
        | dict _ => simp [Blk.rd] at hr
        | dead => simp [Blk.rd] at hr
  | _, _, .agg (cs := cs) (cs' := cs') hd, v, h1 => by
      have hlen := hd.length
      have hrel := fun (i : Nat) (a a' : AV) (ha : cs[i]? = some a) (ha' : cs'[i]? = some a') (v : Value) (hv : VRel m ro w a v) => Rds.rel1 hi hd i a a' ha ha' v hv
      simp only [VRel] at h1 ⊢
      obtain ⟨c, rfl, ho, hv⟩ := h1
      refine ⟨c, rfl, ho, VsRel.of_get (by rw [← hlen, hv.length]) fun i a' u ha' hu => ?_⟩
      have hlt : i < cs.length := by rw [hlen]; exact (List.getElem?_eq_some_iff.1 ha').1
      obtain ⟨u', hu', hr⟩ := hv.get (List.getElem?_eq_getElem hlt)
      rw [hu] at hu'
      cases hu'
      exact hrel i _ a' (List.getElem?_eq_getElem hlt) ha' u hr
  | _, _, .tup (cs := cs) (cs' := cs') hd, v, h1 => by
      have hlen := hd.length
      have hrel := fun (i : Nat) (a a' : AV) (ha : cs[i]? = some a) (ha' : cs'[i]? = some a') (v : Value) (hv : VRel m ro w a v) => Rds.rel1 hi hd i a a' ha ha' v hv
      simp only [VRel] at h1 ⊢
      obtain ⟨c, rfl, hv⟩ := h1
      refine ⟨c, rfl, VsRel.of_get (by rw [← hlen, hv.length]) fun i a' u ha' hu => ?_⟩
      have hlt : i < cs.length := by rw [hlen]; exact (List.getElem?_eq_some_iff.1 ha').1
      obtain ⟨u', hu', hr⟩ := hv.get (List.getElem?_eq_getElem hlt)
      rw [hu] at hu'
      cases hu'
      exact hrel i _ a' (List.getElem?_eq_getElem hlt) ha' u hr
theorem Rds.rel1 {H m ro w} (hi : InvL m ro H w) : ∀ {as as' : List AV}, Rds H as as' → ∀ (i : Nat) (a a' : AV), as[i]? = some a → as'[i]? = some a' → ∀ (v : Value), VRel m ro w a v → VRel m (fun cb => ro cb ∨ MW m (lk H) cb) w a' v
  | _, _, .nil, i, a, a', ha, _, _, _ => by simp at ha
  | _, _, .cons h t, 0, a, a', ha, ha', v, hv => by
    simp at ha ha'; subst ha; subst ha'
    exact Rd.rel hi h hv
  | _, _, .cons h t, i + 1, a, a', ha, ha', v, hv => Rds.rel1 hi t i a a' (by simpa using ha) (by simpa using ha') v hv
end

theorem Rds.rel {H m ro w} (hi : InvL m ro H w) {as as' : List AV} (h : Rds H as as') {vs : List Value} (hv : VsRel m ro w as vs) : VsRel m (fun cb => ro cb ∨ MW m (lk H) cb) w as' vs :=
  VsRel.of_get (by rw [← h.length, hv.length]) fun i a' u ha' hu => by
    have hlt : i < as.length := by rw [h.length]; exact (List.getElem?_eq_some_iff.1 ha').1
    obtain ⟨u', hu', hr⟩ := hv.get (List.getElem?_eq_getElem hlt)
    rw [hu] at hu'
    cases hu'
    exact Rds.rel1 hi h i _ a' (List.getElem?_eq_getElem hlt) ha' u hr

theorem Pure.borrow {P f args v} (h : Pure P f args v) (hv : scalR v = true) {H : List Blk} {as : List AV} (hr : Rds H as args) : ACall P f as H fun o H' => o = .ret v ∧ H' = H := by
  refine ⟨h.call.1, fun m ro w cargs hi hx => ?_⟩
  have hro : ∀ cb, (ro cb ∨ MW m (lk H) cb) → cb < w.heap.size := fun cb h => h.elim (hi.inv.ro_lt cb) hi.inv.mw_lt
  refine (h.call.2 m₀ _ w cargs (Inv.empty hro (hi.inv.glob.more fun _ h => .inl h).any) (closeds_rel args _ h.cargs (hr.rel hi hx))).mono ?_
  rintro e w' ⟨m', ro', out, H', ⟨rfl, rfl⟩, hout, hi', hst⟩
  have hk : ∀ cb, cb < w.heap.size → w'.heap[cb]? = w.heap[cb]? := fun cb hlt => hst.kept cb hlt MW.empty
  have hst' : Step m ro (lk H) w m ro (lk H) w' :=
    ⟨fun _ _ _ h => h, hst.size, hst.os, hst.out, hst.tape, fun cb hlt _ => hk cb hlt, hst.shape, fun _ h => .inl h, fun _ h => h, fun cb h => .inl h⟩
  refine ⟨m, ro, .ret v, H, ⟨rfl, rfl⟩, ?_, ⟨⟨fun cb h => Nat.lt_of_lt_of_le (hi.inv.ro_lt cb h) hst.size, ?_, hi.inv.inj, hi.inv.excl, hi.inv.gen, fun g => VRel.keep (fun _ _ _ h => h) hst.shape (fun _ h => h) (fun cb h => hk cb (hi.inv.ro_lt cb h)) _ _ (hi.inv.glob g)⟩, hi.bound⟩, hst'⟩
  · cases e with
    | returned u => exact scalR_rel hout hv
    | panicked _ => exact hout.elim
    | outgrown => exact hout.elim
  · intro b x hx
    refine BlkRel.keep (fun _ _ _ h => h) hst.shape (fun _ h => h) (fun cb h => hk cb (hi.inv.ro_lt cb h)) (fun _ => rfl) (fun g cb base h1 h2 => hk cb (hi.inv.own_lt hx h1 h2)) (hi.inv.blk b x hx)

end Tab

/- Functions that answer new memory: what they make from an empty heap, they make at the end of any other. -/
namespace Tab
open Go
variable [Globs]

mutual
def AV.sh (k : Nat) : AV → AV
  | .ref b g o => .ref (b + k) g o
  | .hs b g o n es => .hs (b + k) g o n es
  | .mp b => .mp (b + k)
  | .tref cs => .tref (shs k cs)
  | .sl s n cs => .sl s n (shs k cs)
  | .fn f a b => .fn f (shs k a) (shs k b)
  | .ifc t v => .ifc t (v.sh k)
  | .agg cs => .agg (shs k cs)
  | .tup cs => .tup (shs k cs)
  | .bool b => .bool b
  | .int i n => .int i n
  | .str s => .str s
  | .nilp => .nilp
  | .nilm => .nilm
  | .nilf => .nilf
  | .nili => .nili
  | .junk => .junk
def shs (k : Nat) : List AV → List AV
  | [] => []
  | a :: as => a.sh k :: shs k as
end

theorem shs_get {k : Nat} : ∀ {as : List AV} {i : Nat} {a : AV}, (shs k as)[i]? = some a → ∃ x, as[i]? = some x ∧ a = x.sh k
  | [], i, a, h => by simp [shs] at h
  | x :: as, 0, a, h => by simp [shs] at h; exact ⟨x, rfl, h.symm⟩
  | x :: as, i + 1, a, h => by simp only [shs, List.getElem?_cons_succ] at h; exact shs_get (as := as) h

mutual
theorem AV.closed_sh {k : Nat} : ∀ (a : AV), a.closed → a.sh k = a
  | .ref _ _ _, h | .hs _ _ _ _ _, h | .mp _, h => by simp only [AV.closed] at h
  | .tref cs, h | .sl _ _ cs, h | .agg cs, h | .tup cs, h => by simp only [AV.closed, AV.sh] at h ⊢; rw [closeds_sh cs h]
  | .fn _ a b, h => by simp only [AV.closed, AV.sh] at h ⊢; rw [closeds_sh a h.1, closeds_sh b h.2]
  | .ifc _ v, h => by simp only [AV.closed, AV.sh] at h ⊢; rw [AV.closed_sh v h]
  | .bool _, _ | .int _ _, _ | .str _, _ | .nilp, _ | .nilm, _ | .nilf, _ | .nili, _ | .junk, _ => by simp only [AV.sh]
theorem closeds_sh {k : Nat} : ∀ (as : List AV), closeds as → shs k as = as
  | [], _ => rfl
  | a :: as, h => by simp only [closeds, shs] at h ⊢; rw [AV.closed_sh a h.1, closeds_sh as h.2]
end

section
variable {m M : Mp} {ro : Nat → Prop} {w : World} {k : Nat} (hM : ∀ b g, M (b + k) g = m b g)
include hM
mutual
theorem AV.sh_rel : ∀ (a : AV) (v : Value), VRel m ro w a v → VRel M ro w (a.sh k) v
  | .bool _, _, h | .int _ _, _, h | .str _, _, h | .nilp, _, h | .nilm, _, h | .nilf, _, h | .nili, _, h => by simpa only [VRel, AV.sh] using h
  | .junk, _, _ => by simp only [VRel, AV.sh]
  | .ref b g o, v, h => by simp only [VRel, AV.sh] at h ⊢; rw [hM]; exact h
  | .hs b g o n es, v, h => by simp only [VRel, AV.sh] at h ⊢; rw [hM]; exact h
  | .mp b, v, h => by simp only [VRel, AV.sh] at h ⊢; rw [hM]; exact h
  | .tref cs, v, h => by
    simp only [VRel, AV.sh] at h ⊢
    obtain ⟨cb, off, e, h⟩ := h
    exact ⟨cb, off, e, shs_cells cs cb off h⟩
  | .sl s n cs, v, h => by
    simp only [VRel, AV.sh] at h ⊢
    rcases h with ⟨h1, h2, h3, h4⟩ | ⟨hk', ad, cap, e, hle, hf, h⟩
    · exact .inl ⟨h1, h2, h3, by rw [h4]; rfl⟩
    · exact .inr ⟨hk', ad, cap, e, hle, hf, h.imp (fun h => ⟨h.1, by rw [h.2]; rfl⟩) fun h => ⟨h.1, shs_cells cs _ _ h.2⟩⟩
  | .fn f first cap, v, h => by
    simp only [VRel, AV.sh] at h ⊢
    obtain ⟨a, b, e, h1, h2⟩ := h
    exact ⟨a, b, e, shs_rel first _ h1, shs_rel cap _ h2⟩
  | .ifc t x, v, h => by
    simp only [VRel, AV.sh] at h ⊢
    obtain ⟨y, e, h⟩ := h
    exact ⟨y, e, AV.sh_rel x y h⟩
  | .agg cs, v, h => by
    simp only [VRel, AV.sh] at h ⊢
    obtain ⟨a, e, ho, h⟩ := h
    exact ⟨a, e, ho, shs_rel cs _ h⟩
  | .tup cs, v, h => by
    simp only [VRel, AV.sh] at h ⊢
    obtain ⟨a, e, h⟩ := h
    exact ⟨a, e, shs_rel cs _ h⟩
theorem shs_rel : ∀ (as : List AV) (vs : List Value), VsRel m ro w as vs → VsRel M ro w (shs k as) vs
  | [], vs, h => by simpa only [VsRel, shs] using h
  | a :: as, vs, h => by
    simp only [VsRel, shs] at h ⊢
    obtain ⟨v, vs', e, h1, h2⟩ := h
    exact ⟨v, vs', e, AV.sh_rel a v h1, shs_rel as vs' h2⟩
theorem shs_cells : ∀ (cs : List AV) (cb off : Nat), CsRel m ro w cs cb off → CsRel M ro w (shs k cs) cb off
  | [], _, _, _ => by simp only [CsRel, shs]
  | a :: as, cb, off, h => by
    simp only [CsRel, shs] at h ⊢
    obtain ⟨h1, ⟨v, hv, ho, h2⟩, h3⟩ := h
    exact ⟨h1, ⟨v, hv, ho, AV.sh_rel a v h2⟩, shs_cells as cb (off + 1) h3⟩
end
end

def Blk.sh (k : Nat) : Blk → Blk
  | .cells g cs => .cells g (shs k cs)
  | .fro g cs => .fro g (shs k cs)
  | .siter s p => .siter s p
  | .dict es => .dict es
  | .dead => .dead

theorem Blk.sh_own (k : Nat) (x : Blk) : (x.sh k).own = x.own := by cases x <;> rfl

theorem BlkRel.sh {m M : Mp} {ro : Nat → Prop} {w : World} {k b : Nat} (hM : ∀ b g, M (b + k) g = m b g) {x : Blk} (h : BlkRel m ro w b x) : BlkRel M ro w (b + k) (x.sh k) := by
  cases x with
  | cells g cs =>
    intro loc hl
    rw [hM] at hl
    have h := h loc hl
    cases loc with
    | void => simp only at h ⊢; rw [h]; rfl
    | «at» cb base =>
      obtain ⟨c, t, hc, hlay⟩ := h
      refine ⟨c, t, hc, fun i a hia => ?_⟩
      obtain ⟨x, hx, rfl⟩ := shs_get hia
      obtain ⟨v, hv, ho, hr⟩ := hlay i x hx
      exact ⟨v, hv, ho, AV.sh_rel hM x v hr⟩
  | fro g cs =>
    intro loc hl
    rw [hM] at hl
    have h := h loc hl
    cases loc with
    | void => simp only at h ⊢; rw [h]; rfl
    | «at» cb base => exact shs_cells hM cs cb base h
  | siter s p =>
    intro loc hl
    rw [hM] at hl
    exact h loc hl
  | dict es =>
    intro loc hl
    rw [hM] at hl
    exact h loc hl
  | dead => trivial

theorem ACall.shift {P : Program} {f : FuncId} {args : List AV} {R : Out → List Blk → Prop} (hc : closeds args) (h : ACall P f args [] R) (H : List Blk) :
    ACall P f args H fun o H' => ∃ v X, R (.ret v) X ∧ o = .ret (v.sh H.length) ∧ H' = H ++ X.map (Blk.sh H.length) ∨ R .pan X ∧ o = .pan ∧ H' = H ++ X.map (Blk.sh H.length) := by
  refine ⟨h.1, fun m ro w cargs hi hx => ?_⟩
  refine (h.2 m₀ ro w cargs (Inv.empty hi.inv.ro_lt hi.inv.glob.any) (closeds_rel args _ hc hx)).mono ?_
  rintro e w' ⟨m', ro', out, X, hR, hout, hi', hst⟩
  have hk : ∀ cb, cb < w.heap.size → w'.heap[cb]? = w.heap[cb]? := fun cb hlt => hst.kept cb hlt MW.empty
  have hro : ∀ cb, ro' cb → ro cb ∨ w.heap.size ≤ cb := fun cb h => by
    rcases hst.ro_new cb h with h | h | h
    · exact .inl h
    · exact (MW.empty h).elim
    · exact .inr h
  have hnew : ∀ cb, MW m' (lk X) cb → w.heap.size ≤ cb := fun cb h => by
    rcases hst.mw cb h with h | h
    · exact (MW.empty h).elim
    · exact h
  let M : Mp := fun b g => if b < H.length then m b g else m' (b - H.length) g
  have hM : ∀ b g, M (b + H.length) g = m' b g := fun b g => by
    show (if b + H.length < H.length then _ else _) = _
    rw [if_neg (by omega), Nat.add_sub_cancel]
  have hMl : ∀ b g, b < H.length → M b g = m b g := fun b g hb => if_pos hb
  have hmM : ∀ b g loc, m b g = some loc → M b g = some loc := fun b g loc h => by
    rw [hMl b g (hi.bound b g loc h)]; exact h
  have hlk : ∀ b x, lk (H ++ X.map (Blk.sh H.length)) b = some x → (b < H.length ∧ lk H b = some x) ∨ ∃ b' y, b = b' + H.length ∧ lk X b' = some y ∧ x = y.sh H.length := fun b x h => by
    by_cases hb : b < H.length
    · simp only [lk, List.getElem?_append_left hb] at h
      exact .inl ⟨hb, h⟩
    · simp only [lk, List.getElem?_append_right (Nat.le_of_not_lt hb), List.getElem?_map, Option.map_eq_some_iff] at h
      obtain ⟨y, hy, rfl⟩ := h
      exact .inr ⟨b - H.length, y, by omega, hy, rfl⟩
  have hmw : ∀ cb, MW M (lk (H ++ X.map (Blk.sh H.length))) cb → MW m (lk H) cb ∨ MW m' (lk X) cb := by
    rintro cb ⟨b, x, g, base, h1, h2, h3⟩
    rcases hlk b x h1 with ⟨hb, h⟩ | ⟨b', y, rfl, hy, rfl⟩
    · rw [hMl b g hb] at h3
      exact .inl ⟨b, x, g, base, h, h2, h3⟩
    · rw [hM] at h3
      rw [Blk.sh_own] at h2
      exact .inr ⟨b', y, g, base, hy, h2, h3⟩
  have hrel : ∀ a v, VRel m' ro' w' a v → VRel M ro' w' (a.sh H.length) v := AV.sh_rel hM
  have hinv : InvL M ro' (H ++ X.map (Blk.sh H.length)) w' := by
    refine ⟨⟨hi'.inv.ro_lt, ?_, ?_, ?_, ?_, hi'.inv.glob.any⟩, ?_⟩
    · intro b x hx
      rcases hlk b x hx with ⟨hb, h⟩ | ⟨b', y, rfl, hy, rfl⟩
      · exact BlkRel.keep hmM hst.shape hst.ro_le (fun cb h => hk cb (hi.inv.ro_lt cb h)) (fun g => hMl b g hb) (fun g cb base h1 h2 => hk cb (hi.inv.own_lt h h1 h2)) (hi.inv.blk b x h)
      · exact BlkRel.sh hM (hi'.inv.blk b' y hy)
    · intro b b' x x' g g' cb base base' h1 h2 k1 k2 l1 l2
      rcases hlk b x h1 with ⟨hb, h⟩ | ⟨c, y, rfl, hy, rfl⟩ <;> rcases hlk b' x' h2 with ⟨hb', h'⟩ | ⟨c', y', rfl, hy', rfl⟩
      · rw [hMl _ _ hb] at l1; rw [hMl _ _ hb'] at l2
        exact hi.inv.inj b b' x x' g g' cb base base' h h' k1 k2 l1 l2
      · rw [hMl _ _ hb] at l1; rw [hM] at l2; rw [Blk.sh_own] at k2
        have := hi.inv.own_lt h k1 l1
        have := hnew cb ⟨c', y', g', base', hy', k2, l2⟩
        omega
      · rw [hMl _ _ hb'] at l2; rw [hM] at l1; rw [Blk.sh_own] at k1
        have := hi.inv.own_lt h' k2 l2
        have := hnew cb ⟨c, y, g, base, hy, k1, l1⟩
        omega
      · rw [hM] at l1 l2; rw [Blk.sh_own] at k1 k2
        rw [hi'.inv.inj c c' y y' g g' cb base base' hy hy' k1 k2 l1 l2]
    · intro cb hm hr
      rcases hmw cb hm with h | h
      · rcases hro cb hr with h' | h'
        · exact hi.inv.excl cb h h'
        · have := hi.inv.mw_lt h; omega
      · exact hi'.inv.excl cb h hr
    · intro b x g h1 h2 g' loc h3
      rcases hlk b x h1 with ⟨hb, h⟩ | ⟨c, y, rfl, hy, rfl⟩
      · rw [hMl _ _ hb] at h3
        exact hi.inv.gen b x g h h2 g' loc h3
      · rw [hM] at h3; rw [Blk.sh_own] at h2
        exact hi'.inv.gen c y g hy h2 g' loc h3
    · intro b g loc h
      rw [List.length_append, List.length_map]
      by_cases hb : b < H.length
      · omega
      · have h : m' (b - H.length) g = some loc := by
          have : M b g = m' (b - H.length) g := if_neg hb
          rw [← this]; exact h
        have := hi'.bound _ _ _ h
        omega
  have hstep : Step m ro (lk H) w M ro' (lk (H ++ X.map (Blk.sh H.length))) w' :=
    ⟨hmM, hst.size, hst.os, hst.out, hst.tape, fun cb hlt _ => hk cb hlt, hst.shape, fun cb h => (hmw cb h).imp id (hnew cb), hst.ro_le, fun cb h => (hro cb h).imp id .inr⟩
  cases out with
  | ret v =>
    cases e with
    | returned u => exact ⟨M, ro', .ret (v.sh H.length), _, ⟨v, X, .inl ⟨hR, rfl, rfl⟩⟩, hrel v u hout, hinv, hstep⟩
    | panicked _ => exact hout.elim
    | outgrown => exact hout.elim
  | pan => exact ⟨M, ro', .pan, _, ⟨.junk, X, .inr ⟨hR, rfl, rfl⟩⟩, (by cases e <;> exact hout), hinv, hstep⟩


structure RetE (P : Program) (nt : Fr) (rs : List ResultVar) (R : Out → List Blk → Prop) (s : Slots) (H : List Blk) : Prop where
  out : ∃ s' H' v, Ent nt s H s' H' ∧ resA P rs s' H' = some v ∧ R (.ret v) H'
def retK (P : Program) (nt : Fr) (rs : List ResultVar) (R : Out → List Blk → Prop) : Post := fun e s H => match e with
  | .ret => RetE P nt rs R s H
  | .normal => RetE P nt rs R s H
  | .pan => ∃ s' H', Ent nt s H s' H' ∧ R .pan H'
  | _ => False

theorem ACall.of_sw {P : Program} {f : FuncId} {fn : Func} {code : Code} {args : List AV} {H₀ : List Blk} {R : Out → List Blk → Prop} (nt : Nat) (hf : P.funcs[f]? = some fn) (hb : fn.body = some code) (hn : fn.ntmps = nt) (hc : callable P f = true)
    (hargs : args.length ≤ nt) (h : SW P ⟨nt, H₀.length⟩ code (argS args) H₀ (retK P ⟨nt, H₀.length⟩ fn.results.toList R)) : ACall P f args H₀ R := by
  refine ⟨hc, fun m ro w cargs hi hx => ?_⟩
  subst hn
  refine calls_of_wp hf hb (wp_mono (h ⟨⟨m, ro, H₀, w, []⟩, fun b g loc hm => hi.bound b g loc hm⟩ { tmps := cargs ++ Array.replicate (fn.ntmps - cargs.size) undef, defers := [] } w ⟨m, ro, hi, Step.refl .., argS_rel hx _, ?_, rfl⟩) ?_)
  · have := hx.length
    simp only [Array.length_toList] at this
    simp only [Array.size_append, Array.size_replicate]
    omega
  · rintro e a w' ⟨ae, s, H, he, hr, hk⟩
    have fin : (∃ s' H' v, Ent ⟨fn.ntmps, H₀.length⟩ s H s' H' ∧ resA P fn.results.toList s' H' = some v ∧ R (.ret v) H') → a.defers = [] ∧ ∃ u, (results fn a.tmps).run P w' = .ok u w' ∧ ∃ m' ro' out H', R out H' ∧ OutRel m' ro' w' out (.returned u) ∧ InvL m' ro' H' w' ∧ Step m ro (lk H₀) w m' ro' (lk H') w' := by
      rintro ⟨s', H', v, hent, hres, hR⟩
      obtain ⟨m', ro', hi', hst, hsl, hsz, hd⟩ := hent ⟨⟨m, ro, H₀, w, []⟩, fun b g loc hm => hi.bound b g loc hm⟩ _ _ hr
      obtain ⟨u, hu, hv⟩ := resA_run hi' hsl hres
      exact ⟨hd, u, hu, m', ro', .ret v, H', hR, hv, hi', hst⟩
    cases ae <;> cases e <;> simp only [ExitRel] at he <;> first
      | exact hk.elim
      | exact fin hk.out
      | skip
    obtain ⟨s', H', hent, hR⟩ := hk
    obtain ⟨m', ro', hi', hst, hsl, hsz, hd⟩ := hent ⟨⟨m, ro, H₀, w, []⟩, fun b g loc hm => hi.bound b g loc hm⟩ _ _ hr
    refine ⟨hd, m', ro', .pan, H', hR, ?_, hi', hst⟩
    exact he

theorem Pure.of_acall {P : Program} {f : FuncId} {args : List AV} {R : Out → List Blk → Prop} {v : AV} (ca : closeds args) (cv : v.closed) (h : ACall P f args [] R)
    (hR : ∀ o H', R o H' → ∃ u, o = .ret u ∧ Ent ⟨1, 0⟩ (fr [(0, u)]) H' (fr [(0, v)]) []) : Pure P f args v := by
  refine ⟨ca, cv, h.1, fun m ro w cargs hi hx => ?_⟩
  refine (h.2 m ro w cargs hi hx).mono ?_
  rintro e w' ⟨m', ro', out, H', hRo, hout, hi', hst⟩
  obtain ⟨u, rfl, hent⟩ := hR out H' hRo
  cases e with
  | returned x =>
    obtain ⟨m₂, ro₂, hi₂, hst₂, hsl, _, _⟩ := hent ⟨⟨m, ro, [], w, []⟩, fun b g loc hm => by have := hi.bound b g loc hm; simp at this⟩ { tmps := #[x], defers := [] } w'
      ⟨m', ro', hi', hst, fun t => by
        cases t with
        | zero => exact hout
        | succ t => simp only [fr, upd, Nat.beq, cond_false, VRel], rfl, rfl⟩
    exact ⟨m₂, ro₂, .ret v, [], ⟨rfl, rfl⟩, hsl 0, hi₂, hst₂⟩
  | panicked _ => exact hout.elim
  | outgrown => exact hout.elim

theorem callS {P : Program} {f : FuncId} {args : List AV} {H : List Blk} {R Y : Out → List Blk → Prop} (hc : closeds args) (h : ACall P f args [] R) (hp : ∀ X, ¬ R .pan X)
    (k : ∀ v X, R (.ret v) X → Y (.ret (v.sh H.length)) (H ++ X.map (Blk.sh H.length))) : ∃ R : Out → List Blk → Prop, ACall P f args H R ∧ ∀ o H', R o H' → Y o H' :=
  ⟨_, h.shift hc H, by
    rintro o H' ⟨v, X, ⟨h1, rfl, rfl⟩ | ⟨h1, _⟩⟩
    · exact k v X h1
    · exact (hp X h1).elim⟩


structure PureNew (P : Program) (f : FuncId) (args : List AV) (N es : Nat) (cs : List AV) : Prop where
  cargs : closeds args
  ccs : closeds cs
  call : ACall P f args [] fun o H' => ∃ g, o = .ret (.hs 0 g 0 N es) ∧ H' = [.cells g cs]

theorem new_core {m ro w m' ro' w' n g N es} {H : Hp} {cs : List AV} {v : Value} (hi : Inv m ro H w) (hn : H n = none) (hnm : ∀ g, m n g = none) (cc : closeds cs) (hi' : InvL m' ro' [.cells g cs] w') (hst : Step m₀ ro (lk []) w m' ro' (lk [.cells g cs]) w')
    (hv : VRel m' ro' w' (.hs 0 g 0 N es) v) : ∃ M, VRel M ro' w' (.hs n 0 0 N es) v ∧ Inv M ro' (fun b => if b = n then some (.cells 0 cs) else H b) w' ∧
      Step m ro H w M ro' (fun b => if b = n then some (.cells 0 cs) else H b) w' ∧ ∀ b g, M b g ≠ m b g → b = n := by
  have hk : ∀ cb, cb < w.heap.size → w'.heap[cb]? = w.heap[cb]? := fun cb hlt => hst.kept cb hlt MW.empty
  have hro : ∀ cb, ro' cb → ro cb ∨ w.heap.size ≤ cb := fun cb h => by
    rcases hst.ro_new cb h with h | h | h
    · exact .inl h
    · exact (MW.empty h).elim
    · exact .inr h
  have hnew : ∀ cb, MW m' (lk [.cells g cs]) cb → w.heap.size ≤ cb := fun cb h => by
    rcases hst.mw cb h with h | h
    · exact (MW.empty h).elim
    · exact h
  let M : Mp := fun b g₁ => if b = n then (if g₁ = 0 then m' 0 g else none) else m b g₁
  have hMn : M n 0 = m' 0 g := by show (if n = n then _ else _) = _; simp
  have hMo : ∀ b g₁, b ≠ n → M b g₁ = m b g₁ := fun b g₁ h => if_neg h
  have hMs : ∀ g₁ loc, M n g₁ = some loc → g₁ = 0 ∧ m' 0 g = some loc := fun g₁ loc h => by
    have h : (if n = n then (if g₁ = 0 then m' 0 g else none) else m n g₁) = some loc := h
    simp only [if_true] at h
    split at h
    · rename_i e; exact ⟨e, h⟩
    · simp at h
  have hmM : ∀ b g₁ loc, m b g₁ = some loc → M b g₁ = some loc := fun b g₁ loc h => by
    by_cases e : b = n
    · subst e; rw [hnm] at h; simp at h
    · rw [hMo b g₁ e]; exact h
  have hmw : ∀ cb, MW M (fun b => if b = n then some (.cells 0 cs) else H b) cb → MW m H cb ∨ MW m' (lk [.cells g cs]) cb := by
    rintro cb ⟨b, x, g₁, base, h1, h2, h3⟩
    by_cases e : b = n
    · subst e
      obtain ⟨_, h3⟩ := hMs _ _ h3
      exact .inr ⟨0, .cells g cs, g, base, rfl, rfl, h3⟩
    · simp only [if_neg e] at h1
      rw [hMo b g₁ e] at h3
      exact .inl ⟨b, x, g₁, base, h1, h2, h3⟩
  refine ⟨M, ?_, ⟨hi'.inv.ro_lt, ?_, ?_, ?_, ?_, hi'.inv.glob.any⟩, ⟨hmM, hst.size, hst.os, hst.out, hst.tape, fun cb hlt _ => hk cb hlt, hst.shape, fun cb h => (hmw cb h).imp id (hnew cb), hst.ro_le, fun cb h => (hro cb h).imp id .inr⟩, fun b g₁ h => ?_⟩
  · simp only [VRel] at hv ⊢
    rw [hMn]
    exact hv
  · intro b x hx
    by_cases e : b = n
    · subst e
      simp only [if_true, Option.some.injEq] at hx
      subst hx
      intro loc hl
      obtain ⟨_, hl⟩ := hMs _ _ hl
      have h := hi'.inv.blk 0 (.cells g cs) rfl loc hl
      cases loc with
      | void => exact h
      | «at» cb base =>
        obtain ⟨c, t, hc, hlay⟩ := h
        refine ⟨c, t, hc, fun i a hia => ?_⟩
        obtain ⟨v, hv, ho, hr⟩ := hlay i a hia
        exact ⟨v, hv, ho, AV.closed_rel a v (closeds_iff.1 cc a (List.mem_of_getElem? hia)) hr⟩
    · simp only [if_neg e] at hx
      exact BlkRel.keep hmM hst.shape hst.ro_le (fun cb h => hk cb (hi.ro_lt cb h)) (fun g => hMo b g e) (fun g cb base h1 h2 => hk cb (hi.own_lt hx h1 h2)) (hi.blk b x hx)
  · intro b b' x x' g₁ g₂ cb base base' h1 h2 k1 k2 l1 l2
    by_cases e : b = n <;> by_cases e' : b' = n
    · rw [e, e']
    · subst e
      simp only [if_neg e'] at h2
      rw [hMo _ _ e'] at l2
      have := hi.own_lt h2 k2 l2
      have := hnew cb ⟨0, .cells g cs, g, base, rfl, rfl, (hMs _ _ l1).2⟩
      omega
    · subst e'
      simp only [if_neg e] at h1
      rw [hMo _ _ e] at l1
      have := hi.own_lt h1 k1 l1
      have := hnew cb ⟨0, .cells g cs, g, base', rfl, rfl, (hMs _ _ l2).2⟩
      omega
    · simp only [if_neg e, if_neg e'] at h1 h2
      rw [hMo _ _ e] at l1
      rw [hMo _ _ e'] at l2
      exact hi.inj b b' x x' g₁ g₂ cb base base' h1 h2 k1 k2 l1 l2
  · intro cb hm hr
    rcases hmw cb hm with h | h
    · rcases hro cb hr with h' | h'
      · exact hi.excl cb h h'
      · have := hi.mw_lt h; omega
    · exact hi'.inv.excl cb h hr
  · intro b x g₁ h1 h2 g₂ loc h3
    by_cases e : b = n
    · subst e
      have := (hMs _ _ h3).1
      omega
    · simp only [if_neg e] at h1
      rw [hMo _ _ e] at h3
      exact hi.gen b x g₁ h1 h2 g₂ loc h3
  · by_cases e : b = n
    · exact e
    · exact absurd (hMo b g₁ e) h

theorem lk_app {H : List Blk} {x : Blk} : lk (H ++ [x]) = fun b => if b = H.length then some x else lk H b := funext lk_push

theorem PureNew.acall {P f args N es cs} (h : PureNew P f args N es cs) (H : List Blk) : ACall P f args H fun o H' => o = .ret (.hs H.length 0 0 N es) ∧ H' = H ++ [.cells 0 cs] := by
  refine ⟨h.call.1, fun m ro w cargs hi hx => ?_⟩
  refine (h.call.2 m₀ ro w cargs (Inv.empty hi.inv.ro_lt hi.inv.glob.any) (closeds_rel args _ h.cargs hx)).mono ?_
  rintro e w' ⟨m', ro', out, X, ⟨g, rfl, rfl⟩, hout, hi', hst⟩
  cases e with
  | returned u =>
    obtain ⟨M, h1, h2, h3, h4⟩ := new_core (n := H.length) hi.inv (by simp [lk]) (fun g => by
      cases h : m H.length g with
      | none => rfl
      | some l => exact absurd (hi.bound _ _ _ h) (Nat.lt_irrefl _)) h.ccs hi' hst hout
    rw [← lk_app] at h2 h3
    refine ⟨M, ro', _, _, ⟨rfl, rfl⟩, h1, ⟨h2, fun b g₁ loc hb => ?_⟩, h3⟩
    rw [List.length_append, List.length_singleton]
    by_cases e : M b g₁ = m b g₁
    · rw [e] at hb; have := hi.bound _ _ _ hb; omega
    · have := h4 b g₁ e; omega
  | panicked _ => exact hout.elim
  | outgrown => exact hout.elim

theorem PureNew.pure {P f args N es cs} (h : PureNew P f args N es cs) (hfit : N * es = cs.length) : Pure P f args (.sl .any N cs) := by
  refine Pure.of_acall h.cargs (by simpa only [AV.closed] using h.ccs) h.call ?_
  rintro o H' ⟨g, rfl, rfl⟩
  refine ⟨_, rfl, ?_⟩
  have h1 := Ent.freeze (nt := ⟨1, 0⟩) (s := fr [(0, .hs 0 g 0 N es)]) (H := [.cells g cs]) 0 rfl rfl hfit
  refine h1.trans ?_
  have h2 : Ent ⟨1, 0⟩ (upd (fr [(0, .hs 0 g 0 N es)]) 0 (.sl .any N cs)) ([Blk.cells g cs].set 0 (.fro g cs)) (fr [(0, .sl .any N cs)]) ([] ++ [.fro g cs]) := Ent.fr' ⟨rfl, trivial⟩ rfl
  exact h2.trans (Ent.drop (H := []) (X := [.fro g cs]) (Nat.zero_le _) ⟨AV.closed_bel _ (by simpa only [AV.closed] using h.ccs), trivial⟩ trivial)

end Tab
