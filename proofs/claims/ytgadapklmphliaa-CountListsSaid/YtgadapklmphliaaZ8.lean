/- Lemmas for this claim: part 8. No condition. -/
import Derived.Test.YtgadapklmphliaaZ7
import Derived.Recover
set_option linter.unusedVariables false
set_option linter.unusedSimpArgs false
set_option linter.unusedSectionVars false
/- A function that defers a call which recovers. -/
namespace Tab
open Go
variable [Globs]

theorem argS_junk {cv : List AV} {t : Nat} (h : cv.length ≤ t) : upd (argS cv) t .junk = argS cv := by
  funext x
  simp only [upd, argS]
  cases hb : Nat.beq x t with
  | false => rfl
  | true =>
    have : x = t := Nat.eq_of_beq_eq_true hb
    subst this
    rw [List.getElem?_eq_none h]; rfl

section
variable {P : Program} {fd : FuncId} {fnd : Func} {id : Nat} {o1 o2 : Oper} {body : Code} {t2 t3 : Nat} {rc : Call} {ty ty' : TypeId}

/-- The deferred function, as it stands: recover, a look at what that answers, a body. -/
structure RecFn (P : Program) (fd : FuncId) (fnd : Func) (id : Nat) (o1 o2 : Oper) (body : Code) (t2 t3 : Nat) (rc : Call) (ty ty' : TypeId) : Prop where
  hf : P.funcs[fd]? = some fnd
  hb : fnd.body = some (.seq (.region id #[o1, o2] false) (.cond (.tmp t3) body .skip))
  h1 : o1.op = .call rc
  hc : rc.callee = .builtin .recover
  hd1 : o1.dst = some t2
  hg1 : o1.guard = none
  h2 : o2.op = .binOp .neq ty (.tmp t2) (.const .nilIface) ty'
  hd2 : o2.dst = some t3
  hg2 : o2.guard = none
  hu : ∃ ms, P.underlying ty = some (.interface ms)
  hr : fnd.results = #[]
  l2 : t2 < fnd.ntmps
  l3 : t3 < fnd.ntmps

theorem recover_run {o : Oper} {rc : Call} (h1 : o.op = .call rc) (hc : rc.callee = .builtin .recover) (ρ : Operand → Value) (w : World) : (execOp ρ o).run P w = .ok .recover w := by
  simp [execOp, h1, resolve, hc, invoke, builtin]

theorem neq_run {o : Oper} {ty ty' : TypeId} {t2 : Nat} (h2 : o.op = .binOp .neq ty (.tmp t2) (.const .nilIface) ty') {ms} (hu : P.underlying ty = some (.interface ms)) {a : Act} {w : World} {v : Value} {b : Bool} (hv : a.tmps[t2]? = some v)
    (hb : (v = .nilIface ∧ b = false) ∨ (∃ t x, v = .iface t x) ∧ b = true) : (execOp a.eval o).run P w = .ok (.value (.bool b)) w := by
  have e : a.eval (.tmp t2) = v := by simp [Act.eval, Array.getD_eq_getD_getElem?, hv]
  have e2 : a.eval (.const .nilIface) = .nilIface := rfl
  have hd : ∃ d, Op.maxDepth = d + 1 := ⟨Op.maxDepth - 1, rfl⟩
  obtain ⟨d, hd⟩ := hd
  have he : (Op.equal ty v .nilIface).run P w = .ok (!b) w := by
    rw [Op.equal, hd, Op.equalIn]
    rcases hb with ⟨rfl, rfl⟩ | ⟨⟨t, x, rfl⟩, rfl⟩
    · simp only [Sem.run_bind, run_underlying' hu, Result.andThen_ok, Sem.run_pure]; rfl
    · simp only [Sem.run_bind, run_underlying' hu, Result.andThen_ok, Sem.run_pure]; rfl
  have hg : (eqGuard .neq ty (.tmp t2) (.const .nilIface) v .nilIface).run P w = .ok () w := by
    rcases hb with ⟨rfl, rfl⟩ | ⟨⟨t, x, rfl⟩, rfl⟩ <;> rfl
  have hbin : (binOp .neq ty v .nilIface).run P w = .ok (.bool b) w := by
    have : binOp .neq ty v .nilIface = (do pure (.bool (!(← Op.equal ty v .nilIface)))) := by rcases hb with ⟨rfl, rfl⟩ | ⟨⟨t, x, rfl⟩, rfl⟩ <;> rfl
    rw [this]
    simp only [Sem.run_bind, he, Result.andThen_ok, Sem.run_pure, Bool.not_not]
  simp only [execOp, h2, e, e2, Sem.run_bind, hg, Result.andThen_ok, hbin, Sem.run_pure]

/-- The two operations ahead of the body. -/
theorem RecFn.head (F : RecFn P fd fnd id o1 o2 body t2 t3 rc ty ty') {Q : Exit → Act → List Frame → World → Prop} {a : Act} {cs cs' : List Frame} {w : World} {v : Value} {b : Bool} (hl : a.tmps.size = fnd.ntmps)
    (hrec : (recoverD cs = some (v, cs')) ∨ (recoverD cs = none ∧ v = .nilIface ∧ cs' = cs)) (hb : (v = .nilIface ∧ b = false) ∨ (∃ t x, v = .iface t x) ∧ b = true)
    (h : Q .normal ((a.put (some t2) v).put (some t3) (.bool b)) cs' w) : wpOpsS P #[o1, o2] Q (List.range (#[o1, o2] : Array Oper).size) a cs w := by
  obtain ⟨ms, hu⟩ := F.hu
  have hr1 := recover_run (P := P) F.h1 F.hc a.eval w
  have hw1 : ∀ x, Region.wanted o1 x = true := fun x => by simp [Region.wanted, F.hg1]
  have hw2 : ∀ x, Region.wanted o2 x = true := fun x => by simp [Region.wanted, F.hg2]
  have hget : (a.put (some t2) v).tmps[t2]? = some v := by simp [Act.put, hl, F.l2]
  have hr2 := neq_run F.h2 hu (w := w) hget hb
  have h2 : ∀ cs'', Q .normal ((a.put (some t2) v).put (some t3) (.bool b)) cs'' w → wpOpsS P #[o1, o2] Q [1] (a.put (some t2) v) cs'' w := by
    intro cs'' h
    rw [wpOpsS, show (#[o1, o2] : Array Oper)[1]? = some o2 from rfl]
    simp only [hw2, if_true]
    rw [hr2]
    simp only [Oper.upon, wpOpsS, F.hd2]
    exact h
  show wpOpsS P #[o1, o2] Q [0, 1] a cs w
  rw [wpOpsS, show (#[o1, o2] : Array Oper)[0]? = some o1 from rfl]
  simp only [hw1, if_true]
  rw [hr1]
  simp only [F.hd1]
  rcases hrec with hrec | ⟨hrec, rfl, rfl⟩
  · rw [hrec]; exact h2 _ h
  · rw [hrec]; exact h2 _ h

theorem RecFn.idle (F : RecFn P fd fnd id o1 o2 body t2 t3 rc ty ty') (cargs : Array Value) (hsz : cargs.size ≤ fnd.ntmps) (w : World) : CallsD P fd cargs .returning w fun e u' w' => e = .returned (.tuple #[]) ∧ u' = .returning ∧ w' = w := by
  refine callsD_of_wpS F.hf F.hb fun c₀ cs hm => ?_
  refine wpS_seq (wpS_region ?_)
  refine F.head (v := .nilIface) (b := false) (cs' := c₀ :: cs) (by simp only [Array.size_append, Array.size_replicate]; omega) (.inr ⟨by simp [recoverD, hm], rfl, rfl⟩) (.inl ⟨rfl, rfl⟩) ?_
  refine wpS_cond (t := false) ?_ ?_
  · have h3 := F.l3
    simp [Act.eval, Act.put, Array.getD_eq_getD_getElem?]
    intro h; omega
  · simp only [Bool.false_eq_true, if_false]
    refine wpS_of_wp (wp_skip ?_)
    cases c₀
    simp_all [bodyPostS, results, F.hr, Act.put]

theorem RecFn.pan (F : RecFn P fd fnd id o1 o2 body t2 t3 rc ty ty') {m : Mp} {ro : Nat → Prop} {H H2 : List Blk} {w : World} (hi : InvL m ro H w) {cv : List AV} {cargs : Array Value} (hx : VsRel m ro w cv cargs.toList) (hl2 : cv.length ≤ t2) (hl3 : cv.length ≤ t3)
    (hbody : SW P ⟨fnd.ntmps, H.length⟩ body (argS cv) H (fun e _ H' => e = .normal ∧ H' = H2)) (t : TypeId) (x : Value) :
    CallsD P fd cargs (.panicking [{ v := .iface t x, recovered := false }]) w fun e u' w' => e = .returned (.tuple #[]) ∧ u' = .panicking [{ v := .iface t x, recovered := true }] ∧ ∃ m' ro', InvL m' ro' H2 w' ∧ Step m ro (lk H) w m' ro' (lk H2) w' := by
  have hlen := hx.length
  simp only [Array.length_toList] at hlen
  have k2 := F.l2
  have k3 := F.l3
  refine callsD_of_wpS F.hf F.hb fun c₀ cs hm => ?_
  refine wpS_seq (wpS_region ?_)
  refine F.head (v := .iface t x) (b := true) (cs' := { c₀ with mode := .panicking [{ v := .iface t x, recovered := true }] } :: cs) (by simp only [Array.size_append, Array.size_replicate]; omega) (.inl (by simp [recoverD, hm])) (.inr ⟨⟨t, x, rfl⟩, rfl⟩) ?_
  have hsr : SRel ⟨m, ro, H, w, []⟩ fnd.ntmps (argS cv) H ((({ tmps := cargs ++ Array.replicate (fnd.ntmps - cargs.size) undef, defers := [] } : Act).put (some t2) (.iface t x)).put (some t3) (.bool true)) w := by
    refine ⟨m, ro, hi, Step.refl .., ?_, ?_, rfl⟩
    · have h1 := argS_rel hx fnd.ntmps
      have h2 := h1.put (d := some t2) (v := .junk) (v' := .iface t x) (by simp only [VRel]) (fun t' e => by cases e; simp only [Array.size_append, Array.size_replicate]; omega)
      have h3 := h2.put (d := some t3) (v := .junk) (v' := .bool true) (by simp only [VRel]) (fun t' e => by cases e; simp only [Act.put, Array.size_setIfInBounds, Array.size_append, Array.size_replicate]; omega)
      simp only [updo] at h3
      rw [argS_junk hl2, argS_junk hl3] at h3
      exact h3
    · simp only [Act.put, Array.size_setIfInBounds, Array.size_append, Array.size_replicate]; omega
  refine wpS_cond (t := true) ?_ ?_
  · simp [Act.eval, Act.put, Array.getD_eq_getD_getElem?]
    intro h; omega
  · simp only [if_true]
    refine wpS_of_wp (wp_mono (hbody ⟨⟨m, ro, H, w, []⟩, fun b g loc hm => hi.bound b g loc hm⟩ _ _ hsr) ?_)
    rintro e a w' ⟨ae, s, H', he, ⟨m', ro', hi', hst, hsl, hsz, hdf⟩, rfl, rfl⟩
    cases e <;> simp only [ExitRel] at he
    refine ⟨hdf, .panicking [{ v := .iface t x, recovered := true }], rfl, .tuple #[], ?_, rfl, rfl, m', ro', hi', hst⟩
    simp [results, F.hr]

/-- How the body behind the deferral ends. -/
def deferK (P : Program) (nt : Fr) (rs : List ResultVar) (ntd : Nat) (body : Code) (cv : List AV) (R : Out → List Blk → Prop) : Post := fun e s H => match e with
  | .ret => RetE P nt rs R s H
  | .normal => RetE P nt rs R s H
  | .pan => ∃ H2 v, SW P ⟨ntd, H.length⟩ body (argS cv) H (fun e _ H' => e = .normal ∧ H' = H2) ∧ resA P rs s H2 = some v ∧ R (.ret v) H2
  | _ => False

theorem ACall.of_defer (F : RecFn P fd fnd id o1 o2 body t2 t3 rc ty ty') {f : FuncId} {fn : Func} {c0 rest : Code} {id1 : Nat} {d1 d2 : Oper} {t4 : Nat} {caps : Array Operand} {dc : Call} {args cv : List AV} {H₀ H1 : List Blk} {s1 : Slots} {R : Out → List Blk → Prop} (nt : Nat)
    (hf : P.funcs[f]? = some fn) (hb : fn.body = some (.seq c0 (.seq (.region id1 #[d1, d2] false) rest))) (hn : fn.ntmps = nt) (hc : callable P f = true) (hcd : callable P fd = true) (hargs : args.length ≤ nt)
    (e1 : d1.op = .makeFunc (.func fd) #[] caps) (e2 : d1.dst = some t4) (e3 : d1.guard = none) (e4 : d2.op = .defer dc) (e5 : dc.callee = .value (.tmp t4)) (e6 : dc.args = #[]) (e7 : d2.dst = none) (e8 : d2.guard = none) (ht4 : t4 < nt)
    (h0 : SW P ⟨nt, H₀.length⟩ c0 (argS args) H₀ (fun e s H => e = .normal ∧ s = s1 ∧ H = H1)) (hcv : caps.toList.map (ev s1) = cv) (hl2 : cv.length ≤ t2) (hl3 : cv.length ≤ t3)
    (h : SW P ⟨nt, H1.length⟩ rest (upd s1 t4 (.fn (.func fd) [] cv)) H1 (deferK P ⟨nt, H1.length⟩ fn.results.toList fnd.ntmps body cv R)) : ACall P f args H₀ R := by
  refine ⟨hc, fun m ro w cargs hi hx => ?_⟩
  subst hn
  refine calls_of_wp_defers hf hb (wp_seq (wp_mono (h0 ⟨⟨m, ro, H₀, w, []⟩, fun b g loc hm => hi.bound b g loc hm⟩ { tmps := cargs ++ Array.replicate (fn.ntmps - cargs.size) undef, defers := [] } w ⟨m, ro, hi, Step.refl .., argS_rel hx _, ?_, rfl⟩) ?_))
  · have := hx.length
    simp only [Array.length_toList] at this
    simp only [Array.size_append, Array.size_replicate]
    omega
  rintro e a w1 ⟨ae, s, H, he, ⟨m1, ro1, hi1, hst1, hsl1, hsz1, hdf1⟩, rfl, rfl, rfl⟩
  cases e <;> simp only [ExitRel] at he
  simp only [Exit.then]
  have hdf1 : a.defers = [] := hdf1
  refine wp_seq (wp_region ?_)
  show wpOps P #[d1, d2] _ [0, 1] a w1
  rw [wpOps, show (#[d1, d2] : Array Oper)[0]? = some d1 from rfl]
  simp only [show Region.wanted d1 (yielded #[d1, d2] a.tmps) = true by simp [Region.wanted, e3], if_true]
  left
  have hev : VsRel m1 ro1 w1 cv (caps.map a.eval).toList := by
    rw [← hcv, Array.toList_map]
    exact map_rel _ fun x _ => ev_rel hi1.inv.glob hsl1 x
  have hrun1 : (execOp a.eval d1).run P w1 = .ok (.value (.func (.func fd) #[] (caps.map a.eval))) w1 := by
    simp [execOp, e1, Instr.makeFunc]
  unfold Oper.wp
  rw [hrun1]
  simp only [Oper.upon, e2]
  rw [wpOps, show (#[d1, d2] : Array Oper)[1]? = some d2 from rfl]
  simp only [show ∀ x, Region.wanted d2 (yielded #[d1, d2] x) = true from fun x => by simp [Region.wanted, e8], if_true]
  left
  have hget : (a.put (some t4) (.func (.func fd) #[] (caps.map a.eval))).eval (.tmp t4) = .func (.func fd) #[] (caps.map a.eval) := by
    simp [Act.eval, Act.put, Array.getD_eq_getD_getElem?, hsz1, ht4]
  have hrun2 : (execOp (a.put (some t4) (.func (.func fd) #[] (caps.map a.eval))).eval d2).run P w1 = .ok (.defer { target := .fn (.func fd) (caps.map a.eval), args := #[] }) w1 := by
    simp [execOp, e4, resolve, e5, e6, hget, Deferred.ofValue]
  unfold Oper.wp
  rw [hrun2]
  simp only [Oper.upon, e7, wpOps, Exit.then]
  obtain ⟨d, hd⟩ : ∃ d : Deferred, ({ target := .fn (.func fd) (caps.map a.eval), args := #[] } : Deferred) = d := ⟨_, rfl⟩
  have hinv : ∀ w', (invoke d.target d.args).run P w' = .ok (.enter fd (caps.map a.eval)) w' := fun w' => by
    rw [← hd]
    simp [invoke, callFunc_run hcd]
  have hcs : (caps.map a.eval).size ≤ fnd.ntmps := by
    have := hev.length
    simp only [Array.length_toList] at this
    have := F.l2
    omega
  rw [hd]
  have hsr : SRel ⟨m1, ro1, H, w1, [d]⟩ fn.ntmps (upd s t4 (.fn (.func fd) [] cv)) H ({ (a.put (some t4) (.func (.func fd) #[] (caps.map a.eval))) with defers := d :: a.defers }) w1 := by
    refine ⟨m1, ro1, hi1, Step.refl .., ?_, ?_, by show d :: a.defers = [d]; rw [hdf1]⟩
    · have := hsl1.put (d := some t4) (v := .fn (.func fd) [] cv) (v' := .func (.func fd) #[] (caps.map a.eval)) (by simp only [VRel, VsRel]; exact ⟨_, _, rfl, rfl, hev⟩) (fun t e => by cases e; rw [hsz1]; exact ht4)
      exact this
    · simp [Act.put, hsz1]
  simp only [Act.put] at hsr ⊢
  refine wp_mono (h ⟨⟨m1, ro1, H, w1, [d]⟩, fun b g loc hm => hi1.bound b g loc hm⟩ _ _ hsr) ?_
  rintro e a2 w2 ⟨ae, s2, Hh, he, hr, hk⟩
  have hdn : d.target = .fn (.func fd) (caps.map a.eval) := by rw [← hd]
  have good : RetE P ⟨fn.ntmps, H.length⟩ fn.results.toList R s2 Hh → Leaves P fn a2.tmps (fun e w' => ∃ m' ro' out H', R out H' ∧ OutRel m' ro' w' out e ∧ InvL m' ro' H' w' ∧ Step m ro (lk H₀) w m' ro' (lk H') w') a2.defers .returning w2 := by
    rintro ⟨s', H', v, hent, hres, hR⟩
    obtain ⟨m', ro', hi', hst, hsl, hsz, hdd⟩ := hent ⟨⟨m1, ro1, H, w1, [d]⟩, fun b g loc hm => hi1.bound b g loc hm⟩ _ _ hr
    obtain ⟨u, hu, hv⟩ := resA_run hi' hsl hres
    rw [hdd]
    refine ⟨by simp, _, _, fd, _, hdn, hinv w2, (F.idle _ hcs w2).mono ?_⟩
    rintro e u' w' ⟨rfl, rfl, rfl⟩
    exact ⟨u, hu, m', ro', .ret v, H', hR, hv, hi', hst1.trans hst⟩
  cases ae <;> cases e <;> simp only [ExitRel] at he <;> first
    | exact hk.elim
    | exact good hk
    | skip
  rename_i chain
  obtain ⟨t, x, rfl⟩ := he
  obtain ⟨H2, v, hbody, hres, hR⟩ := hk
  obtain ⟨m', ro', hi', hst, hsl, hsz, hdd⟩ := hr
  show Leaves P fn a2.tmps _ a2.defers _ w2
  rw [hdd]
  refine ⟨by simp, _, _, fd, _, hdn, hinv w2, (F.pan hi' (hev.step hi1.inv hst) hl2 hl3 hbody t x).mono ?_⟩
  rintro e u' w' ⟨rfl, rfl, m2, ro2, hi2, hst2⟩
  obtain ⟨u, hu, hv⟩ := resA_run hi2 (hsl.step hi'.inv hst2) hres
  exact ⟨u, hu, m2, ro2, .ret v, H2, hR, hv, hi2, (hst1.trans hst).trans hst2⟩

end

end Tab
