/- Code: the verification condition of a region that has one order, of code, of a function; contracts of functions. -/
import Derived.Test.YthdpblbclgpnjaaVc
set_option linter.unusedVariables false
set_option linter.unusedSimpArgs false
set_option linter.unusedSectionVars false
namespace Tab
open Go
variable [Globs]

/-! ### Contracts -/

inductive Out where
  | ret (v : AV)
  | pan

def lk (H : List Blk) : Hp := fun b => H[b]?

structure InvL (m : Mp) (ro : Nat → Prop) (H : List Blk) (w : World) : Prop where
  inv : Inv m ro (lk H) w
  bound : ∀ b g loc, m b g = some loc → b < H.length

def OutRel (m : Mp) (ro : Nat → Prop) (w : World) : Out → Ending → Prop
  | .ret a, .returned v => VRel m ro w a v
  | .pan, .panicked chain => chain ≠ [] ∧ ∀ x ∈ chain, x.goexit = false ∧ x.recovered = false
  | _, _ => False

/-- A function that can be entered. -/
def callable (P : Program) (f : FuncId) : Bool := match P.funcs[f]? with
  | some fn => fn.body.isSome && !(fn.name == "runtime.NumGoroutine")
  | none => false

/-- The contract of a call: from this abstract heap, with these arguments, it comes to an outcome and a heap of which R holds. -/
def ACall (P : Program) (f : FuncId) (args : List AV) (H : List Blk) (R : Out → List Blk → Prop) : Prop :=
  callable P f = true ∧ ∀ m ro w (cargs : Array Value), InvL m ro H w → VsRel m ro w args cargs.toList →
    Calls P f cargs w fun e w' => ∃ m' ro' out H', R out H' ∧ OutRel m' ro' w' out e ∧ InvL m' ro' H' w' ∧ Step m ro (lk H) w m' ro' (lk H') w'

theorem ACall.mono {P f args H R R'} (h : ACall P f args H R) (hr : ∀ o H', R o H' → R' o H') : ACall P f args H R' :=
  ⟨h.1, fun m ro w cargs hi hx => (h.2 m ro w cargs hi hx).mono fun _ _ ⟨m', ro', o, H', h1, h2⟩ => ⟨m', ro', o, H', hr _ _ h1, h2⟩⟩

/-! ### States -/

structure Ctx where
  m : Mp
  ro : Nat → Prop
  H : List Blk
  w : World

inductive AExit where
  | normal | exit (id : Nat) | goto (l : Nat) | ret | pan

/-- What a function's walk is about: how many temporaries it has; how many blocks its caller has lent it. -/
structure Fr where
  nt : Nat
  k : Nat
instance (n : Nat) : OfNat Fr n := ⟨⟨n, 0⟩⟩

def SRel (c : Ctx) (nt : Nat) (s : Slots) (H : List Blk) (a : Act) (w : World) : Prop :=
  ∃ m ro, InvL m ro H w ∧ Step c.m c.ro (lk c.H) c.w m ro (lk H) w ∧ SlotsRel m ro w s a ∧ a.tmps.size = nt ∧ a.defers = []

def ExitRel : AExit → Exit → Prop
  | .normal, .normal => True
  | .exit i, .exit j => i = j
  | .goto i, .goto j => i = j
  | .ret, .ret => True
  | .pan, .panic chain => chain ≠ [] ∧ ∀ x ∈ chain, x.goexit = false ∧ x.recovered = false
  | _, _ => False

abbrev Post := AExit → Slots → List Blk → Prop

def lift (c : Ctx) (nt : Nat) (K : Post) : Exit → Act → World → Prop := fun e a w => ∃ ae s H, ExitRel ae e ∧ SRel c nt s H a w ∧ K ae s H

/-- The abstract weakest condition, as a statement on the model's own. -/
structure CtxN (nt : Fr) extends Ctx where
  kb : ∀ b g loc, toCtx.m b g = some loc → b < nt.k

def SW (P : Program) (nt : Fr) (code : Code) (s : Slots) (H : List Blk) (K : Post) : Prop :=
  ∀ (c : CtxN nt) a w, SRel c.toCtx nt.nt s H a w → code.wp P (lift c.toCtx nt.nt K) a w

/-- One state says less than another. -/
def Ent (nt : Fr) (s : Slots) (H : List Blk) (s' : Slots) (H' : List Blk) : Prop := ∀ (c : CtxN nt) a w, SRel c.toCtx nt.nt s H a w → SRel c.toCtx nt.nt s' H' a w

theorem Ent.refl (nt s H) : Ent nt s H s H := fun _ _ _ h => h
theorem Ent.trans {nt s H s₁ H₁ s₂ H₂} (h : Ent nt s H s₁ H₁) (h' : Ent nt s₁ H₁ s₂ H₂) : Ent nt s H s₂ H₂ := fun c a w k => h' c a w (h c a w k)

theorem SW.mono {P nt code s H} {K K' : Post} (h : SW P nt code s H K) (hk : ∀ e s H, K e s H → K' e s H) : SW P nt code s H K' :=
  fun c a w hs => wp_mono (h c a w hs) fun _ _ _ ⟨ae, s', H', h1, h2, h3⟩ => ⟨ae, s', H', h1, h2, hk _ _ _ h3⟩
theorem SW.ent {P nt code s H s' H'} {K : Post} (e : Ent nt s H s' H') (h : SW P nt code s' H' K) : SW P nt code s H K := fun c a w hs => h c a w (e c a w hs)

/-! ### Structure -/

def seqK (y : Slots → List Blk → Prop) (K : Post) : Post := fun e s H => match e with | .normal => y s H | e => K e s H

theorem SW.seq {P nt x y s H} {K : Post} (h : SW P nt x s H (seqK (fun s H => SW P nt y s H K) K)) : SW P nt (.seq x y) s H K := by
  intro c a w hs
  refine wp_seq (wp_mono (h c a w hs) ?_)
  rintro e a w ⟨ae, s, H, he, hr, hk⟩
  cases ae <;> cases e <;> simp only [ExitRel] at he <;> first
    | exact hk c a w hr
    | exact ⟨_, s, H, by first | exact trivial | exact he, hr, hk⟩

theorem SW.skip {P nt s H} {K : Post} (h : K .normal s H) : SW P nt .skip s H K := fun _ _ _ hs => wp_skip ⟨.normal, s, H, trivial, hs, h⟩
theorem SW.label {P nt l s H} {K : Post} (h : K .normal s H) : SW P nt (.label l) s H K := fun _ _ _ hs => wp_label ⟨.normal, s, H, trivial, hs, h⟩
theorem SW.exit {P nt id s H} {K : Post} (h : K (.exit id) s H) : SW P nt (.exit id) s H K := fun _ _ _ hs => wp_exit ⟨.exit id, s, H, rfl, hs, h⟩
theorem SW.goto {P nt id s H} {K : Post} (h : K (.goto id) s H) : SW P nt (.goto id) s H K := fun _ _ _ hs => wp_goto ⟨.goto id, s, H, rfl, hs, h⟩
theorem SW.ret {P nt s H} {K : Post} (h : K .ret s H) : SW P nt .ret s H K := fun _ _ _ hs => wp_ret ⟨.ret, s, H, trivial, hs, h⟩

theorem SW.cond {P nt c x y s H} {K : Post} {b : Bool} (hc : ev s c = .bool b) (ht : b = true → SW P nt x s H K) (hf : b = false → SW P nt y s H K) : SW P nt (.cond c x y) s H K := by
  intro cx a w hs
  obtain ⟨m, ro, hi, hst, hsl, hsz, hd⟩ := hs
  have he := ev_rel hi.inv.glob hsl c
  rw [hc] at he
  simp only [VRel] at he
  have hs : SRel cx.toCtx nt.nt s H a w := ⟨m, ro, hi, hst, hsl, hsz, hd⟩
  exact wp_cond_split he (fun h => ht h cx a w hs) (fun h => hf h cx a w hs)

def blockK (id : Nat) (K : Post) : Post := fun e s H => match e with | .exit id' => decB (Nat.beq id' id) (K .normal s H) (K (.exit id') s H) | e => K e s H

theorem SW.block {P nt id x s H} {K : Post} (h : SW P nt x s H (blockK id K)) : SW P nt (.block id x) s H K := by
  intro c a w hs
  refine wp_block (wp_mono (h c a w hs) ?_)
  rintro e a w ⟨ae, s, H, he, hr, hk⟩
  cases ae <;> cases e <;> simp only [ExitRel] at he
  case exit.exit i j =>
    subst he
    simp only [Exit.inBlock]
    rcases decB_or hk with ⟨h1, hk⟩ | ⟨h1, hk⟩
    · rw [if_pos (Nat.eq_of_beq_eq_true h1)]
      exact ⟨.normal, s, H, trivial, hr, hk⟩
    · rw [if_neg (fun e => by subst e; simp at h1)]
      exact ⟨.exit i, s, H, rfl, hr, hk⟩
  all_goals exact ⟨_, s, H, by first | exact trivial | exact he, hr, hk⟩

/-- A loop: a family of states, one of which holds ahead of it, and each round leads to one of a smaller measure. -/
def loopK {ι : Type} (nt : Fr) (st : ι → Slots × List Blk) (μ : ι → Nat) (i : ι) (K : Post) : Post := fun e s H => match e with
  | .normal => ∃ j, μ j < μ i ∧ Ent nt s H (st j).1 (st j).2
  | e => K e s H

theorem SW.loop {P nt x s H} {K : Post} {ι : Type} (st : ι → Slots × List Blk) (μ : ι → Nat) (i₀ : ι) (h0 : Ent nt s H (st i₀).1 (st i₀).2)
    (h : ∀ i, SW P nt x (st i).1 (st i).2 (loopK nt st μ i K)) : SW P nt (.loop x) s H K := by
  intro c a w hs b k cs
  have hs := h0 c a w hs
  have key : ∀ n a w i, μ i = n → SRel c.toCtx nt.nt (st i).1 (st i).2 a w →
      ∃ e a' w', lift c.toCtx nt.nt K e a' w' ∧ Arrives P (lone (b.at a (.code x :: .inLoop x :: k)) cs w) b k cs e a' w' := by
    intro n
    induction n using Nat.strongRecOn with
    | _ n ih =>
      intro a w i hn hs
      obtain ⟨e, a₁, w₁, ⟨ae, s₁, H₁, he, hr, hk⟩, harr⟩ := h i c a w hs b (.inLoop x :: k) cs
      cases ae <;> cases e <;> simp only [ExitRel] at he
      case normal.normal =>
        obtain ⟨j, hlt, hent⟩ := hk
        obtain ⟨e₂, a₂, w₂, hq₂, harr₂⟩ := ih (μ j) (hn ▸ hlt) a₁ w₁ j rfl (hent c a₁ w₁ hr)
        exact ⟨e₂, a₂, w₂, hq₂, .of_steps (Steps.trans harr (.one step_inLoop)) harr₂⟩
      all_goals exact ⟨_, a₁, w₁, ⟨_, s₁, H₁, by first | exact trivial | exact he, hr, hk⟩, .pass (x := .inLoop x) rfl (fun _ _ => .inl (by simp)) harr⟩
  obtain ⟨e, a', w', hq, harr⟩ := key _ a w i₀ rfl hs
  exact ⟨e, a', w', hq, .of_steps (.one step_loop) harr⟩

/-! ### Regions that have one order -/

def updL (H : List Blk) : Option (Nat × Blk) → List Blk
  | some (i, y) => H.set i y
  | none => H
def appL (H : List Blk) (e : Eff) : List Blk :=
  match e.new with
  | some x => updL H e.upd ++ [x]
  | none => updL H e.upd
theorem appL_eq (H : List Blk) (e : Eff) : appL H e = (match e.upd with | some (i, y) => H.set i y | none => H) ++ (match e.new with | some x => [x] | none => []) := by
  unfold appL updL
  cases e.new <;> cases e.upd <;> simp

theorem appL_lk {H : List Blk} {e : Eff} (hu : ∀ p, e.upd = some p → p.1 < H.length) : lk (appL H e) = app (lk H) H.length e := by
  funext b
  rw [appL_eq]
  unfold lk app
  cases hn : e.new with
  | none =>
    cases hp : e.upd with
    | none => simp
    | some p =>
      obtain ⟨i, y⟩ := p
      have := hu (i, y) hp
      simp only at this
      simp only [List.append_nil, List.getElem?_set, this, if_true]
      by_cases h : i = b
      · simp [h]
      · simp [h, Ne.symm h]
  | some x =>
    cases hp : e.upd with
    | none =>
      simp only [List.getElem?_append]
      by_cases h : b < H.length
      · simp [h, Nat.ne_of_lt h]
      · by_cases h' : b = H.length
        · simp [h']
        · simp only [h, if_false, h']
          rw [List.getElem?_eq_none (by simp; omega), List.getElem?_eq_none (by omega)]
    | some p =>
      obtain ⟨i, y⟩ := p
      have := hu (i, y) hp
      simp only at this
      simp only [List.getElem?_append, List.length_set, List.getElem?_set, this, if_true]
      by_cases h : b < H.length
      · simp only [h, if_true, Nat.ne_of_lt h, if_false]
        by_cases h' : i = b
        · simp [h']
        · simp [h', Ne.symm h']
      · by_cases h' : b = H.length
        · simp [h']
        · have h2 : ¬ b = i := by omega
          simp only [h, if_false, h', h2]
          rw [List.getElem?_eq_none (by simp; omega), List.getElem?_eq_none (by omega)]

theorem appL_length (H : List Blk) (e : Eff) : (appL H e).length = H.length + (if e.new.isSome then 1 else 0) := by
  rw [appL_eq]
  cases e.upd <;> cases e.new <;> simp

/-- An operation that does something known goes from a state to the next. -/
theorem OpSem.srel {P : Program} {o : Oper} {s : Slots} {H : List Blk} {e : Eff} (ho : OpSem P o (ev s) H.length e) (hn : ∀ p ∈ e.need, H[p.1]? = some p.2) (hu : ∀ p, e.upd = some p → ∃ y, (p.1, y) ∈ e.need)
    {c : Ctx} {nt : Nat} {a : Act} {w : World} (hs : SRel c nt s H a w) (hd : ∀ t, o.dst = some t → t < nt) {next : Act → World → Prop} {Q : Exit → Act → World → Prop}
    (k : ∀ a' w', SRel c nt (updo s o.dst e.v) (appL H e) a' w' → next a' w') : o.wp P a w next Q := by
  obtain ⟨m, ro, hi, hst, hsl, hsz, hdf⟩ := hs
  have hup : ∀ p, e.upd = some p → p.1 < H.length := fun p hp => by
    obtain ⟨y, hy⟩ := hu p hp
    exact (List.getElem?_eq_some_iff.1 (hn _ hy)).1
  refine ho m ro (lk H) w a hi.inv (fun x _ => ev_rel hi.inv.glob hsl x) hn (fun x _ => ⟨List.getElem?_eq_none (Nat.le_refl _), fun g => ?_⟩) next Q (fun m' ro' w' v' hv hi' hst' hne => ?_)
  · cases h : m H.length g with
    | none => rfl
    | some l => exact absurd (hi.bound _ _ _ h) (Nat.lt_irrefl _)
  · rw [← appL_lk hup] at hi' hst'
    refine k _ _ ⟨m', ro', ⟨hi', fun b g loc h => ?_⟩, hst.trans hst', (hsl.step hi.inv hst').put hv (fun t ht => by rw [hsz]; exact hd t ht), ?_, ?_⟩
    · rw [appL_length]
      by_cases hmm : m' b g = m b g
      · rw [hmm] at h
        have := hi.bound b g loc h
        omega
      · rcases hne b g hmm with ⟨y, hy⟩ | ⟨rfl, hnew⟩
        · have := hup _ hy
          simp only at this
          omega
        · simp [hnew]
    · cases o.dst <;> simp [Act.put, hsz]
    · cases o.dst <;> simp [Act.put, hdf]

def callE (P : Program) (fv : AV) (args : List AV) (H : List Blk) (K : Out → List Blk → Prop) : Prop :=
  match fv with
  | .fn (.func f) first cap => ∃ R, ACall P f (first ++ args ++ cap) H R ∧ ∀ o H', R o H' → K o H'
  | _ => False

def vcRun (P : Program) (o : Oper) (s : Slots) (H : List Blk) (K : Post) (next : Slots → List Blk → Prop) : Prop :=
  match o.op with
  | .call c => match c.callee with
    | .value f => callE P (ev s f) (c.args.toList.map (ev s)) H fun out H' => match out with
      | .ret v => next (updo s o.dst v) H'
      | .pan => K .pan s H'
    | .builtin b => vcOp P (.call c) (ev s) H fun e => next (updo s o.dst e.v) (appL H e)
    | .invoke _ _ => False
  | op => vcOp P op (ev s) H fun e => next (updo s o.dst e.v) (appL H e)

/-- Whether a guarded operation runs; the slot of the guard reads as what is known then. -/
def vcGuard (all : List Oper) (g : Option (Nat × Bool)) (s : Slots) (run skip : Slots → Prop) : Prop :=
  match g with
  | none => run s
  | some (j, want) => match (all[j]?).bind (·.dst) with
    | some d => match s d with
      | .bool b => decB b (match want with | true => run (upd s d (.bool true)) | false => skip (upd s d (.bool true)))
          (match want with | true => skip (upd s d (.bool false)) | false => run (upd s d (.bool false)))
      | .tup _ => skip s
      | _ => False
    | none => False

def vcOps (P : Program) (all : List Oper) : List Oper → Slots → List Blk → Post → Prop
  | [], s, H, K => K .normal s H
  | o :: os, s, H, K => vcGuard all o.guard s (fun s => vcRun P o s H K fun s H => vcOps P all os s H K) (fun s => vcOps P all os (updo s o.dst (.tup [])) H K)

def dstOk (nt : Nat) (ops : List Oper) : Bool := ops.all fun o => match o.dst with | some t => Nat.blt t nt | none => true

theorem dstOk_of {nt : Nat} {ops : List Oper} (h : dstOk nt ops = true) {o : Oper} (ho : o ∈ ops) : ∀ t, o.dst = some t → t < nt := by
  intro t ht
  have := List.all_eq_true.1 h o ho
  simp only [ht] at this
  exact Nat.le_of_ble_eq_true this

theorem srel_eq {c nt s H a w} (h : SRel c nt s H a w) {d : Nat} {b : Bool} (hd : s d = .bool b) : a.tmps[d]? = some (.bool b) := by
  obtain ⟨m, ro, _, _, hsl, _, _⟩ := h
  have := hsl d
  rw [hd] at this
  simp only [VRel] at this
  rw [Array.getD_eq_getD_getElem?] at this
  cases h : a.tmps[d]? with
  | none => rw [h] at this; simp [undef] at this
  | some v => rw [h] at this; simpa using this

theorem srel_refresh {c nt s H a w} (h : SRel c nt s H a w) {d : Nat} {b : Bool} (hd : s d = .bool b) : SRel c nt (upd s d (.bool b)) H a w := by
  obtain ⟨m, ro, h1, h2, hsl, h3⟩ := h
  refine ⟨m, ro, h1, h2, fun t => ?_, h3⟩
  simp only [upd]
  by_cases e : t = d
  · subst e
    have := hsl t
    rw [hd] at this
    simpa using this
  · have : Nat.beq t d = false := by rw [← Bool.not_eq_true]; intro h; exact e (Nat.eq_of_beq_eq_true h)
    rw [this]
    exact hsl t

theorem callFunc_run {P : Program} {f : FuncId} (h : callable P f = true) (args : Array Value) (w : World) : (callFunc f args).run P w = .ok (.enter f args) w := by
  unfold callable at h
  split at h
  · rename_i fn hf
    simp only [Bool.and_eq_true, Bool.not_eq_true', beq_eq_false_iff_ne] at h
    obtain ⟨h1, h2⟩ := h
    obtain ⟨cc, hc⟩ := Option.isSome_iff_exists.1 h1
    simp [callFunc, hf, h2, hc]
  · simp at h

theorem vcRun_sound {P : Program} {nt : Nat} {o : Oper} {s : Slots} {H : List Blk} {K : Post} {nx : Slots → List Blk → Prop} (h : vcRun P o s H K nx) (hd : ∀ t, o.dst = some t → t < nt)
    {c : Ctx} {a : Act} {w : World} (hs : SRel c nt s H a w) {next : Act → World → Prop} (hnext : ∀ s' H' a' w', nx s' H' → SRel c nt s' H' a' w' → next a' w') : o.wp P a w next (lift c nt K) := by
  have simple : ∀ {k}, Got P o (ev s) H k → (∀ e, k e → nx (updo s o.dst e.v) (appL H e)) → o.wp P a w next (lift c nt K) := by
    rintro k ⟨e, he, hsem, hn, hu⟩ hk
    exact hsem.srel hn hu hs hd fun a' w' hs' => hnext _ _ _ _ (hk e he) hs'
  unfold vcRun at h
  split at h
  · rename_i cl ho
    split at h
    · rename_i f hc
      unfold callE at h
      split at h
      · rename_i fid first cap hfv
        obtain ⟨R, hcall, hR⟩ := h
        obtain ⟨m, ro, hi, hst, hsl, hsz, hdf⟩ := hs
        have hf := ev_rel hi.inv.glob hsl f
        rw [hfv] at hf
        simp only [VRel] at hf
        obtain ⟨va, vb, hfe, hva, hvb⟩ := hf
        have hargs : VsRel m ro w (cl.args.toList.map (ev s)) (cl.args.map a.eval).toList := by
          rw [Array.toList_map]
          exact map_rel _ fun x _ => ev_rel hi.inv.glob hsl x
        have hrun : (execOp a.eval o).run P w = .ok (.enter fid (va ++ cl.args.map a.eval ++ vb)) w := by
          simp [execOp, ho, resolve, hc, hfe, Deferred.ofValue, invoke, callFunc_run hcall.1]
        unfold Oper.wp
        rw [hrun]
        refine (hcall.2 m ro w (va ++ cl.args.map a.eval ++ vb) hi (by rw [Array.toList_append, Array.toList_append]; exact (hva.append hargs).append hvb)).mono ?_
        rintro e w' ⟨m', ro', out, H', hRo, hout, hi', hst'⟩
        have hk := hR _ _ hRo
        cases out with
        | ret v =>
          cases e with
          | returned u =>
            simp only [OutRel] at hout
            refine hnext _ _ _ _ hk ⟨m', ro', hi', hst.trans hst', (hsl.step hi.inv hst').put hout (fun t ht => by rw [hsz]; exact hd t ht), ?_, ?_⟩
            · cases o.dst <;> simp [Act.put, hsz]
            · cases o.dst <;> simp [Act.put, hdf]
          | panicked _ => exact hout.elim
          | outgrown => exact hout.elim
        | pan =>
          cases e with
          | returned u => exact hout.elim
          | panicked chain => exact ⟨.pan, s, H', hout, ⟨m', ro', hi', hst.trans hst', hsl.step hi.inv hst', hsz, hdf⟩, hk⟩
          | outgrown => exact hout.elim
      · exact h.elim
    · rename_i b hc
      rw [← ho] at h
      exact simple (vcOp_sound h) fun e he => he
    · exact h.elim
  · rename_i ho hne
    exact simple (vcOp_sound h) fun e he => he

theorem vcOps_sound {P : Program} {nt : Nat} {ops : Array Oper} {K : Post} (hd : dstOk nt ops.toList = true) : ∀ (rest : List Oper) (i : Nat) (s : Slots) (H : List Blk), rest = ops.toList.drop i → vcOps P ops.toList rest s H K →
    ∀ (c : Ctx) (a : Act) (w : World), SRel c nt s H a w → wpOps P ops (lift c nt K) (List.range' i rest.length) a w
  | [], i, s, H, _, h, c, a, w, hs => ⟨.normal, s, H, trivial, hs, h⟩
  | o :: os, i, s, H, hr, h, c, a, w, hs => by
    have hi : ops[i]? = some o := by
      have : (ops.toList.drop i)[0]? = some o := by rw [← hr]; rfl
      simpa using this
    have hos : os = ops.toList.drop (i + 1) := by
      have : (ops.toList.drop i).drop 1 = os := by rw [← hr]; rfl
      rw [List.drop_drop] at this
      rw [← this]
    have hmem : o ∈ ops.toList := by
      have := List.mem_of_getElem? (l := ops.toList) (i := i) (a := o) (by simpa using hi)
      exact this
    have hdo := dstOk_of hd hmem
    have run : ∀ s', SRel c nt s' H a w → vcRun P o s' H K (fun s H => vcOps P ops.toList os s H K) → o.wp P a w (wpOps P ops (lift c nt K) (List.range' (i + 1) os.length)) (lift c nt K) := fun s' hs' h' =>
      vcRun_sound h' hdo hs' fun s'' H'' a'' w'' hk hs'' => vcOps_sound hd os (i + 1) s'' H'' hos hk c a'' w'' hs''
    have skip : ∀ s', SRel c nt s' H a w → vcOps P ops.toList os (updo s' o.dst (.tup [])) H K → wpOps P ops (lift c nt K) (List.range' (i + 1) os.length) (a.put o.dst undef) w := by
      intro s' hs' h'
      refine vcOps_sound hd os (i + 1) _ H hos h' c _ w ?_
      obtain ⟨m, ro, h1, h2, hsl, hsz, hdf⟩ := hs'
      refine ⟨m, ro, h1, h2, hsl.put (by simp only [VRel]; exact ⟨#[], rfl, by simp [VsRel]⟩) (fun t ht => by rw [hsz]; exact hdo t ht), ?_, ?_⟩
      · cases o.dst <;> simp [Act.put, hsz]
      · cases o.dst <;> simp [Act.put, hdf]
    simp only [List.length_cons, List.range'_succ, wpOps, hi]
    simp only [vcOps] at h
    unfold vcGuard at h
    split at h
    · rename_i hg
      have hw : Region.wanted o (yielded ops a.tmps) = true := by simp [Region.wanted, hg]
      rw [if_pos hw]
      exact .inl (run s hs h)
    · rename_i j want hg
      split at h
      · rename_i d hdj
        have hdj' : ((ops[j]?).bind (·.dst)) = some d := by simpa using hdj
        split at h
        · rename_i b hb
          have ht := srel_eq hs hb
          have hy : yielded ops a.tmps j = some b := by
            unfold yielded
            rw [hdj']
            simp [ht]
          have hs' := srel_refresh hs hb
          have hw : Region.wanted o (yielded ops a.tmps) = (some b == some want) := by simp [Region.wanted, hg, hy]
          rw [hw]
          rcases decB_or h with ⟨rfl, h⟩ | ⟨rfl, h⟩
          · cases want
            · rw [if_neg (by decide)]; exact skip _ hs' h
            · rw [if_pos (by decide)]; exact .inl (run _ hs' h)
          · cases want
            · rw [if_pos (by decide)]; exact .inl (run _ hs' h)
            · rw [if_neg (by decide)]; exact skip _ hs' h
        · rename_i vs hb
          have ht : (a.tmps[d]?).bind (fun v => match v with | .bool b => some b | _ => none) = none := by
            obtain ⟨m, ro, _, _, hsl, _, _⟩ := hs
            have := hsl d
            rw [hb] at this
            simp only [VRel] at this
            obtain ⟨va, hva, _⟩ := this
            rw [Array.getD_eq_getD_getElem?] at hva
            cases h : a.tmps[d]? with
            | none => rfl
            | some v => rw [h] at hva; simp at hva; subst hva; rfl
          have hy : yielded ops a.tmps j = none := by
            unfold yielded
            rw [hdj']
            cases h : a.tmps[d]? with
            | none => simp [h]
            | some v => cases v <;> simp_all
          have hw : Region.wanted o (yielded ops a.tmps) = false := by simp [Region.wanted, hg, hy]
          rw [hw, if_neg (by decide)]
          exact skip _ hs h
        · exact h.elim
      · exact h.elim

theorem SW.region {P nt id} {ops : Array Oper} {s H} {K : Post} (hd : dstOk nt.nt ops.toList = true) (h : vcOps P ops.toList ops.toList s H K) : SW P nt (.region id ops false) s H K := by
  intro c a w hs
  refine wp_region ?_
  have := vcOps_sound (P := P) hd ops.toList 0 s H (by simp) h c.toCtx a w hs
  rwa [List.range_eq_range', Array.length_toList] at *

/-- The condition of operations, shut: it is opened one operation at a time. -/
structure VOps (P : Program) (all l : List Oper) (s : Slots) (H : List Blk) (K : Post) : Prop where
  out : vcOps P all l s H K

/-- Operations, the first one opened. -/
def vcOps1 (P : Program) (all : List Oper) : List Oper → Slots → List Blk → Post → Prop
  | [], s, H, K => K .normal s H
  | o :: os, s, H, K => vcGuard all o.guard s (fun s => vcRun P o s H K fun s H => VOps P all os s H K) (fun s => VOps P all os (updo s o.dst (.tup [])) H K)

theorem vops_eq (P : Program) (all : List Oper) : VOps P all = vcOps P all := by
  funext l s H K
  exact propext ⟨fun h => h.out, fun h => ⟨h⟩⟩

theorem opsStep {P : Program} {all l : List Oper} {s : Slots} {H : List Blk} {K : Post} (h : vcOps1 P all l s H K) : VOps P all l s H K := by
  refine ⟨?_⟩
  cases l with
  | nil => exact h
  | cons o os =>
    simp only [vcOps1, vops_eq] at h
    exact h

end Tab
