/- Lemmas for this claim: part 3. No condition. -/
import Derived.Test.YtiflemdfnjgobaaDoorZ2
import Derived.Maps.Keyed
set_option linter.unusedVariables false
set_option linter.unusedSimpArgs false
set_option linter.unusedSectionVars false
/- The abstract machine's operations on maps. -/
namespace Tab
open Go
variable [Globs]

def AV.pv : AV → Option Value
  | .bool b => some (.bool b)
  | .int k n => some (.int k n)
  | .str s => some (.string ⟨s.toArray⟩)
  | _ => none
def AV.pvs : List AV → Option (List Value)
  | [] => some []
  | a :: l => a.pv.bind fun v => (AV.pvs l).map fun vs => v :: vs
def AV.pk : AV → Option Value
  | .agg cs => (AV.pvs cs).map fun vs => .agg vs.toArray
  | a => a.pv

theorem AV.pv_rel {m ro w} {a : AV} {v x : Value} (h : a.pv = some x) : VRel m ro w a v ↔ v = x := by
  cases a <;> simp only [AV.pv, Option.some.injEq, reduceCtorEq] at h <;> subst h <;> simp only [VRel]
theorem AV.pv_one {a : AV} {x : Value} (h : a.pv = some x) : x.oneCell' = true := by
  cases a <;> simp only [AV.pv, Option.some.injEq, reduceCtorEq] at h <;> subst h <;> rfl
theorem AV.pvs_rel {m ro w} : ∀ {as : List AV} {vs xs : List Value}, AV.pvs as = some xs → (VsRel m ro w as vs ↔ vs = xs)
  | [], vs, xs, h => by simp only [AV.pvs, Option.some.injEq] at h; subst h; simp only [VsRel]
  | a :: l, vs, xs, h => by
    simp only [AV.pvs, Option.bind_eq_some_iff, Option.map_eq_some_iff] at h
    obtain ⟨x, hx, ys, hy, rfl⟩ := h
    simp only [VsRel]
    constructor
    · rintro ⟨v, vs', rfl, h1, h2⟩
      rw [(AV.pv_rel hx).1 h1, (AV.pvs_rel hy).1 h2]
    · rintro rfl
      exact ⟨x, ys, rfl, (AV.pv_rel hx).2 rfl, (AV.pvs_rel hy).2 rfl⟩
theorem AV.pvs_one : ∀ {as : List AV} {xs : List Value}, AV.pvs as = some xs → ∀ x ∈ xs, x.oneCell' = true
  | [], xs, h => by simp only [AV.pvs, Option.some.injEq] at h; subst h; simp
  | a :: l, xs, h => by
    simp only [AV.pvs, Option.bind_eq_some_iff, Option.map_eq_some_iff] at h
    obtain ⟨x, hx, ys, hy, rfl⟩ := h
    intro y hm
    rcases List.mem_cons.1 hm with rfl | hm
    · exact AV.pv_one hx
    · exact AV.pvs_one hy y hm
theorem AV.pk_rel {m ro w} {a : AV} {v x : Value} (h : a.pk = some x) : VRel m ro w a v ↔ v = x := by
  cases a with
  | agg cs =>
    simp only [AV.pk, Option.map_eq_some_iff] at h
    obtain ⟨vs, hvs, rfl⟩ := h
    simp only [VRel]
    constructor
    · rintro ⟨a, rfl, _, h2⟩
      rw [← (AV.pvs_rel hvs).1 h2]
    · rintro rfl
      exact ⟨vs.toArray, rfl, fun y hy => AV.pvs_one hvs y (by simpa using hy), by rw [List.toList_toArray]; exact (AV.pvs_rel hvs).2 rfl⟩
  | _ => exact AV.pv_rel h

def DFind (es : List (Value × Value)) (k : Value) : Option Value → Prop
  | none => ∀ p ∈ es, p.1 ≠ k
  | some v => (∃ p ∈ es, p.1 = k) ∧ ∀ p ∈ es, p.1 = k → p.2 = v
def DKeys (P : Program) (k : TypeId) (es : List (Value × Value)) : Prop := ∀ p ∈ es, ∃ l, keyOf P k p.1 = some l

theorem dict_get {m ro H w b es} (hi : Inv m ro H w) (hb : H b = some (.dict es)) {cb} (hm : m b 0 = some (.at cb 0)) : ∃ arr clock, w.heap[cb]? = some (.map arr clock) ∧ arr.toList.map (fun e => (e.key, e.val)) = es := by
  obtain ⟨cb', e, h⟩ := hi.blk b _ hb _ hm
  simp only [Loc.at.injEq] at e
  obtain ⟨rfl, _⟩ := e
  exact h

theorem dict_find {P : Program} {kt : TypeId} (K : Maps.Keyed P kt) {w : World} {arr : Array MapEntry} {es : List (Value × Value)} (he : arr.toList.map (fun e => (e.key, e.val)) = es) (hk : DKeys P kt es) {x : Value} {lx : Lit} (hx : keyOf P kt x = some lx) {r : Option Value} (hr : DFind es x r) :
    match r with
    | none => (Instr.findKey kt x arr.toList).run P w = .ok none w
    | some v => ∃ j, (Instr.findKey kt x arr.toList).run P w = .ok (some (j, v)) w := by
  subst he
  have h := K.find w hx arr.toList (fun e hm => hk (e.key, e.val) (List.mem_map.2 ⟨e, hm, rfl⟩))
  cases r with
  | none =>
    rcases h with ⟨h, _⟩ | ⟨j, e, h1, h2, h3⟩
    · exact h
    · exact absurd h3 (hr (e.key, e.val) (List.mem_map.2 ⟨e, List.mem_of_getElem? h2, rfl⟩))
  | some v =>
    obtain ⟨⟨p, hp, hpk⟩, hall⟩ := hr
    rcases h with ⟨_, h⟩ | ⟨j, e, h1, h2, h3⟩
    · obtain ⟨e, he, rfl⟩ := List.mem_map.1 hp
      exact absurd hpk (h e he)
    · have := hall (e.key, e.val) (List.mem_map.2 ⟨e, List.mem_of_getElem? h2, rfl⟩) h3
      exact ⟨j, by rw [h1]; simp only at this; rw [this]⟩

theorem sem_makeMap {P : Program} {o : Oper} {ρ n t} (ho : o.op = .makeMap t none) : OpSem P o ρ n { v := .mp n, new := some (.dict []) } := by
  intro m ro H w a hi hx hn hf next Q kk
  obtain ⟨hHn, hmn⟩ := hf _ rfl
  have hex : (execOp a.eval o).run P w = .ok (.value (.map (some w.heap.size))) (w.alloc (.map #[] 0)) := by
    simp [execOp, ho, Instr.makeMap]
  obtain ⟨k1, k2⟩ := hi.change (m' := fun b₁ g₁ => if b₁ = n ∧ g₁ = 0 then some (.at w.heap.size 0) else m b₁ g₁) (H' := app H n { v := .mp n, new := some (.dict []) }) (w' := w.alloc (.map #[] 0)) n (.dict []) 0 w.heap.size 0 rfl (fun _ _ => rfl) (fun b => by simp only [app])
    (fun g l h => by simp [hmn] at h) (fun l h => by simp [hmn] at h) (.inl (Nat.le_refl _)) (by simp) (by simp) rfl rfl rfl (fun c hc _ => alloc_old w _ hc)
    (fun c t fr h => by
      have : w.heap[w.heap.size]? = none := Array.getElem?_eq_none (Nat.le_refl _)
      rw [this] at h
      simp at h)
    (fun keep loc h => by
      simp only [and_self, if_true, Option.some.injEq] at h
      exact ⟨w.heap.size, h.symm, #[], 0, alloc_heap w _, rfl⟩)
  unfold Oper.wp
  rw [hex]
  refine kk _ _ _ _ ?_ k1 k2 (fun b g hne => ?_)
  · simp only [VRel]; exact ⟨w.heap.size, by simp, rfl⟩
  · by_cases hc : b = n ∧ g = 0
    · exact .inr ⟨hc.1, rfl⟩
    · simp [hc] at hne

theorem sem_len_map {P : Program} {o : Oper} {ρ n c x b} {es : List (Value × Value)} (ho : o.op = .call c) (hc : c.callee = .builtin .len) (ha : c.args = #[x]) (t : TypeId) (ht : c.argTypes[0]? = some t) {kt et : TypeId} (hs : P.underlying t = some (.map kt et))
    (h1 : ρ x = .mp b) : OpSem P o ρ n { v := .int .i64 es.length, need := [(b, .dict es)] } := by
  refine OpSem.value fun m ro H w a hi hx hn => ?_
  have e1 := hx x (by simp [ho, Op.operands, Call.operands, hc, ha])
  rw [h1] at e1
  simp only [VRel] at e1
  obtain ⟨cb, hm, e1⟩ := e1
  obtain ⟨arr, ck, hb, he⟩ := dict_get hi (hn (b, .dict es) (by simp)) hm
  refine ⟨.int .i64 es.length, ?_, by simp only [VRel]⟩
  rw [← he]
  simp [execOp, ho, resolve, hc, ha, invoke, builtin, Builtin.len_, ht, e1, run_underlying' hs, goInt, MapKept.run_getObj_map hb]

theorem sem_lookup_some {P : Program} {o : Oper} {ρ n t x y b} {es : List (Value × Value)} {kt et : TypeId} {ok : Bool} {kv v : Value} {lx : Lit} {ka va : AV} (ho : o.op = .lookup t x y ok) (hs : P.underlying t = some (.map kt et)) (K : Maps.Keyed P kt)
    (h1 : ρ x = .mp b) (h2 : ρ y = ka) (hk : ka.pk = some kv) (hv : va.pk = some v) (hlx : keyOf P kt kv = some lx) (hks : DKeys P kt es) (hf : DFind es kv (some v)) :
    OpSem P o ρ n { v := if ok then .tup [va, .bool true] else va, need := [(b, .dict es)] } := by
  refine OpSem.value fun m ro H w a hi hx hn => ?_
  have e1 := hx x (by simp [ho, Op.operands])
  have e2 := hx y (by simp [ho, Op.operands])
  rw [h1] at e1
  rw [h2] at e2
  simp only [VRel] at e1
  obtain ⟨cb, hm, e1⟩ := e1
  have e2 := (AV.pk_rel hk).1 e2
  obtain ⟨arr, ck, hb, he⟩ := dict_get hi (hn (b, .dict es) (by simp)) hm
  obtain ⟨j, hfind⟩ := dict_find (w := w) K he hks hlx hf
  have hck := K.check w arr.isEmpty hlx
  refine ⟨if ok then .tuple #[v, .bool true] else v, ?_, ?_⟩
  · simp [execOp, ho, Instr.lookup, e1, e2, run_underlying' hs, MapKept.run_getObj_map hb, hck, hfind]
  · cases ok
    · exact (AV.pk_rel hv).2 rfl
    · simp only [VRel, if_true]
      exact ⟨_, rfl, by simp only [VsRel]; exact ⟨v, _, rfl, (AV.pk_rel hv).2 rfl, _, _, rfl, by simp only [VRel], rfl⟩⟩

theorem sem_lookup_none {P : Program} {o : Oper} {ρ n t x y b} {es : List (Value × Value)} {kt et : TypeId} {ok : Bool} {kv v : Value} {lx : Lit} {ka va : AV} (ho : o.op = .lookup t x y ok) (hs : P.underlying t = some (.map kt et)) (K : Maps.Keyed P kt)
    (h1 : ρ x = .mp b) (h2 : ρ y = ka) (hk : ka.pk = some kv) (hz : ∀ w, (zeroValue et).run P w = .ok v w) (hv : va.pk = some v) (hlx : keyOf P kt kv = some lx) (hks : DKeys P kt es) (hf : DFind es kv none) :
    OpSem P o ρ n { v := if ok then .tup [va, .bool false] else va, need := [(b, .dict es)] } := by
  refine OpSem.value fun m ro H w a hi hx hn => ?_
  have e1 := hx x (by simp [ho, Op.operands])
  have e2 := hx y (by simp [ho, Op.operands])
  rw [h1] at e1
  rw [h2] at e2
  simp only [VRel] at e1
  obtain ⟨cb, hm, e1⟩ := e1
  have e2 := (AV.pk_rel hk).1 e2
  obtain ⟨arr, ck, hb, he⟩ := dict_get hi (hn (b, .dict es) (by simp)) hm
  have hfind := dict_find (w := w) K he hks hlx hf
  simp only at hfind
  have hck := K.check w arr.isEmpty hlx
  refine ⟨if ok then .tuple #[v, .bool false] else v, ?_, ?_⟩
  · simp [execOp, ho, Instr.lookup, e1, e2, run_underlying' hs, MapKept.run_getObj_map hb, hck, hfind, hz]
  · cases ok
    · exact (AV.pk_rel hv).2 rfl
    · simp only [VRel, if_true]
      exact ⟨_, rfl, by simp only [VsRel]; exact ⟨v, _, rfl, (AV.pk_rel hv).2 rfl, _, _, rfl, by simp only [VRel], rfl⟩⟩

theorem sem_mapUpdate_new {P : Program} {o : Oper} {ρ n t x y z b} {es : List (Value × Value)} {kt et : TypeId} {kv v : Value} {lx : Lit} {ka va : AV} (ho : o.op = .mapUpdate t x y z) (hs : P.underlying t = some (.map kt et)) (K : Maps.Keyed P kt)
    (h1 : ρ x = .mp b) (h2 : ρ y = ka) (h3 : ρ z = va) (hk : ka.pk = some kv) (hv : va.pk = some v) (hlx : keyOf P kt kv = some lx) (hks : DKeys P kt es) (hf : DFind es kv none) :
    OpSem P o ρ n { v := .junk, need := [(b, .dict es)], upd := some (b, .dict (es ++ [(kv, v)])) } := by
  intro m ro H w a hi hx hn hfr next Q kk
  have e1 := hx x (by simp [ho, Op.operands])
  have e2 := hx y (by simp [ho, Op.operands])
  have e3 := hx z (by simp [ho, Op.operands])
  rw [h1] at e1
  rw [h2] at e2
  rw [h3] at e3
  simp only [VRel] at e1
  obtain ⟨cb, hm, e1⟩ := e1
  have e2 := (AV.pk_rel hk).1 e2
  have e3 := (AV.pk_rel hv).1 e3
  have hB := hn (b, .dict es) (by simp)
  obtain ⟨arr, ck, hb, he⟩ := dict_get hi hB hm
  have hfind := dict_find (w := w) K he hks hlx hf
  simp only at hfind
  have hck := K.check w false hlx
  have hlt := (Array.getElem?_eq_some_iff.1 hb).1
  let w' : World := { w with heap := w.heap.setIfInBounds cb (.map (arr.push { key := kv, val := v, born := ck }) (ck + 1)) }
  have hself : w'.heap[cb]? = some (.map (arr.push { key := kv, val := v, born := ck }) (ck + 1)) := by simp [w', hlt]
  have hex : (execOp a.eval o).run P w = .ok .skip w' := by
    simp [execOp, ho, Instr.mapUpdate, e1, e2, e3, run_underlying' hs, MapKept.run_getObj_map hb, hck, hfind, MapKept.run_setObj_map _ hb, w']
  obtain ⟨k1, k2⟩ := hi.change (m' := m) (H' := app H n { v := .junk, need := [(b, .dict es)], upd := some (b, .dict (es ++ [(kv, v)])) }) (w' := w') b (.dict (es ++ [(kv, v)])) 0 cb 0 rfl
    (fun b₁ g₁ => by split <;> simp_all) (fun b => by simp only [app]) (fun g l h => hi.gen b _ 0 hB rfl g l h) (fun l h => by rw [hm] at h; cases h; rfl) (.inr ⟨_, 0, 0, hB, rfl, hm⟩) (by simp [w', hlt]) (by simp [w']) rfl rfl rfl
    (fun c hc hne => by simp [w', Ne.symm hne]) (fun c t fr h => by rw [hb] at h; simp at h)
    (fun keep loc h => by
      rw [hm] at h
      exact ⟨cb, by simpa using h.symm, _, _, hself, by rw [← he]; simp⟩)
  unfold Oper.wp
  rw [hex]
  exact kk _ _ _ undef (by simp only [VRel]) k1 k2 (fun b g hne => absurd rfl hne)

def isMap (P : Program) (t : TypeId) : Bool := match P.underlying t with | some (.map _ _) => true | _ => false
theorem isMap_some {P : Program} {t : TypeId} (h : isMap P t = true) : ∃ kt et, P.underlying t = some (.map kt et) := by
  unfold isMap at h
  split at h
  · rename_i e; exact ⟨_, _, e⟩
  · simp at h

inductive LookE (P : Program) (t : TypeId) (ok : Bool) (ka : AV) (b : Nat) (es : List (Value × Value)) : Eff → Prop
  | hit {kt et : TypeId} {kv v : Value} {lx : Lit} {va : AV} (hs : P.underlying t = some (.map kt et)) (K : Maps.Keyed P kt) (hk : ka.pk = some kv) (hv : va.pk = some v) (hlx : keyOf P kt kv = some lx) (hks : DKeys P kt es) (hf : DFind es kv (some v)) :
      LookE P t ok ka b es { v := if ok then .tup [va, .bool true] else va, need := [(b, .dict es)] }
  | miss {kt et : TypeId} {kv v : Value} {lx : Lit} {va : AV} (hs : P.underlying t = some (.map kt et)) (K : Maps.Keyed P kt) (hk : ka.pk = some kv) (hz : ∀ w, (zeroValue et).run P w = .ok v w) (hv : va.pk = some v) (hlx : keyOf P kt kv = some lx) (hks : DKeys P kt es) (hf : DFind es kv none) :
      LookE P t ok ka b es { v := if ok then .tup [va, .bool false] else va, need := [(b, .dict es)] }
inductive PutE (P : Program) (t : TypeId) (ka va : AV) (b : Nat) (es : List (Value × Value)) : Eff → Prop
  | new {kt et : TypeId} {kv v : Value} {lx : Lit} (hs : P.underlying t = some (.map kt et)) (K : Maps.Keyed P kt) (hk : ka.pk = some kv) (hv : va.pk = some v) (hlx : keyOf P kt kv = some lx) (hks : DKeys P kt es) (hf : DFind es kv none) :
      PutE P t ka va b es { v := .junk, need := [(b, .dict es)], upd := some (b, .dict (es ++ [(kv, v)])) }

theorem LookE.sem {P : Program} {o : Oper} {ρ n t x y b} {es : List (Value × Value)} {ok : Bool} {e : Eff} (ho : o.op = .lookup t x y ok) (h1 : ρ x = .mp b) (h : LookE P t ok (ρ y) b es e) : OpSem P o ρ n e := by
  cases h with
  | hit hs K hk hv hlx hks hf => exact sem_lookup_some ho hs K h1 rfl hk hv hlx hks hf
  | miss hs K hk hz hv hlx hks hf => exact sem_lookup_none ho hs K h1 rfl hk hz hv hlx hks hf
theorem LookE.fit {P t ok ka b es e} (h : LookE P t ok ka b es e) : e.need = [(b, .dict es)] ∧ e.upd = none := by cases h <;> exact ⟨rfl, rfl⟩
theorem PutE.sem {P : Program} {o : Oper} {ρ n t x y z b} {es : List (Value × Value)} {e : Eff} (ho : o.op = .mapUpdate t x y z) (h1 : ρ x = .mp b) (h : PutE P t (ρ y) (ρ z) b es e) : OpSem P o ρ n e := by
  cases h with
  | new hs K hk hv hlx hks hf => exact sem_mapUpdate_new ho hs K h1 rfl rfl hk hv hlx hks hf

end Tab
